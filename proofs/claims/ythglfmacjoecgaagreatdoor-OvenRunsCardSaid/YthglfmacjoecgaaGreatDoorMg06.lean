/- Texts of the proof, one behind the other: recipe.IsName, areNames walked. -/
import Derived.Test.YthglfmacjoecgaaGreatDoorMg01
import Derived.Test.YthglfmacjoecgaaGreatDoorShelf
import Derived.Shelf.Strings.SlTrimAscii
import Derived.BigQuiet
namespace Go.Proofs.YthglfmacjoecgaaGreatDoor
open Go.RowKit

theorem ba_eq (a b : ByteArray) : (a == b) = decide (a = b) := by
  rcases a with ⟨a⟩; rcases b with ⟨b⟩
  show (a == b) = _
  by_cases h : a = b <;> simp [h]
theorem ba_isEmpty (s : ByteArray) : s.toList.isEmpty = decide (s.size = 0) := by
  rw [Lib.toList_data]
  have := Lib.size_eq s
  cases h : s.data.toList with
  | nil => rw [h] at this; simp [this]
  | cons a b =>
    rw [h] at this
    have h2 : s.size ≠ 0 := by rw [this]; simp
    simp [h2]

def lettersL : List UInt8 := [97, 98, 99, 100, 101, 102, 103, 104, 105, 106, 107, 108, 109, 110, 111, 112, 113, 114, 115, 116, 117, 118, 119, 120, 121, 122, 48, 49, 50, 51, 52, 53, 54, 55, 56, 57]
theorem letters_let (b : UInt8) : lettersL.contains b = letB b := by
  have key : ∀ n : Fin 256, lettersL.contains (UInt8.ofNat n.1) = letB (UInt8.ofNat n.1) := by decide +kernel
  have := key ⟨b.toNat, b.toNat_lt⟩
  simpa using this
theorem mem_dropWhile {p : UInt8 → Bool} {x : UInt8} : ∀ {l : List UInt8}, x ∈ l → p x = false → x ∈ l.dropWhile p
  | y :: r, h, hp => by
    unfold List.dropWhile
    cases hy : p y with
    | true =>
      simp only
      rcases List.mem_cons.1 h with rfl | h
      · rw [hy] at hp; cases hp
      · exact mem_dropWhile h hp
    | false => simpa using h
theorem dropWhile_all {p : UInt8 → Bool} : ∀ {l : List UInt8}, l.all p = true → l.dropWhile p = []
  | [], _ => rfl
  | y :: r, h => by
    simp only [List.all_cons, Bool.and_eq_true] at h
    unfold List.dropWhile
    rw [h.1]
    exact dropWhile_all h.2
theorem trim_nil (l : List UInt8) : (Lib.trimS l lettersL = []) ↔ l.all letB = true := by
  unfold Lib.trimS Lib.trimLeftS Lib.trimRightS
  have hp : (fun b => lettersL.contains b) = letB := funext letters_let
  rw [hp]
  constructor
  · intro h
    rw [List.all_eq_true]
    intro x hx
    cases hl : letB x with
    | true => rfl
    | false =>
      have h1 : x ∈ l.reverse.dropWhile letB := mem_dropWhile (List.mem_reverse.2 hx) hl
      have h2 : x ∈ (l.reverse.dropWhile letB).reverse.dropWhile letB := mem_dropWhile (List.mem_reverse.2 h1) hl
      rw [h] at h2
      exact absurd h2 (by simp)
  · intro h
    have h1 : l.reverse.all letB = true := by rw [List.all_reverse]; exact h
    rw [dropWhile_all h1]
    rfl

set_option maxRecDepth 100000 in
theorem trim_any (s : ByteArray) (hs : s.size ≤ maxLen) (w : World) :
    Calls Tryz.prog 185 #[.string s, .string { data := #[97, 98, 99, 100, 101, 102, 103, 104, 105, 106, 107, 108, 109, 110, 111, 112, 113, 114, 115, 116, 117, 118, 119, 120, 121, 122, 48, 49, 50, 51, 52, 53, 54, 55, 56, 57] }] w
      (fun e w' => ∃ r : ByteArray, e = .returned (.string r) ∧ r.toList.isEmpty = s.data.toList.all letB ∧ Chg (fun _ => False) w w') := by
  unfold maxLen at hs
  have h := Any.strings_Trim_laid Tryz.lays160 (by kernel_rfl) s ⟨lettersL.toArray⟩ w (by omega) (by decide +kernel) (ascii_of_all (by decide +kernel))
  refine Calls.mono h ?_
  rintro e w' ⟨rfl, hb⟩
  refine ⟨_, rfl, ?_, (Chg.of_below hb).mono (fun i hi h => by omega)⟩
  rw [ba_isEmpty]
  have e1 := trim_nil s.data.toList
  have e2 : (ByteArray.mk (Lib.trimS s.data.toList lettersL).toArray).size = (Lib.trimS s.data.toList lettersL).length := by simp [ByteArray.size]
  show decide ((ByteArray.mk (Lib.trimS s.data.toList lettersL).toArray).size = 0) = _
  rw [e2, Bool.eq_iff_iff, decide_eq_true_eq, ← e1, List.length_eq_zero_iff]

theorem isName_any (s : ByteArray) (hs : s.size ≤ maxLen) (w : World) : Calls Tryz.prog 179 #[.string s] w (Rets (.bool (nameL s.data.toList)) (Chg (fun _ => False) w)) := by
  have ht := trim_any s hs
  unfold maxLen at hs
  have hsl : s.data.toList.length = s.size := (Lib.size_eq s).symm
  by_cases h0 : s.size = 0
  · have e0 : s.toList.isEmpty = true := by rw [ba_isEmpty]; simp [h0]
    have hr : nameL s.data.toList = false := by unfold nameL; rw [hsl, h0]; rfl
    rw [hr]
    clear ht hsl hr
    go_enter Tryz.func179, Tryz.ntmps179
    go_wp2
    go_ret
    exact ⟨rfl, Chg.refl _ _⟩
  · have e0 : s.toList.isEmpty = false := by rw [ba_isEmpty]; simp [h0]
    by_cases h8 : s.size ≤ 8
    · have h8' : (s.size : Int) ≤ 8 := by omega
      have hr : nameL s.data.toList = s.data.toList.all letB := by unfold nameL; rw [hsl]; simp [h8]; omega
      rw [hr]
      generalize s.data.toList.all letB = B at ht
      clear hsl hr
      go_enter Tryz.func179, Tryz.ntmps179
      go_wp2_with (go_at_call 185; refine (ht _).mono ?_; rintro e w' ⟨r, rfl, hr, hc⟩)
      go_ret
      exact ⟨by first | rfl | rw [hr], hc⟩
    · have h8' : ¬ (s.size : Int) ≤ 8 := by omega
      have hr : nameL s.data.toList = false := by unfold nameL; rw [hsl]; simp [h8]
      rw [hr]
      clear ht hsl hr
      go_enter Tryz.func179, Tryz.ntmps179
      go_wp2
      go_ret
      exact ⟨rfl, Chg.refl _ _⟩
theorem isNameL_any (l : List UInt8) (hl : l.length ≤ maxLen) (w : World) : Calls Tryz.prog 179 #[.string (bs l)] w (Rets (.bool (nameL l)) (Chg (fun _ => False) w)) := by
  have := isName_any (bs l) (by rw [bs_size]; exact hl) w
  rwa [bs_data] at this

theorem notName_any (s : ByteArray) (hs : s.size ≤ maxLen) (w : World) : Calls Tryz.prog 180 #[.string s] w (Rets (.bool (!nameL s.data.toList)) (Chg (fun _ => False) w)) := by
  have h := isName_any s hs
  clear hs
  go_enter Tryz.func180, Tryz.ntmps180
  go_wp2_with (go_at_call 179; refine (h _).mono ?_; rintro e w' ⟨rfl, hc⟩)
  go_ret
  exact ⟨rfl, hc⟩

set_option maxHeartbeats 1000000 in
theorem ixn_any (v : Value) (ss : List ByteArray) (w : World) (hin : StrsAt w v ss) :
    Calls Tryz.prog 92 #[v, .func (.func 180) #[] #[]] w (fun e w' => ∃ r : Int, e = .returned (.int .i64 r) ∧ (r < 0 ↔ ∀ s ∈ ss, nameL s.data.toList = true) ∧ Chg (fun _ => False) w w') := by
  have hlenI := fun W ty => hin.len (P := Tryz.prog) Tryz.underlying22 W ty
  have hmx := hin.2.1
  unfold maxLen at hmx
  have H := hid hin
  clear hin
  go_enter Tryz.func92, Tryz.ntmps92
  go_wp2_with fail
  go_loopw [8] (fun i wr => ∃ k : Nat, k ≤ ss.length ∧ i = .int .i64 k ∧ Chg (fun _ => False) w wr ∧ ∀ j (h : j < ss.length), j < k → nameL ss[j].data.toList = true) (fun i _ => ss.length - (intOf i).toNat)
  case atStart => exact ⟨0, Nat.zero_le _, rfl, Chg.refl _ _, fun j _ h => absurd h (Nat.not_lt_zero _)⟩
  case round =>
    obtain ⟨k, hk, rfl, hch, hall⟩ := hrel
    have HA := hid hall
    have HC := hid hch
    have S2 := H.out.chg hch (fun _ _ h => h)
    clear hall hch
    by_cases hkn : k < ss.length
    · have hkn' : (k : Int) < ss.length := by omega
      obtain ⟨ad, hix, hadc, hadb⟩ := S2.ix (P := Tryz.prog) Tryz.underlying22 Tryz.sizeOf9 k hkn
      have hsk := S2.2.2 _ (List.getElem_mem hkn)
      clear S2
      cases hw : nameL ss[k].data.toList with
      | false =>
        have hn := notName_any ss[k] hsk
        rw [hw] at hn
        go_wp2_with (go_at_call 180; refine (hn _).mono ?_; rintro e w' ⟨rfl, hc⟩)
        go_ret
        refine ⟨k, rfl, ⟨fun h => by omega, fun h => ?_⟩, HC.out.trans hc (fun _ _ h => h)⟩
        have := h _ (List.getElem_mem hkn)
        rw [hw] at this; cases this
      | true =>
        have hn := notName_any ss[k] hsk
        rw [hw] at hn
        go_wp2_with (go_at_call 180; refine (hn _).mono ?_; rintro e w' ⟨rfl, hc⟩)
        go_roundw
        case rel =>
          refine ⟨k + 1, by omega, by go_num, HC.out.trans hc (fun _ _ h => h), fun j hj hjk => ?_⟩
          by_cases e : j = k
          · subst e; exact hw
          · exact HA.out j hj (by omega)
        case measure => simp [intOf]; omega
    · obtain rfl : k = ss.length := by omega
      go_wp2_with fail
      go_ret
      refine ⟨_, rfl, ⟨fun _ s hs => ?_, fun _ => by decide⟩, HC.out⟩
      obtain ⟨j, hj, rfl⟩ := List.mem_iff_getElem.1 hs
      exact HA.out j hj hj
theorem cfn_any (v : Value) (ss : List ByteArray) (w : World) (hin : StrsAt w v ss) :
    Calls Tryz.prog 57 #[v, .func (.func 180) #[] #[]] w (Rets (.bool (!ss.all fun s => nameL s.data.toList)) (Chg (fun _ => False) w)) := by
  have hix := ixn_any v ss w hin
  clear hin
  go_enter Tryz.func57, Tryz.ntmps57
  go_wp2_with (go_at_call 92; refine hix.mono ?_; rintro e w' ⟨r, rfl, hr, hc⟩)
  go_ret
  refine ⟨?_, hc⟩
  have e1 : (ss.all fun s => nameL s.data.toList) = decide (r < 0) := by
    rw [Bool.eq_iff_iff, List.all_eq_true, decide_eq_true_eq, hr]
  rw [e1]
  by_cases h : r < 0
  · simp [h]
  · simp [h]; omega
theorem areNames_any (v : Value) (ss : List ByteArray) (w : World) (hin : StrsAt w v ss) :
    Calls Tryz.prog 166 #[v] w (Rets (.bool (ss.all fun s => nameL s.data.toList)) (Chg (fun _ => False) w)) := by
  have h := cfn_any v ss w hin
  clear hin
  go_enter Tryz.func166, Tryz.ntmps166
  go_wp2_with (go_at_call 57; refine h.mono ?_; rintro e w' ⟨rfl, hc⟩)
  go_ret
  exact ⟨by simp, hc⟩
theorem areNamesL_any (v : Value) (ss : List (List UInt8)) (w : World) (hin : NamesAt w v ss) :
    Calls Tryz.prog 166 #[v] w (Rets (.bool (ss.all nameL)) (Chg (fun _ => False) w)) := by
  have := areNames_any v (ss.map bs) w hin
  have e : ((ss.map bs).all fun s => nameL s.data.toList) = ss.all nameL := by
    rw [List.all_map]
    congr 1
  rwa [e] at this
end Go.Proofs.YthglfmacjoecgaaGreatDoor
