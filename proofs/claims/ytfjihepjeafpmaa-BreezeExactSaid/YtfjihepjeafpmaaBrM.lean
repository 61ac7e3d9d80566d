/- great, near, and the calls on no Breeze walked. -/
import Derived.Test.YtfjihepjeafpmaaBrG
import Derived.Test.YtfjihepjeafpmaaRowsAt
import Derived.Test.YtfjihepjeafpmaaMapsB
namespace Go.Proofs.Ytfjihepjeafpmaa
open Go.RowKit

theorem sz46b (w : World) : (sizeOf 46).run Try.prog w = .ok 7 w := by kernel_rfl
theorem ActsAt.at {w : World} {v : Value} {xs : List Deed} (h : ActsAt w v xs) (k : Nat) (hk : k < xs.length) : ∃ bb oo, (∀ w, (Instr.indexAt 37 v (.int .i64 k)).run Try.prog w = .ok (.pointer (some ⟨bb, oo, none⟩)) w) ∧
    (∀ j u, xs[k].cells[j]? = some u → w.cell? ⟨bb, oo + j, none⟩ = some u) ∧ bb < w.heap.size ∧ xs[k].ok := by
  obtain ⟨bb, oo, h1, h2, h3⟩ := h.1.ix (P := Try.prog) Try.underlying37 sz46b (by decide) k hk
  have hd : xs.getD k Deed.none = xs[k] := by rw [List.getD_eq_getElem?_getD, List.getElem?_eq_getElem hk]; rfl
  rw [hd] at h2
  refine ⟨bb, oo, h1, fun j u hu => ?_, h3, h.2 _ (List.getElem_mem _)⟩
  rw [h2 j (by have := (List.getElem?_eq_some_iff.1 hu).1; simpa [Deed.cells] using this)]
  exact hu

/-- Whether the acts that are played bear more bytes than is asked. -/
def greatB (xs : List Deed) (k : Nat) : Bool := (xs.take k).any fun x => decide (8192 < x.by_.size)
set_option maxRecDepth 100000 in
set_option maxHeartbeats 1000000 in
theorem great_any (w : World) (v : Value) (xs : List Deed) (hS : ActsAt w v xs) :
    Calls Try.prog 14 #[v] w (Rets (.bool (greatB xs 250)) (fun w' => w = w')) := by
  have hlen := hS.1.len (P := Try.prog) Try.underlying37
  go_enter Try.func14, Try.ntmps14
  go_wp2_with fail
  go_loop [3] (fun i => ∃ k : Nat, k ≤ xs.length ∧ k ≤ 250 ∧ i = .int .i64 k ∧ greatB xs k = false) (fun i => xs.length - (intOf i).toNat)
  case atStart => exact ⟨0, Nat.zero_le _, Nat.zero_le _, rfl, rfl⟩
  case round =>
    obtain ⟨k, hk, hk250, rfl, hg⟩ := hrel
    have HG := hid hg
    clear hg
    by_cases hkn : k < xs.length ∧ k < 250
    · obtain ⟨hkn, hk2⟩ := hkn
      have hkn' : (k : Int) < xs.length := by omega
      have hk250' : (k : Int) < 250 := by omega
      obtain ⟨bb, oo, hix, hcs, hlt, hok⟩ := hS.at k hkn
      have c3 := hcs 3 _ rfl
      have hsz := hok.1
      unfold maxLen at hsz
      have hstep : greatB xs (k + 1) = (greatB xs k || decide (8192 < xs[k].by_.size)) := by
        unfold greatB
        rw [List.take_succ_eq_append_getElem hkn, List.any_append]
        simp
      have HS := hid hstep
      clear hstep hcs
      by_cases hb : 8192 < xs[k].by_.size
      · have hb' : 8192 < (xs[k].by_.size : Int) := by omega
        go_wp2_with fail
        go_ret
        refine ⟨congrArg (fun b => Ending.returned (Value.bool b)) ?_, rfl⟩
        have h1 : greatB xs (k + 1) = true := by rw [HS.out, HG.out]; simp [hb]
        symm
        unfold greatB at h1 ⊢
        rw [List.any_eq_true] at h1 ⊢
        obtain ⟨x, hx, hx2⟩ := h1
        refine ⟨x, ?_, hx2⟩
        have : (xs.take 250).take (k + 1) = xs.take (k + 1) := by rw [List.take_take, Nat.min_eq_left (by omega)]
        rw [← this] at hx
        exact List.mem_of_mem_take hx
      · have hb' : (xs[k].by_.size : Int) ≤ 8192 := by omega
        go_wp2_with fail
        go_round
        case rel => exact ⟨k + 1, by omega, by omega, by go_num, by rw [HS.out, HG.out]; simp; omega⟩
        case measure => simp [intOf]; omega
    · have hor : (k : Int) < xs.length → 250 ≤ (k : Int) := by omega
      go_wp2_with fail
      all_goals first | (exfalso; omega) | skip
      all_goals go_ret
      all_goals refine ⟨congrArg (fun b => Ending.returned (Value.bool b)) ?_, rfl⟩
      all_goals
        have hx : xs.take 250 = xs.take k := by
          by_cases h : k = 250
          · rw [h]
          · rw [List.take_of_length_le (show xs.length ≤ k by omega), List.take_of_length_le (by omega)]
        rw [← HG.out]
        unfold greatB
        rw [hx]

/-- In how many bytes two texts part. -/
def partN : List UInt8 → List UInt8 → Nat
  | a :: l, b :: r => (if a = b then 0 else 1) + partN l r
  | _, _ => 0
theorem partN_snoc (a b : UInt8) : ∀ (l r : List UInt8), l.length = r.length → partN (l ++ [a]) (r ++ [b]) = partN l r + if a = b then 0 else 1
  | [], [], _ => by simp [partN]
  | [], _ :: _, h => by simp at h
  | _ :: _, [], h => by simp at h
  | x :: l, y :: r, h => by
    simp only [List.cons_append, partN]
    rw [partN_snoc a b l r (by simpa using h)]
    omega
theorem partN_self : ∀ (l : List UInt8), partN l l = 0
  | [] => rfl
  | x :: l => by simp [partN, partN_self l]
theorem partN_set (b : UInt8) : ∀ (l : List UInt8) (i : Nat) (h : i < l.length), b ≠ l[i] → partN l (l.set i b) = 1
  | [], _, h, _ => by simp at h
  | x :: l, 0, _, hb => by
    simp only [List.set_cons_zero, partN]
    rw [if_neg (fun e => hb (by simpa using e.symm)), partN_self]
  | x :: l, i + 1, h, hb => by
    simp only [List.set_cons_succ, partN]
    rw [partN_set b l i (by simpa using h) (by simpa using hb)]
    simp
theorem partN_le : ∀ (l r : List UInt8), partN l r ≤ l.length
  | [], _ => by simp [partN]
  | _ :: _, [] => by simp [partN]
  | x :: l, y :: r => by
    simp only [partN, List.length_cons]
    have := partN_le l r
    split <;> omega
def nearI (a b : ByteArray) : Int := if a.size = b.size then (partN a.data.toList b.data.toList : Int) else -1
theorem bytes_take_succ (s : ByteArray) (k : Nat) (h : k < s.size) : s.data.toList.take (k + 1) = s.data.toList.take k ++ [s[k]] := by
  rw [List.take_succ_eq_append_getElem (by simpa using h)]; rfl
set_option maxRecDepth 100000 in
set_option maxHeartbeats 1000000 in
theorem near_any (a b : ByteArray) (w : World) (ha : a.size ≤ maxLen) (hb : b.size ≤ maxLen) :
    Calls Try.prog 25 #[.string a, .string b] w (Rets (.int .i64 (nearI a b)) (fun w' => ∃ q, w' = w.drewN q)) := by
  unfold maxLen at ha hb
  by_cases hab : a.size = b.size
  · have e : nearI a b = (partN a.data.toList b.data.toList : Int) := by unfold nearI; rw [if_pos hab]
    rw [e]
    have hab' : ((a.size : Int) != (b.size : Int)) = false := by simp [hab]
    have HE := hid hab
    clear hab e
    go_enter Try.func25, Try.ntmps25
    go_wp2_with fail
    go_loopw [5, 6] (fun n i wr => ∃ k : Nat, k ≤ a.size ∧ i = .int .i64 k ∧ n = .int .i64 (partN (a.data.toList.take k) (b.data.toList.take k)) ∧ ∃ q, wr = w.drewN q) (fun _ i _ => a.size - (intOf i).toNat)
    case atStart => exact ⟨0, Nat.zero_le _, rfl, rfl, 0, rfl⟩
    case round =>
      obtain ⟨k, hk, rfl, rfl, q, rfl⟩ := hrel
      have hpl := partN_le (a.data.toList.take k) (b.data.toList.take k)
      have hpl2 : (a.data.toList.take k).length ≤ k := List.length_take_le _ _
      have hpl3 : ((partN (a.data.toList.take k) (b.data.toList.take k) : Nat) : Int) ≤ k := by omega
      by_cases hkn : k < a.size
      · have hkb : k < b.size := by rw [← HE.out]; exact hkn
        have hkn' : (k : Int) < a.size := by omega
        have hkb' : (k : Int) < b.size := by omega
        have hst : partN (a.data.toList.take (k + 1)) (b.data.toList.take (k + 1)) = partN (a.data.toList.take k) (b.data.toList.take k) + if a[k] = b[k] then 0 else 1 := by
          rw [bytes_take_succ a k hkn, bytes_take_succ b k hkb, partN_snoc _ _ _ _ (by simp; omega)]
        have HS := hid hst
        clear hst
        by_cases hne : a[k] = b[k]
        · have hne' : ((a[k].toNat : Int) != (b[k].toNat : Int)) = false := by simp [hne]
          have HN := hid hne
          clear hne
          go_wp2_with fail
          go_quiet (fail)
          go_wp2_with fail
          go_roundw
          case rel => exact ⟨k + 1, by omega, by go_num, by rw [HS.out, if_pos HN.out]; rfl, _, rfl⟩
          case measure => simp [intOf]; omega
        · have hne' : ((a[k].toNat : Int) != (b[k].toNat : Int)) = true := by
            simp
            intro h
            exact hne (UInt8.toNat_inj.1 (by omega))
          go_wp2_with fail
          go_quiet (fail)
          go_wp2_with fail
          go_roundw
          case rel => exact ⟨k + 1, by omega, by go_num, by rw [HS.out, if_neg hne]; go_num, _, rfl⟩
          case measure => simp [intOf]; omega
      · obtain rfl : k = a.size := by omega
        go_wp2_with fail
        go_ret
        refine ⟨congrArg (fun n : Nat => Ending.returned (Value.int .i64 n)) ?_, q, rfl⟩
        rw [List.take_of_length_le (by simp), List.take_of_length_le (by simp [HE.out])]
  · have e : nearI a b = -1 := by unfold nearI; rw [if_neg hab]
    rw [e]
    have hab' : ((a.size : Int) != (b.size : Int)) = true := by simp; omega
    clear e
    go_enter Try.func25, Try.ntmps25
    go_wp2_with fail
    go_ret
    exact ⟨rfl, 0, rfl⟩
end Go.Proofs.Ytfjihepjeafpmaa
