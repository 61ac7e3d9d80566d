/- Texts of the proof, one behind the other: apiaryref06.step, all letters joined: what a step leaves is stepRM; mill.Steps walked: stepsG; apiaryref06.width, Steps, apiaryref01.Same walked. -/
import Derived.Test.YthglfmacjoecgaaGreatDoorMg32
import Derived.Test.YthglfmacjoecgaaGreatDoorMg10
import Derived.Test.YthglfmacjoecgaaGreatDoorMg11
import Derived.BigQuiet
namespace Go.Proofs.YthglfmacjoecgaaGreatDoor
open Go.RowKit

/-- What the document's step answers, said by stepR's triple. -/
def RDone (nx : Nat) (q : Nat × Nat × List ByteArray) (w : World) (e : Ending) (w' : World) : Prop :=
  Chg (fun _ => False) w w' ∧ ((q.1 ≠ 0 ∧ e = .returned (.tuple #[.slice none 0 0, .int .i64 (-1), .int .i64 q.1])) ∨
    (q.1 = 0 ∧ ∃ g cap to2, e = .returned (.tuple #[.slice (some ⟨g, 0, none⟩) q.2.2.length cap, .int .i64 to2, .int .i64 0]) ∧ RowT w' g cap q.2.2.length q.2.2 ∧ ((to2 = -1 ∧ q.2.1 = nx) ∨ to2 = (q.2.1 : Int))))

theorem rdone_ok {f : FuncId} {args : Array Value} {w : World} {l' : List ByteArray} {to2 : Int} {nx k : Nat} {p : Nat × List ByteArray} (h : Calls Tryz.prog f args w (StepOk w l' to2)) (hq : p = (0, l')) (hto : (to2 = -1 ∧ k = nx) ∨ to2 = (k : Int)) :
    Calls Tryz.prog f args w (RDone nx (p.1, k, p.2) w) := by
  subst hq
  refine h.mono ?_
  rintro e w' ⟨g, cap, rfl, h1, h2⟩
  exact ⟨h2, .inr ⟨rfl, g, cap, to2, rfl, h1, hto⟩⟩
theorem rdone_bad {f : FuncId} {args : Array Value} {w : World} {nx c : Nat} {q : Nat × Nat × List ByteArray} (h : Calls Tryz.prog f args w (Rets (.tuple #[.slice none 0 0, .int .i64 (-1), .int .i64 c]) (Chg (fun _ => False) w))) (hq : q.1 = c) (hc : c ≠ 0) :
    Calls Tryz.prog f args w (RDone nx q w) := by
  refine h.mono ?_
  rintro e w' ⟨rfl, h2⟩
  exact ⟨h2, .inl ⟨by omega, by rw [hq]⟩⟩

theorem push_one {r : List ByteArray} {x : ByteArray} (hr : r.length + 1 ≤ 8) (hx : x.size ≤ 512) : pushR r [x] = (0, r ++ [x]) := by
  rw [pushR_cons, if_neg (by omega), if_neg (by omega), pushR_nil]
theorem push_two {r : List ByteArray} {x y : ByteArray} (hr : r.length + 2 ≤ 8) (hx : x.size ≤ 512) (hy : y.size ≤ 512) : pushR r [x, y] = (0, r ++ [x] ++ [y]) := by
  rw [pushR_cons, if_neg (by omega), if_neg (by omega)]
  exact push_one (by simp; omega) hy
theorem push_full {r : List ByteArray} {x : ByteArray} {ss : List ByteArray} (hr : 8 ≤ r.length) : (pushR r (x :: ss)).1 = 31 := by
  rw [pushR_cons, if_pos hr]
theorem push_full2 {r : List ByteArray} {x y : ByteArray} (hr : r.length = 7) (hx : x.size ≤ 512) : (pushR r [x, y]).1 = 31 := by
  rw [pushR_cons, if_neg (by omega), if_neg (by omega)]
  exact push_full (by simp; omega)

theorem rstep_any {w : World} {g cap N : Nat} {l : List ByteArray} (hl : RowT w g cap N l) (hl8 : l.length ≤ 8) (hall : ∀ x ∈ l, x.size ≤ 512) {inV : Value} {ins : List ByteArray} (hin : StrsAt w inV ins) (hins : ∀ x ∈ ins, x.size ≤ 512)
    (s : ByteArray) (hs1 : 1 ≤ s.size) (hs2 : s.size ≤ 300) (hok : okL s[0] = true) (hw1 : plainB s[0] = true → s.size = 1) (hw2 : plainB s[0] = false → 1 < s.size) (at_ : Nat) :
    Calls Tryz.prog 112 #[.slice (some ⟨g, 0, none⟩) N cap, .string s, inV] w (RDone (at_ + s.size) (stepRM hashS ins s[0] (numN s) s at_ l) w) := by
  have hN : N = l.length := hl.len
  by_cases hi : s[0] = 105 ∧ ins.length ≤ numN s
  · refine rdone_bad (c := 32) (rstep_bad _ hin s hs1 (hw2 (by rw [hi.1]; rfl)) hi.1 hi.2) ?_ (by decide)
    unfold stepRM; rw [if_pos hi]
  have few : (∀ k, s[0] = k → k ≠ 105) → (N : Int) < popT (s[0].toNat : Nat) → l.length < takeN s[0] → Calls Tryz.prog 112 #[.slice (some ⟨g, 0, none⟩) N cap, .string s, inV] w (RDone (at_ + s.size) (stepRM hashS ins s[0] (numN s) s at_ l) w) := by
    intro h5 hP hf
    have h5' : s[0] ≠ 105 := h5 _ rfl
    have hq : (stepRM hashS ins s[0] (numN s) s at_ l).1 = 31 := by unfold stepRM; rw [if_neg hi, if_pos hf]
    by_cases hsz : 1 < s.size
    · exact rdone_bad (c := 31) (rstep_few1 _ N cap (by omega) s hs1 hsz h5' hP) hq (by decide)
    · exact rdone_bad (c := 31) (rstep_few0 _ N cap (by omega) s hs1 hsz h5' hP) hq (by decide)
  have few2 : (∀ k, s[0] = k → k ≠ 105) → popT (s[0].toNat : Nat) = takeN s[0] → l.length < takeN s[0] → Calls Tryz.prog 112 #[.slice (some ⟨g, 0, none⟩) N cap, .string s, inV] w (RDone (at_ + s.size) (stepRM hashS ins s[0] (numN s) s at_ l) w) :=
    fun h5 hP hf => few h5 (by rw [hP]; omega) hf
  clear few
  have hr : ∀ k, (l.take (l.length - k)).length = l.length - k := fun k => by simp
  have hl1 := fun h1 : 1 ≤ l.length => (show RowT w g cap N (l.take (l.length - 1) ++ [(l.drop (l.length - 1)).getD 0 .empty]) by rw [split1 h1]; exact hl)
  have hl2 := fun h2 : 2 ≤ l.length => (show RowT w g cap N (l.take (l.length - 2) ++ [(l.drop (l.length - 2)).getD 0 .empty, (l.drop (l.length - 2)).getD 1 .empty]) by rw [split2 h2]; exact hl)
  have hl0 : RowT w g cap N (l.take (l.length - 0)) := by simpa using hl
  have hm1 := fun h1 : 1 ≤ l.length => hall _ (mem1 h1 (by decide) h1 0 (by decide))
  have hm2 := fun h1 : 2 ≤ l.length => hall _ (mem1 (by omega) (by decide) h1 0 (by decide))
  have hm3 := fun h1 : 2 ≤ l.length => hall _ (mem1 (by omega) (by decide) h1 1 (by decide))
  have st : ¬ l.length < takeN s[0] → stepRM hashS ins s[0] (numN s) s at_ l = ((pushR (l.take (l.length - takeN s[0])) (putsR hashS ins s[0] (numN s) s ((l.drop (l.length - takeN s[0])).getD 0 .empty) ((l.drop (l.length - takeN s[0])).getD 1 .empty))).1, goesR s[0] (numN s) (at_ + s.size) ((l.drop (l.length - takeN s[0])).getD 0 .empty), (pushR (l.take (l.length - takeN s[0])) (putsR hashS ins s[0] (numN s) s ((l.drop (l.length - takeN s[0])).getD 0 .empty) ((l.drop (l.length - takeN s[0])).getD 1 .empty))).2) := by
    intro hf
    unfold stepRM
    rw [if_neg hi, if_neg hf]
  by_cases hf : l.length < takeN s[0]
  · rcases okL_mem _ hok with e | e | e | e | e | e | e | e | e | e | e | e | e | e <;>
      first
      | exact few2 (by rw [e]; rintro _ rfl; decide) (by rw [e]; rfl) hf
      | (rw [e] at hf; exact absurd hf (Nat.not_lt_zero _))
  rw [st hf]
  clear st few2
  rcases okL_mem _ hok with e | e | e | e | e | e | e | e | e | e | e | e | e | e
  all_goals (rw [e] at hf hw1 hw2)
  all_goals (simp only [e])
  -- c
  · have h2 : 2 ≤ l.length := Nat.le_of_not_lt hf
    have h8 := hr 2
    by_cases hsz : ((l.drop (l.length - 2)).getD 0 .empty ++ (l.drop (l.length - 2)).getD 1 .empty).size ≤ 512
    · exact rdone_ok (rstep_c (hl2 h2) (by omega) (hm2 h2) (hm3 h2) inV s hs1 (hw1 rfl) e hsz) (push_one (by show (l.take (l.length - 2)).length + 1 ≤ 8; omega) hsz) (.inl ⟨rfl, rfl⟩)
    · refine rdone_bad (c := 33) (rstep_c33 (hl2 h2) (by omega) (hm2 h2) (hm3 h2) inV s hs1 (hw1 rfl) e (by omega)) ?_ (by decide)
      show (pushR (l.take (l.length - 2)) [(l.drop (l.length - 2)).getD 0 .empty ++ (l.drop (l.length - 2)).getD 1 .empty]).1 = 33
      rw [pushR_cons, if_neg (by omega), if_pos (by omega)]
  -- d
  · have h2 : 1 ≤ l.length := Nat.le_of_not_lt hf
    have h8 := hr 1
    by_cases hfull : l.length = 8
    · refine rdone_bad (c := 31) (rstep_full0 _ N cap (by omega) s hs1 (by have := hw1 rfl; omega) (by rw [e]; decide) (by rw [e]; show ¬ (N : Int) < 1; omega) (by rw [e]; show 8 < (N : Int) - 1 + 2; omega)) ?_ (by decide)
      exact push_full2 (by show (l.take (l.length - 1)).length = 7; omega) (hm1 h2)
    · exact rdone_ok (rstep_d (hl1 h2) (by omega) (hm1 h2) inV s hs1 (hw1 rfl) e) (push_two (by show (l.take (l.length - 1)).length + 2 ≤ 8; omega) (hm1 h2) (hm1 h2)) (.inl ⟨rfl, rfl⟩)
  -- s
  · have h2 : 2 ≤ l.length := Nat.le_of_not_lt hf
    have h8 := hr 2
    exact rdone_ok (rstep_s (hl2 h2) (by omega) (hm2 h2) (hm3 h2) inV s hs1 (hw1 rfl) e) (push_two (by show (l.take (l.length - 2)).length + 2 ≤ 8; omega) (hm3 h2) (hm2 h2)) (.inl ⟨rfl, rfl⟩)
  -- x
  · have h2 : 1 ≤ l.length := Nat.le_of_not_lt hf
    have h8 := hr 1
    exact rdone_ok (rstep_x (hl1 h2) (by omega) (hm1 h2) inV s hs1 (hw1 rfl) e) rfl (.inl ⟨rfl, rfl⟩)
  -- r
  · have h2 : 1 ≤ l.length := Nat.le_of_not_lt hf
    have h8 := hr 1
    exact rdone_ok (rstep_r (hl1 h2) (by omega) (hm1 h2) inV s hs1 (hw1 rfl) e) (push_one (by show (l.take (l.length - 1)).length + 1 ≤ 8; omega) (by rw [revS_size]; exact hm1 h2)) (.inl ⟨rfl, rfl⟩)
  -- h
  · have h2 : 1 ≤ l.length := Nat.le_of_not_lt hf
    have h8 := hr 1
    exact rdone_ok (rstep_h (hl1 h2) (by omega) (hm1 h2) inV s hs1 (hw1 rfl) e) (push_one (by show (l.take (l.length - 1)).length + 1 ≤ 8; omega) (by rw [hashS_size]; omega)) (.inl ⟨rfl, rfl⟩)
  -- l
  · have h2 : 1 ≤ l.length := Nat.le_of_not_lt hf
    have h8 := hr 1
    refine rdone_ok (rstep_l (hl1 h2) (by omega) (hm1 h2) inV s hs1 (hw1 rfl) e) ?_ (.inl ⟨rfl, rfl⟩)
    rw [← itoaS_dec]
    exact push_one (by show (l.take (l.length - 1)).length + 1 ≤ 8; omega) (by rw [itoaS_dec]; exact decS_digs _ (hm1 h2))
  -- =
  · have h2 : 2 ≤ l.length := Nat.le_of_not_lt hf
    have h8 := hr 2
    by_cases hab : (l.drop (l.length - 2)).getD 0 .empty = (l.drop (l.length - 2)).getD 1 .empty
    · refine rdone_ok (rstep_eq1 (hl2 h2) (by omega) (hm2 h2) (hm3 h2) inV s hs1 (hw1 rfl) e hab) ?_ (.inl ⟨rfl, rfl⟩)
      show pushR (l.take (l.length - 2)) [sameS ((l.drop (l.length - 2)).getD 0 .empty) ((l.drop (l.length - 2)).getD 1 .empty)] = _
      unfold sameS
      rw [if_pos hab]
      exact push_one (by omega) (by decide)
    · refine rdone_ok (rstep_eq0 (hl2 h2) (by omega) (hm2 h2) (hm3 h2) inV s hs1 (hw1 rfl) e hab) ?_ (.inl ⟨rfl, rfl⟩)
      show pushR (l.take (l.length - 2)) [sameS ((l.drop (l.length - 2)).getD 0 .empty) ((l.drop (l.length - 2)).getD 1 .empty)] = _
      unfold sameS
      rw [if_neg hab]
      exact push_one (by omega) (by decide)
  -- i
  · have hni : numN s < ins.length := Nat.lt_of_not_le fun hh => hi ⟨e, hh⟩
    have h8 := hr 0
    have e2 : putsR hashS ins 105 (numN s) s ((l.drop (l.length - takeN 105)).getD 0 .empty) ((l.drop (l.length - takeN 105)).getD 1 .empty) = [ins[numN s]] := by
      show [ins.getD (numN s) .empty] = _
      rw [List.getD_eq_getElem?_getD, List.getElem?_eq_getElem hni]; rfl
    rw [e2]
    by_cases hfull : l.length = 8
    · refine rdone_bad (c := 31) (rstep_fulli _ N cap (by omega) hin s hs1 (hw2 rfl) e hni (by rw [e]; show ¬ (N : Int) < 0; omega) (by rw [e]; show 8 < (N : Int) - 0 + 1; omega)) ?_ (by decide)
      exact push_full (by show 8 ≤ (l.take (l.length - 0)).length; omega)
    · exact rdone_ok (rstep_i hl0 (by omega) s hs1 (hw2 rfl) hs2 e hin hni hins) (push_one (by show (l.take (l.length - 0)).length + 1 ≤ 8; omega) (hins _ (List.getElem_mem hni))) (.inl ⟨rfl, rfl⟩)
  -- t
  · have h2 : 1 ≤ l.length := Nat.le_of_not_lt hf
    have h8 := hr 1
    have hb := hm1 h2
    by_cases hnb : numN s < ((l.drop (l.length - 1)).getD 0 .empty).size
    · refine rdone_ok (rstep_t1 (hl1 h2) (by omega) (hm1 h2) inV s hs1 (hw2 rfl) hs2 e hnb) ?_ (.inl ⟨rfl, rfl⟩)
      show pushR (l.take (l.length - 1)) [((l.drop (l.length - 1)).getD 0 .empty).extract 0 (min (numN s : Int) (((l.drop (l.length - 1)).getD 0 .empty).size : Int)).toNat] = _
      rw [show (min (numN s : Int) (((l.drop (l.length - 1)).getD 0 .empty).size : Int)).toNat = numN s by omega]
      exact push_one (by omega) (by rw [ByteArray.size_extract]; omega)
    · refine rdone_ok (rstep_t0 (hl1 h2) (by omega) (hm1 h2) inV s hs1 (hw2 rfl) hs2 e hnb) ?_ (.inl ⟨rfl, rfl⟩)
      show pushR (l.take (l.length - 1)) [((l.drop (l.length - 1)).getD 0 .empty).extract 0 (min (numN s : Int) (((l.drop (l.length - 1)).getD 0 .empty).size : Int)).toNat] = _
      rw [show (min (numN s : Int) (((l.drop (l.length - 1)).getD 0 .empty).size : Int)).toNat = ((l.drop (l.length - 1)).getD 0 .empty).size by omega, ByteArray.extract_zero_size]
      exact push_one (by omega) hb
  -- k
  · have h2 : 1 ≤ l.length := Nat.le_of_not_lt hf
    have h8 := hr 1
    have hb := hm1 h2
    by_cases hnb : numN s < ((l.drop (l.length - 1)).getD 0 .empty).size
    · refine rdone_ok (rstep_k1 (hl1 h2) (by omega) (hm1 h2) inV s hs1 (hw2 rfl) hs2 e hnb) ?_ (.inl ⟨rfl, rfl⟩)
      show pushR (l.take (l.length - 1)) [((l.drop (l.length - 1)).getD 0 .empty).extract (min (numN s : Int) (((l.drop (l.length - 1)).getD 0 .empty).size : Int)).toNat ((l.drop (l.length - 1)).getD 0 .empty).size] = _
      rw [show (min (numN s : Int) (((l.drop (l.length - 1)).getD 0 .empty).size : Int)).toNat = numN s by omega]
      exact push_one (by omega) (by rw [ByteArray.size_extract]; omega)
    · refine rdone_ok (rstep_k0 (hl1 h2) (by omega) (hm1 h2) inV s hs1 (hw2 rfl) hs2 e hnb) ?_ (.inl ⟨rfl, rfl⟩)
      show pushR (l.take (l.length - 1)) [((l.drop (l.length - 1)).getD 0 .empty).extract (min (numN s : Int) (((l.drop (l.length - 1)).getD 0 .empty).size : Int)).toNat ((l.drop (l.length - 1)).getD 0 .empty).size] = _
      rw [show (min (numN s : Int) (((l.drop (l.length - 1)).getD 0 .empty).size : Int)).toNat = ((l.drop (l.length - 1)).getD 0 .empty).size by omega, show ∀ x : ByteArray, x.extract x.size x.size = { data := #[] } from fun x => by apply ByteArray.ext; simp]
      exact push_one (by omega) (by decide)
  -- j
  · have h2 : 1 ≤ l.length := Nat.le_of_not_lt hf
    have h8 := hr 1
    by_cases hz : (l.drop (l.length - 1)).getD 0 .empty = ByteArray.empty
    · refine rdone_ok (rstep_j0 (hl1 h2) (by omega) (hm1 h2) inV s hs1 (hw2 rfl) hs2 e hz) rfl (.inr ?_)
      show _ = (((if (l.drop (l.length - 1)).getD 0 .empty = ByteArray.empty then numN s else at_ + s.size : Nat)) : Int)
      rw [if_pos hz]
    · refine rdone_ok (rstep_j1 (hl1 h2) (by omega) (hm1 h2) inV s hs1 (hw2 rfl) hs2 e hz) rfl (.inl ⟨rfl, ?_⟩)
      show (if (l.drop (l.length - 1)).getD 0 .empty = ByteArray.empty then numN s else at_ + s.size) = _
      rw [if_neg hz]
  -- g
  · have h8 := hr 0
    exact rdone_ok (rstep_g hl0 (by omega) inV s hs1 (hw2 rfl) hs2 e) rfl (.inr rfl)
  -- p
  · have h8 := hr 0
    by_cases hfull : l.length = 8
    · refine rdone_bad (c := 31) (rstep_full1 _ N cap (by omega) s hs1 (hw2 rfl) (by rw [e]; decide) (by rw [e]; show ¬ (N : Int) < 0; omega) (by rw [e]; show 8 < (N : Int) - 0 + 1; omega)) ?_ (by decide)
      exact push_full (by show 8 ≤ (l.take (l.length - 0)).length; omega)
    · exact rdone_ok (rstep_p hl0 (by omega) inV s hs1 (hw2 rfl) hs2 e) (push_one (by show (l.take (l.length - 0)).length + 1 ≤ 8; omega) (by rw [ByteArray.size_extract]; omega)) (.inl ⟨rfl, rfl⟩)
end Go.Proofs.YthglfmacjoecgaaGreatDoor
namespace Go.Proofs.YthglfmacjoecgaaGreatDoor
open Go.RowKit

/-- A code's steps from a place on; none: there is none at a place. -/
def stepsG (code : ByteArray) : Nat → Nat → Option (List ByteArray)
  | 0, at_ => if code.size ≤ at_ then some [] else none
  | f + 1, at_ => if code.size ≤ at_ then some [] else if widN code at_ = 0 then none else (stepsG code f (at_ + widN code at_)).map (code.extract at_ (at_ + widN code at_) :: ·)
theorem stepsG_end (code : ByteArray) (f at_ : Nat) (h : code.size ≤ at_) : stepsG code f at_ = some [] := by
  cases f <;> simp [stepsG, h]
theorem widN_le (code : ByteArray) (i : Nat) : i + widN code i ≤ code.size ∨ widN code i = 0 := by
  unfold widN
  split
  · split <;> omega
  · omega
theorem wid_rest (code : ByteArray) (i : Nat) (h : i < code.size) : widN (code.extract i code.size) 0 = widN code i := by
  have hs : (code.extract i code.size).size = code.size - i := by simp
  have g : ∀ k (hk : k < (code.extract i code.size).size), (code.extract i code.size)[k] = code[i + k]'(by rw [hs] at hk; omega) := fun k hk => by simp [ByteArray.getElem_extract]
  unfold widN
  rw [dif_pos (by omega), dif_pos h]
  have e : wid0 (code.extract i code.size) 0 (by omega) = wid0 code i h := by
    unfold wid0
    simp only [g]
    have e0 : (code[i + 0]'(by omega)) = code[i] := rfl
    simp only [Nat.add_zero, Nat.zero_add]
    by_cases h2 : i + 1 < code.size
    · have h3 : 1 < (code.extract i code.size).size := by omega
      simp only [h2, h3, and_true]
    · have h3 : ¬ 1 < (code.extract i code.size).size := by omega
      simp only [h2, h3, and_false, dite_false]
  rw [e, hs]
  simp

def sizeV : Value → Nat
  | .string s => s.size
  | _ => 0
theorem ba_isEmptyM (s : ByteArray) : s.toList.isEmpty = decide (s.size = 0) := by
  have e : (s.toList == (ByteArray.mk #[]).toList) = decide (s = ByteArray.mk #[]) := by rw [← beq_toListBytes, ba_eqM]
  have e2 : (ByteArray.mk #[]).toList = [] := by unfold ByteArray.toList ByteArray.toList.loop; simp [ByteArray.size]
  have e3 : s.size = 0 ↔ s = ByteArray.mk #[] := ⟨fun h => ByteArray.ext (Array.eq_empty_of_size_eq_zero h), fun h => by rw [h]; rfl⟩
  rw [e2] at e
  have e4 : s.toList.isEmpty = (s.toList == []) := by cases s.toList <;> rfl
  rw [e4, e]
  by_cases h : s.size = 0
  · rw [decide_eq_true h, decide_eq_true (e3.1 h)]
  · rw [decide_eq_false h, decide_eq_false (fun hh => h (e3.2 hh))]
/-- What Steps answers. -/
def stepsOut (code : ByteArray) : Option (List ByteArray) := stepsG code 64 0

end Go.Proofs.YthglfmacjoecgaaGreatDoor
namespace Go.Proofs.YthglfmacjoecgaaGreatDoor
open Go.RowKit

theorem plainB_iff (c : UInt8) : plainB c = true ↔ (c = 99 ∨ c = 100 ∨ c = 115 ∨ c = 120 ∨ c = 114 ∨ c = 104 ∨ c = 108 ∨ c = 61) := by
  have key : ∀ n : Fin 256, plainB (UInt8.ofNat n.1) = decide (n.1 = 99 ∨ n.1 = 100 ∨ n.1 = 115 ∨ n.1 = 120 ∨ n.1 = 114 ∨ n.1 = 104 ∨ n.1 = 108 ∨ n.1 = 61) := by decide +kernel
  have h1 := key ⟨c.toNat, c.toNat_lt⟩
  simp only [UInt8.ofNat_toNat] at h1
  rw [h1]
  simp only [decide_eq_true_eq, ← UInt8.toNat_inj]
  rfl
theorem numB_iff (c : UInt8) : numB c = true ↔ (c = 105 ∨ c = 116 ∨ c = 107 ∨ c = 106 ∨ c = 103) := by
  have key : ∀ n : Fin 256, numB (UInt8.ofNat n.1) = decide (n.1 = 105 ∨ n.1 = 116 ∨ n.1 = 107 ∨ n.1 = 106 ∨ n.1 = 103) := by decide +kernel
  have h1 := key ⟨c.toNat, c.toNat_lt⟩
  simp only [UInt8.ofNat_toNat] at h1
  rw [h1]
  simp only [decide_eq_true_eq, ← UInt8.toNat_inj]
  rfl

set_option maxRecDepth 100000 in
set_option maxHeartbeats 4000000 in
theorem rwidth_any (code : ByteArray) (i : Nat) (w : World) (h : i < code.size) (hs : code.size ≤ maxLen) :
    Calls Tryz.prog 111 #[.string code, .int .i64 i] w (Rets (.int .i64 (widN code i)) (fun w' => w = w')) := by
  unfold maxLen at hs
  have h' : (i : Int) < code.size := by omega
  have hw0 : widN code i = if code.size - i < wid0 code i h then 0 else wid0 code i h := by unfold widN; rw [dif_pos h]
  have fin : ∀ n : Nat, wid0 code i h = n → ∀ m : Int, m = (if code.size - i < n then 0 else n : Nat) → Rets (.int .i64 (widN code i)) (fun w' => w = w') (.returned (.int .i64 m)) w := by
    intro n hn m hm
    refine ⟨?_, rfl⟩
    rw [hm, hw0, hn]
  have F := hid fin
  clear hw0 fin
  have neq : ∀ k : UInt8, code[i] ≠ k → ((code[i].toNat : Int) == (k.toNat : Int)) = false := by
    intro k hk
    simp
    intro e
    exact hk (UInt8.toNat_inj.1 (by omega))
  by_cases h1 : plainB code[i] = true
  · have e1 : wid0 code i h = 1 := by unfold wid0; simp [h1]
    have F1 := hid (F.out 1 e1)
    clear F e1
    have hd : 0 < code.size - i := by omega
    have hd' : (0 : Int) < (code.size : Int) - (i : Int) := by omega
    rcases (plainB_iff _).1 h1 with e | e | e | e | e | e | e | e
    all_goals
      have hc' : (code[i].toNat : Int) = _ := congrArg (fun c : UInt8 => (c.toNat : Int)) e
      clear e h1 neq
      go_enter Tryz.func111, Tryz.ntmps111
      go_wp2
      all_goals go_ret
      all_goals exact F1.out _ (by rw [if_neg (by omega)]; rfl)
  · by_cases h2 : numB code[i] = true
    · have e1 : wid0 code i h = 2 := by unfold wid0; simp [h1, h2]
      have F1 := hid (F.out 2 e1)
      clear F e1 h1
      rcases (numB_iff _).1 h2 with e | e | e | e | e
      all_goals
        have hc' : (code[i].toNat : Int) = _ := congrArg (fun c : UInt8 => (c.toNat : Int)) e
        clear e h2 neq
        go_enter Tryz.func111, Tryz.ntmps111
        go_wp2
        all_goals go_ret
        all_goals exact F1.out _ (by first | (rw [if_neg (by omega)]; rfl) | (rw [if_pos (by omega)]; rfl))
    · have n1 : ¬ (code[i] = 99 ∨ code[i] = 100 ∨ code[i] = 115 ∨ code[i] = 120 ∨ code[i] = 114 ∨ code[i] = 104 ∨ code[i] = 108 ∨ code[i] = 61) := fun hh => h1 ((plainB_iff _).2 hh)
      have n2 : ¬ (code[i] = 105 ∨ code[i] = 116 ∨ code[i] = 107 ∨ code[i] = 106 ∨ code[i] = 103) := fun hh => h2 ((numB_iff _).2 hh)
      simp only [not_or] at n1 n2
      obtain ⟨a1, a2, a3, a4, a5, a6, a7, a8⟩ := n1
      obtain ⟨b1, b2, b3, b4, b5⟩ := n2
      have z1 : ((code[i].toNat : Int) == 99) = false := neq _ a1
      have z2 : ((code[i].toNat : Int) == 100) = false := neq _ a2
      have z3 : ((code[i].toNat : Int) == 115) = false := neq _ a3
      have z4 : ((code[i].toNat : Int) == 120) = false := neq _ a4
      have z5 : ((code[i].toNat : Int) == 114) = false := neq _ a5
      have z6 : ((code[i].toNat : Int) == 104) = false := neq _ a6
      have z7 : ((code[i].toNat : Int) == 108) = false := neq _ a7
      have z8 : ((code[i].toNat : Int) == 61) = false := neq _ a8
      have y1 : ((code[i].toNat : Int) == 105) = false := neq _ b1
      have y2 : ((code[i].toNat : Int) == 116) = false := neq _ b2
      have y3 : ((code[i].toNat : Int) == 107) = false := neq _ b3
      have y4 : ((code[i].toNat : Int) == 106) = false := neq _ b4
      have y5 : ((code[i].toNat : Int) == 103) = false := neq _ b5
      by_cases h3 : code[i] = 112
      · have h3' : ((code[i].toNat : Int) == 112) = true := by rw [h3]; rfl
        by_cases h4 : i + 1 < code.size
        · have h4' : (i : Int) + 1 < code.size := by omega
          have e1 : wid0 code i h = 2 + code[i + 1].toNat := by unfold wid0; rw [if_neg h1, if_neg h2, dif_pos ⟨h3, h4⟩]
          have F1 := hid (F.out _ e1)
          have hb : code[i + 1].toNat < 256 := code[i + 1].toNat_lt
          have hb0 : (2 + (code[i + 1].toNat : Int) == 0) = false := by simp; omega
          clear F e1 h1 h2 h3 neq a1 a2 a3 a4 a5 a6 a7 a8 b1 b2 b3 b4 b5
          go_enter Tryz.func111, Tryz.ntmps111
          go_wp2
          all_goals go_ret
          all_goals exact F1.out _ (by first | (rw [if_pos (by omega)]; rfl) | (rw [if_neg (by omega)]; simp))
        · have h4' : ¬ (i : Int) + 1 < code.size := by omega
          have e1 : wid0 code i h = 0 := by unfold wid0; simp [h1, h2, h4]
          have F1 := hid (F.out _ e1)
          clear F e1 h1 h2 h3 neq a1 a2 a3 a4 a5 a6 a7 a8 b1 b2 b3 b4 b5
          go_enter Tryz.func111, Tryz.ntmps111
          go_wp2
          all_goals go_ret
          all_goals exact F1.out _ (by first | (rw [if_neg (by omega)]; rfl) | (rw [if_pos (by omega)]; rfl))
      · have h3' : ((code[i].toNat : Int) == 112) = false := neq _ h3
        have e1 : wid0 code i h = 0 := by unfold wid0; simp [h1, h2, h3]
        have F1 := hid (F.out _ e1)
        clear F e1 h1 h2 h3 neq a1 a2 a3 a4 a5 a6 a7 a8 b1 b2 b3 b4 b5
        go_enter Tryz.func111, Tryz.ntmps111
        go_wp2
        all_goals go_ret
        all_goals exact F1.out _ (by first | (rw [if_neg (by omega)]; rfl) | (rw [if_pos (by omega)]; rfl))

/-- Whether two rows of texts are the same. -/
theorem lists_same {a b : List ByteArray} (h : a.length = b.length) (h2 : ∀ i (h1 : i < a.length) (h2 : i < b.length), a[i] = b[i]) : a = b := List.ext_getElem h h2

end Go.Proofs.YthglfmacjoecgaaGreatDoor
