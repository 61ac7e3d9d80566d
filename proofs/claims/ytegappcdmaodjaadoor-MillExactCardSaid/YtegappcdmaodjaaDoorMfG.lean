/- apiaryref06.step, all letters joined: what a step leaves is stepR. -/
import Derived.Test.YtegappcdmaodjaaDoorMfF
namespace Go.Proofs.YtegappcdmaodjaaDoor
open Go.RowKit

/-- What the document's step answers, said by stepR's triple. -/
def RDone (nx : Nat) (q : Nat × Nat × List ByteArray) (w : World) (e : Ending) (w' : World) : Prop :=
  Chg (fun _ => False) w w' ∧ ((q.1 ≠ 0 ∧ e = .returned (.tuple #[.slice none 0 0, .int .i64 (-1), .int .i64 q.1])) ∨
    (q.1 = 0 ∧ ∃ g cap to, e = .returned (.tuple #[.slice (some ⟨g, 0, none⟩) q.2.2.length cap, .int .i64 to, .int .i64 0]) ∧ RowT w' g cap q.2.2.length q.2.2 ∧ ((to = -1 ∧ q.2.1 = nx) ∨ to = (q.2.1 : Int))))

theorem rdone_ok {f : FuncId} {args : Array Value} {w : World} {l' : List ByteArray} {to : Int} {nx k : Nat} {p : Nat × List ByteArray} (h : Calls Tryd.prog f args w (StepOk w l' to)) (hq : p = (0, l')) (hto : (to = -1 ∧ k = nx) ∨ to = (k : Int)) :
    Calls Tryd.prog f args w (RDone nx (p.1, k, p.2) w) := by
  subst hq
  refine h.mono ?_
  rintro e w' ⟨g, cap, rfl, h1, h2⟩
  exact ⟨h2, .inr ⟨rfl, g, cap, to, rfl, h1, hto⟩⟩
theorem rdone_bad {f : FuncId} {args : Array Value} {w : World} {nx c : Nat} {q : Nat × Nat × List ByteArray} (h : Calls Tryd.prog f args w (Rets (.tuple #[.slice none 0 0, .int .i64 (-1), .int .i64 c]) (Chg (fun _ => False) w))) (hq : q.1 = c) (hc : c ≠ 0) :
    Calls Tryd.prog f args w (RDone nx q w) := by
  refine h.mono ?_
  rintro e w' ⟨rfl, h2⟩
  exact ⟨h2, .inl ⟨by omega, by rw [hq]⟩⟩

theorem push_one {r : List ByteArray} {x : ByteArray} (hr : r.length + 1 ≤ 8) (hx : x.size ≤ 512) : pushR r [x] = (0, r ++ [x]) := by
  rw [pushR_cons, if_neg (by omega), if_neg (by omega), pushR_nil]
theorem push_two {r : List ByteArray} {x y : ByteArray} (hr : r.length + 2 ≤ 8) (hx : x.size ≤ 512) (hy : y.size ≤ 512) : pushR r [x, y] = (0, r ++ [x] ++ [y]) := by
  rw [pushR_cons, if_neg (by omega), if_neg (by omega)]
  exact push_one (by simp; omega) hy
theorem push_full {r : List ByteArray} {x : ByteArray} {ss : List ByteArray} (hr : 8 ≤ r.length) : (pushR r (x :: ss)).1 = 31 := by
  rw [pushR_cons, if_pos hr]
theorem push_full2 {r : List ByteArray} {x y : ByteArray} (hr : r.length = 7) (hx : x.size ≤ 512) : (pushR r [x, y]).1 = 31 := by
  rw [pushR_cons, if_neg (by omega), if_neg (by omega)]
  exact push_full (by simp; omega)

theorem rstep_any {w : World} {g cap N : Nat} {l : List ByteArray} (hl : RowT w g cap N l) (hl8 : l.length ≤ 8) (hall : ∀ x ∈ l, x.size ≤ 512) {inV : Value} {ins : List ByteArray} (hin : StrsAt w inV ins) (hins : ∀ x ∈ ins, x.size ≤ 512)
    (s : ByteArray) (hs1 : 1 ≤ s.size) (hs2 : s.size ≤ 300) (hok : okL s[0] = true) (hw1 : plainB s[0] = true → s.size = 1) (hw2 : plainB s[0] = false → 1 < s.size) (at_ : Nat) :
    Calls Tryd.prog 23 #[.slice (some ⟨g, 0, none⟩) N cap, .string s, inV] w (RDone (at_ + s.size) (stepR hashS ins s[0] (numN s) s at_ l) w) := by
  have hN : N = l.length := hl.len
  by_cases hi : s[0] = 105 ∧ ins.length ≤ numN s
  · refine rdone_bad (c := 32) (rstep_bad _ hin s hs1 (hw2 (by rw [hi.1]; rfl)) hi.1 hi.2) ?_ (by decide)
    unfold stepR; rw [if_pos hi]
  have few : (∀ k, s[0] = k → k ≠ 105) → (N : Int) < popT (s[0].toNat : Nat) → l.length < takeN s[0] → Calls Tryd.prog 23 #[.slice (some ⟨g, 0, none⟩) N cap, .string s, inV] w (RDone (at_ + s.size) (stepR hashS ins s[0] (numN s) s at_ l) w) := by
    intro h5 hP hf
    have h5' : s[0] ≠ 105 := h5 _ rfl
    have hq : (stepR hashS ins s[0] (numN s) s at_ l).1 = 31 := by unfold stepR; rw [if_neg hi, if_pos hf]
    by_cases hsz : 1 < s.size
    · exact rdone_bad (c := 31) (rstep_few1 _ N cap (by omega) s hs1 hsz h5' hP) hq (by decide)
    · exact rdone_bad (c := 31) (rstep_few0 _ N cap (by omega) s hs1 hsz h5' hP) hq (by decide)
  have few2 : (∀ k, s[0] = k → k ≠ 105) → popT (s[0].toNat : Nat) = takeN s[0] → l.length < takeN s[0] → Calls Tryd.prog 23 #[.slice (some ⟨g, 0, none⟩) N cap, .string s, inV] w (RDone (at_ + s.size) (stepR hashS ins s[0] (numN s) s at_ l) w) :=
    fun h5 hP hf => few h5 (by rw [hP]; omega) hf
  clear few
  have hr : ∀ k, (l.take (l.length - k)).length = l.length - k := fun k => by simp
  have hl1 := fun h1 : 1 ≤ l.length => (show RowT w g cap N (l.take (l.length - 1) ++ [(l.drop (l.length - 1)).getD 0 .empty]) by rw [split1 h1]; exact hl)
  have hl2 := fun h2 : 2 ≤ l.length => (show RowT w g cap N (l.take (l.length - 2) ++ [(l.drop (l.length - 2)).getD 0 .empty, (l.drop (l.length - 2)).getD 1 .empty]) by rw [split2 h2]; exact hl)
  have hl0 : RowT w g cap N (l.take (l.length - 0)) := by simpa using hl
  have hm1 := fun h1 : 1 ≤ l.length => hall _ (mem1 h1 (by decide) h1 0 (by decide))
  have hm2 := fun h1 : 2 ≤ l.length => hall _ (mem1 (by omega) (by decide) h1 0 (by decide))
  have hm3 := fun h1 : 2 ≤ l.length => hall _ (mem1 (by omega) (by decide) h1 1 (by decide))
  have st : ¬ l.length < takeN s[0] → stepR hashS ins s[0] (numN s) s at_ l = ((pushR (l.take (l.length - takeN s[0])) (putsR hashS ins s[0] (numN s) s ((l.drop (l.length - takeN s[0])).getD 0 .empty) ((l.drop (l.length - takeN s[0])).getD 1 .empty))).1, goesR s[0] (numN s) (at_ + s.size) ((l.drop (l.length - takeN s[0])).getD 0 .empty), (pushR (l.take (l.length - takeN s[0])) (putsR hashS ins s[0] (numN s) s ((l.drop (l.length - takeN s[0])).getD 0 .empty) ((l.drop (l.length - takeN s[0])).getD 1 .empty))).2) := by
    intro hf
    unfold stepR
    rw [if_neg hi, if_neg hf]
  by_cases hf : l.length < takeN s[0]
  · rcases okL_mem _ hok with e | e | e | e | e | e | e | e | e | e | e | e | e | e <;>
      first
      | exact few2 (by rw [e]; rintro _ rfl; decide) (by rw [e]; rfl) hf
      | (rw [e] at hf; exact absurd hf (Nat.not_lt_zero _))
  rw [st hf]
  clear st few2
  rcases okL_mem _ hok with e | e | e | e | e | e | e | e | e | e | e | e | e | e
  all_goals (rw [e] at hf hw1 hw2)
  all_goals (simp only [e])
  -- c
  · have h2 : 2 ≤ l.length := Nat.le_of_not_lt hf
    have h8 := hr 2
    by_cases hsz : ((l.drop (l.length - 2)).getD 0 .empty ++ (l.drop (l.length - 2)).getD 1 .empty).size ≤ 512
    · exact rdone_ok (rstep_c (hl2 h2) (by omega) (hm2 h2) (hm3 h2) inV s hs1 (hw1 rfl) e hsz) (push_one (by show (l.take (l.length - 2)).length + 1 ≤ 8; omega) hsz) (.inl ⟨rfl, rfl⟩)
    · refine rdone_bad (c := 33) (rstep_c33 (hl2 h2) (by omega) (hm2 h2) (hm3 h2) inV s hs1 (hw1 rfl) e (by omega)) ?_ (by decide)
      show (pushR (l.take (l.length - 2)) [(l.drop (l.length - 2)).getD 0 .empty ++ (l.drop (l.length - 2)).getD 1 .empty]).1 = 33
      rw [pushR_cons, if_neg (by omega), if_pos (by omega)]
  -- d
  · have h2 : 1 ≤ l.length := Nat.le_of_not_lt hf
    have h8 := hr 1
    by_cases hfull : l.length = 8
    · refine rdone_bad (c := 31) (rstep_full0 _ N cap (by omega) s hs1 (by have := hw1 rfl; omega) (by rw [e]; decide) (by rw [e]; show ¬ (N : Int) < 1; omega) (by rw [e]; show 8 < (N : Int) - 1 + 2; omega)) ?_ (by decide)
      exact push_full2 (by show (l.take (l.length - 1)).length = 7; omega) (hm1 h2)
    · exact rdone_ok (rstep_d (hl1 h2) (by omega) (hm1 h2) inV s hs1 (hw1 rfl) e) (push_two (by show (l.take (l.length - 1)).length + 2 ≤ 8; omega) (hm1 h2) (hm1 h2)) (.inl ⟨rfl, rfl⟩)
  -- s
  · have h2 : 2 ≤ l.length := Nat.le_of_not_lt hf
    have h8 := hr 2
    exact rdone_ok (rstep_s (hl2 h2) (by omega) (hm2 h2) (hm3 h2) inV s hs1 (hw1 rfl) e) (push_two (by show (l.take (l.length - 2)).length + 2 ≤ 8; omega) (hm3 h2) (hm2 h2)) (.inl ⟨rfl, rfl⟩)
  -- x
  · have h2 : 1 ≤ l.length := Nat.le_of_not_lt hf
    have h8 := hr 1
    exact rdone_ok (rstep_x (hl1 h2) (by omega) (hm1 h2) inV s hs1 (hw1 rfl) e) rfl (.inl ⟨rfl, rfl⟩)
  -- r
  · have h2 : 1 ≤ l.length := Nat.le_of_not_lt hf
    have h8 := hr 1
    exact rdone_ok (rstep_r (hl1 h2) (by omega) (hm1 h2) inV s hs1 (hw1 rfl) e) (push_one (by show (l.take (l.length - 1)).length + 1 ≤ 8; omega) (by rw [revS_size]; exact hm1 h2)) (.inl ⟨rfl, rfl⟩)
  -- h
  · have h2 : 1 ≤ l.length := Nat.le_of_not_lt hf
    have h8 := hr 1
    exact rdone_ok (rstep_h (hl1 h2) (by omega) (hm1 h2) inV s hs1 (hw1 rfl) e) (push_one (by show (l.take (l.length - 1)).length + 1 ≤ 8; omega) (by rw [hashS_size]; omega)) (.inl ⟨rfl, rfl⟩)
  -- l
  · have h2 : 1 ≤ l.length := Nat.le_of_not_lt hf
    have h8 := hr 1
    refine rdone_ok (rstep_l (hl1 h2) (by omega) (hm1 h2) inV s hs1 (hw1 rfl) e) ?_ (.inl ⟨rfl, rfl⟩)
    rw [← itoaS_dec]
    exact push_one (by show (l.take (l.length - 1)).length + 1 ≤ 8; omega) (by rw [itoaS_dec]; exact decS_digs _ (hm1 h2))
  -- =
  · have h2 : 2 ≤ l.length := Nat.le_of_not_lt hf
    have h8 := hr 2
    by_cases hab : (l.drop (l.length - 2)).getD 0 .empty = (l.drop (l.length - 2)).getD 1 .empty
    · refine rdone_ok (rstep_eq1 (hl2 h2) (by omega) (hm2 h2) (hm3 h2) inV s hs1 (hw1 rfl) e hab) ?_ (.inl ⟨rfl, rfl⟩)
      show pushR (l.take (l.length - 2)) [sameS ((l.drop (l.length - 2)).getD 0 .empty) ((l.drop (l.length - 2)).getD 1 .empty)] = _
      unfold sameS
      rw [if_pos hab]
      exact push_one (by omega) (by decide)
    · refine rdone_ok (rstep_eq0 (hl2 h2) (by omega) (hm2 h2) (hm3 h2) inV s hs1 (hw1 rfl) e hab) ?_ (.inl ⟨rfl, rfl⟩)
      show pushR (l.take (l.length - 2)) [sameS ((l.drop (l.length - 2)).getD 0 .empty) ((l.drop (l.length - 2)).getD 1 .empty)] = _
      unfold sameS
      rw [if_neg hab]
      exact push_one (by omega) (by decide)
  -- i
  · have hni : numN s < ins.length := Nat.lt_of_not_le fun hh => hi ⟨e, hh⟩
    have h8 := hr 0
    have e2 : putsR hashS ins 105 (numN s) s ((l.drop (l.length - takeN 105)).getD 0 .empty) ((l.drop (l.length - takeN 105)).getD 1 .empty) = [ins[numN s]] := by
      show [ins.getD (numN s) .empty] = _
      rw [List.getD_eq_getElem?_getD, List.getElem?_eq_getElem hni]; rfl
    rw [e2]
    by_cases hfull : l.length = 8
    · refine rdone_bad (c := 31) (rstep_fulli _ N cap (by omega) hin s hs1 (hw2 rfl) e hni (by rw [e]; show ¬ (N : Int) < 0; omega) (by rw [e]; show 8 < (N : Int) - 0 + 1; omega)) ?_ (by decide)
      exact push_full (by show 8 ≤ (l.take (l.length - 0)).length; omega)
    · exact rdone_ok (rstep_i hl0 (by omega) s hs1 (hw2 rfl) hs2 e hin hni hins) (push_one (by show (l.take (l.length - 0)).length + 1 ≤ 8; omega) (hins _ (List.getElem_mem hni))) (.inl ⟨rfl, rfl⟩)
  -- t
  · have h2 : 1 ≤ l.length := Nat.le_of_not_lt hf
    have h8 := hr 1
    have hb := hm1 h2
    by_cases hnb : numN s < ((l.drop (l.length - 1)).getD 0 .empty).size
    · refine rdone_ok (rstep_t1 (hl1 h2) (by omega) (hm1 h2) inV s hs1 (hw2 rfl) hs2 e hnb) ?_ (.inl ⟨rfl, rfl⟩)
      show pushR (l.take (l.length - 1)) [((l.drop (l.length - 1)).getD 0 .empty).extract 0 (min (numN s : Int) (((l.drop (l.length - 1)).getD 0 .empty).size : Int)).toNat] = _
      rw [show (min (numN s : Int) (((l.drop (l.length - 1)).getD 0 .empty).size : Int)).toNat = numN s by omega]
      exact push_one (by omega) (by rw [ByteArray.size_extract]; omega)
    · refine rdone_ok (rstep_t0 (hl1 h2) (by omega) (hm1 h2) inV s hs1 (hw2 rfl) hs2 e hnb) ?_ (.inl ⟨rfl, rfl⟩)
      show pushR (l.take (l.length - 1)) [((l.drop (l.length - 1)).getD 0 .empty).extract 0 (min (numN s : Int) (((l.drop (l.length - 1)).getD 0 .empty).size : Int)).toNat] = _
      rw [show (min (numN s : Int) (((l.drop (l.length - 1)).getD 0 .empty).size : Int)).toNat = ((l.drop (l.length - 1)).getD 0 .empty).size by omega, ByteArray.extract_zero_size]
      exact push_one (by omega) hb
  -- k
  · have h2 : 1 ≤ l.length := Nat.le_of_not_lt hf
    have h8 := hr 1
    have hb := hm1 h2
    by_cases hnb : numN s < ((l.drop (l.length - 1)).getD 0 .empty).size
    · refine rdone_ok (rstep_k1 (hl1 h2) (by omega) (hm1 h2) inV s hs1 (hw2 rfl) hs2 e hnb) ?_ (.inl ⟨rfl, rfl⟩)
      show pushR (l.take (l.length - 1)) [((l.drop (l.length - 1)).getD 0 .empty).extract (min (numN s : Int) (((l.drop (l.length - 1)).getD 0 .empty).size : Int)).toNat ((l.drop (l.length - 1)).getD 0 .empty).size] = _
      rw [show (min (numN s : Int) (((l.drop (l.length - 1)).getD 0 .empty).size : Int)).toNat = numN s by omega]
      exact push_one (by omega) (by rw [ByteArray.size_extract]; omega)
    · refine rdone_ok (rstep_k0 (hl1 h2) (by omega) (hm1 h2) inV s hs1 (hw2 rfl) hs2 e hnb) ?_ (.inl ⟨rfl, rfl⟩)
      show pushR (l.take (l.length - 1)) [((l.drop (l.length - 1)).getD 0 .empty).extract (min (numN s : Int) (((l.drop (l.length - 1)).getD 0 .empty).size : Int)).toNat ((l.drop (l.length - 1)).getD 0 .empty).size] = _
      rw [show (min (numN s : Int) (((l.drop (l.length - 1)).getD 0 .empty).size : Int)).toNat = ((l.drop (l.length - 1)).getD 0 .empty).size by omega, show ∀ x : ByteArray, x.extract x.size x.size = { data := #[] } from fun x => by apply ByteArray.ext; simp]
      exact push_one (by omega) (by decide)
  -- j
  · have h2 : 1 ≤ l.length := Nat.le_of_not_lt hf
    have h8 := hr 1
    by_cases hz : (l.drop (l.length - 1)).getD 0 .empty = ByteArray.empty
    · refine rdone_ok (rstep_j0 (hl1 h2) (by omega) (hm1 h2) inV s hs1 (hw2 rfl) hs2 e hz) rfl (.inr ?_)
      show _ = (((if (l.drop (l.length - 1)).getD 0 .empty = ByteArray.empty then numN s else at_ + s.size : Nat)) : Int)
      rw [if_pos hz]
    · refine rdone_ok (rstep_j1 (hl1 h2) (by omega) (hm1 h2) inV s hs1 (hw2 rfl) hs2 e hz) rfl (.inl ⟨rfl, ?_⟩)
      show (if (l.drop (l.length - 1)).getD 0 .empty = ByteArray.empty then numN s else at_ + s.size) = _
      rw [if_neg hz]
  -- g
  · have h8 := hr 0
    exact rdone_ok (rstep_g hl0 (by omega) inV s hs1 (hw2 rfl) hs2 e) rfl (.inr rfl)
  -- p
  · have h8 := hr 0
    by_cases hfull : l.length = 8
    · refine rdone_bad (c := 31) (rstep_full1 _ N cap (by omega) s hs1 (hw2 rfl) (by rw [e]; decide) (by rw [e]; show ¬ (N : Int) < 0; omega) (by rw [e]; show 8 < (N : Int) - 0 + 1; omega)) ?_ (by decide)
      exact push_full (by show 8 ≤ (l.take (l.length - 0)).length; omega)
    · exact rdone_ok (rstep_p hl0 (by omega) inV s hs1 (hw2 rfl) hs2 e) (push_one (by show (l.take (l.length - 0)).length + 1 ≤ 8; omega) (by rw [ByteArray.size_extract]; omega)) (.inl ⟨rfl, rfl⟩)
end Go.Proofs.YtegappcdmaodjaaDoor
