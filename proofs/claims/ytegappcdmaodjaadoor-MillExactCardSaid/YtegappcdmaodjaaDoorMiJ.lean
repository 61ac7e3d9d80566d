/- mill.step walked, all letters joined: what a step leaves is stepR. -/
import Derived.Test.YtegappcdmaodjaaDoorMiI
namespace Go.Proofs.YtegappcdmaodjaaDoor
open Go.RowKit

/-- The tables that step reads (laid once; blocks below B). -/
def gPow : Nat := 2
theorem powG : Tryd.prog.globalNamed "internal/strconv.uint64pow10" = some gPow := by kernel_rfl
def gWds : Nat := 0
theorem wdsG : Tryd.prog.globalNamed "apiary/stamp.words" = some gWds := by kernel_rfl
def wordsTab : List Int := [1116352408, 1899447441, 3049323471, 3921009573, 961987163, 1508970993, 2453635748, 2870763221, 3624381080, 310598401, 607225278, 1426881987, 1925078388, 2162078206, 2614888103, 3248222580, 3835390401, 4022224774, 264347078, 604807628, 770255983, 1249150122, 1555081692, 1996064986, 2554220882, 2821834349, 2952996808, 3210313671, 3336571891, 3584528711, 113926993, 338241895, 666307205, 773529912, 1294757372, 1396182291, 1695183700, 1986661051, 2177026350, 2456956037, 2730485921, 2820302411, 3259730800, 3345764771, 3516065817, 3600352804, 4094571909, 275423344, 430227734, 506948616, 659060556, 883997877, 958139571, 1322822218, 1537002063, 1747873779, 1955562222, 2024104815, 2227730452, 2361852424, 2428436474, 2756734187, 3204031479, 3329325298]
structure TabsOK (B : Nat) (w : World) : Prop where
  pow : Lib.TabIs Tryd.prog w "internal/strconv.uint64pow10" .u64 Lib.pow10Tab
  wds : Lib.TabIs Tryd.prog w "apiary/stamp.words" .u32 wordsTab
  gp : gPow < B
  gw : gWds < B
theorem TabsOK.chg {B : Nat} {w w' : World} (h : TabsOK B w) (hc : Chg (fun k => B ≤ k) w w') : TabsOK B w' :=
  ⟨tabIs_chg powG h.pow hc (by have := h.gp; omega), tabIs_chg wdsG h.wds hc (by have := h.gw; omega), h.gp, h.gw⟩

/-- A letter that begins a step. -/
def okL (c : UInt8) : Bool := plainB c || numB c || c == 112
theorem okL_mem (c : UInt8) (h : okL c = true) : c = 99 ∨ c = 100 ∨ c = 115 ∨ c = 120 ∨ c = 114 ∨ c = 104 ∨ c = 108 ∨ c = 61 ∨ c = 105 ∨ c = 116 ∨ c = 107 ∨ c = 106 ∨ c = 103 ∨ c = 112 := by
  have key : ∀ n : Fin 256, okL (UInt8.ofNat n.1) = true → (n.1 = 99 ∨ n.1 = 100 ∨ n.1 = 115 ∨ n.1 = 120 ∨ n.1 = 114 ∨ n.1 = 104 ∨ n.1 = 108 ∨ n.1 = 61 ∨ n.1 = 105 ∨ n.1 = 116 ∨ n.1 = 107 ∨ n.1 = 106 ∨ n.1 = 103 ∨ n.1 = 112) := by decide +kernel
  have h1 := key ⟨c.toNat, c.toNat_lt⟩ (by simpa using h)
  simp only at h1
  have e : ∀ k : Nat, c.toNat = k → c = UInt8.ofNat k := fun k hk => by rw [← hk]; simp
  rcases h1 with h | h | h | h | h | h | h | h | h | h | h | h | h | h <;> (have := e _ h; subst this; decide)

def putsR (H : ByteArray → ByteArray) (ins : List ByteArray) (c : UInt8) (n : Nat) (s a b : ByteArray) : List ByteArray :=
  if c = 105 then [ins.getD n .empty] else if c = 112 then [s.extract 2 s.size] else if c = 99 then [a ++ b] else if c = 100 then [a, a] else if c = 115 then [b, a] else if c = 114 then [revS a]
  else if c = 104 then [H a] else if c = 108 then [itoaS a.size] else if c = 116 then [a.extract 0 (min (n : Int) (a.size : Int)).toNat] else if c = 107 then [a.extract (min (n : Int) (a.size : Int)).toNat a.size]
  else if c = 61 then [sameS a b] else []
def goesR (c : UInt8) (n k : Nat) (a : ByteArray) : Nat := if c = 103 then n else if c = 106 then (if a = ByteArray.empty then n else k) else k
/-- What a step leaves: its code, where it goes on, the stack. -/
def stepR (H : ByteArray → ByteArray) (ins : List ByteArray) (c : UInt8) (n : Nat) (s : ByteArray) (at_ : Nat) (l : List ByteArray) : Nat × Nat × List ByteArray :=
  if c = 105 ∧ ins.length ≤ n then (32, at_, l) else if l.length < takeN c then (31, at_, l)
  else
    let r := l.take (l.length - takeN c)
    let p := l.drop (l.length - takeN c)
    let q := pushR r (putsR H ins c n s (p.getD 0 .empty) (p.getD 1 .empty))
    (q.1, goesR c n (at_ + s.size) (p.getD 0 .empty), q.2)

theorem split1 {l : List ByteArray} (h : 1 ≤ l.length) : l.take (l.length - 1) ++ [(l.drop (l.length - 1)).getD 0 .empty] = l := by
  have h1 : (l.drop (l.length - 1)).length = 1 := by simp; omega
  obtain ⟨a, ha⟩ := List.length_eq_one_iff.1 h1
  have := List.take_append_drop (l.length - 1) l
  rw [ha] at this ⊢
  simpa using this
theorem split2 {l : List ByteArray} (h : 2 ≤ l.length) : l.take (l.length - 2) ++ [(l.drop (l.length - 2)).getD 0 .empty, (l.drop (l.length - 2)).getD 1 .empty] = l := by
  have h1 : (l.drop (l.length - 2)).length = 2 := by simp; omega
  obtain ⟨a, b, ha⟩ : ∃ a b, l.drop (l.length - 2) = [a, b] := by
    match hd : l.drop (l.length - 2), h1 with
    | [a, b], _ => exact ⟨a, b, rfl⟩
  have := List.take_append_drop (l.length - 2) l
  rw [ha] at this ⊢
  simpa using this
theorem mem1 {l : List ByteArray} (_ : 1 ≤ l.length) {k : Nat} (hk : 1 ≤ k) (hk2 : k ≤ l.length) (i : Nat) (hi : i < k) : (l.drop (l.length - k)).getD i .empty ∈ l := by
  have hl : i < (l.drop (l.length - k)).length := by simp; omega
  rw [List.getD_eq_getElem?_getD, List.getElem?_eq_getElem hl]
  exact List.mem_of_mem_drop (List.getElem_mem hl)

/-- The call of step with the letter 'h', said of any machine. -/
def StepH (H : ByteArray → ByteArray) : Prop :=
  ∀ {B : Nat} {w : World} {b : Nat} {v : Value} {code : ByteArray} {inV : Value} {at_ : Nat} {r : List ByteArray} {p0 : ByteArray} (_ : MachV B w b v code inV at_ (r ++ [p0])) (_ : B ≤ w.heap.size) (_ : r.length ≤ 8) (_ : p0.size ≤ 512) (_ : at_ ≤ 1000)
    (s : ByteArray) (_ : 1 ≤ s.size) (_ : s.size ≤ 300) (_ : s[0] = 104) (_ : TabsOK B w),
    Calls Tryd.prog 21 #[.pointer (some ⟨b, 0, none⟩), .string s] w (Stepped B w b code inV (at_ + s.size) (pushR r [H p0]))

theorem step_any (H : ByteArray → ByteArray) {B : Nat} {w : World} {b : Nat} {v : Value} {code : ByteArray} {inV : Value} {at_ : Nat} {l : List ByteArray} (h : MachV B w b v code inV at_ l) (hB : B ≤ w.heap.size) (hl : l.length ≤ 8) (hall : ∀ x ∈ l, x.size ≤ 512) (hat : at_ ≤ 1000)
    (s : ByteArray) (hs1 : 1 ≤ s.size) (hs2 : s.size ≤ 300) (hok : okL s[0] = true) (hp : s[0] = 112 → 2 ≤ s.size) {ins : List ByteArray} {w0 : World} (hin : StrsAt w0 inV ins) (hw0 : w0.heap.size ≤ B) (hc0 : Chg (fun k => B ≤ k) w0 w) (hT : TabsOK B w)
    (hH : s[0] = 104 → StepH H) :
    Calls Tryd.prog 21 #[.pointer (some ⟨b, 0, none⟩), .string s] w (Stepped B w b code inV (stepR H ins s[0] (numN s) s at_ l).2.1 ((stepR H ins s[0] (numN s) s at_ l).1, (stepR H ins s[0] (numN s) s at_ l).2.2)) := by
  by_cases hi : s[0] = 105 ∧ ins.length ≤ numN s
  · unfold stepR
    rw [if_pos hi]
    exact step_bad h s hs1 hs2 hi.1 hin hi.2
  by_cases hf : l.length < takeN s[0]
  · have hne : s[0] ≠ 105 := by intro e; rw [e] at hf; exact absurd hf (by show ¬ l.length < 0; omega)
    unfold stepR
    rw [if_neg hi, if_pos hf]
    exact step_few h s hs1 hs2 hne hf
  have hr : ∀ k, (l.take (l.length - k)).length ≤ 8 := fun k => by simp; omega
  rcases okL_mem _ hok with e | e | e | e | e | e | e | e | e | e | e | e | e | e
  all_goals (unfold stepR; rw [if_neg hi, if_neg hf]; rw [e] at hf ⊢)
  · have h2 : 2 ≤ l.length := Nat.le_of_not_lt hf
    exact step_c (by rw [show takeN 99 = 2 from rfl, split2 h2]; exact h) hB (hr _) (hall _ (mem1 (by omega) (by decide) h2 0 (by decide))) (hall _ (mem1 (by omega) (by decide) h2 1 (by decide))) hat s hs1 hs2 e
  · have h2 : 1 ≤ l.length := Nat.le_of_not_lt hf
    exact step_d (by rw [show takeN 100 = 1 from rfl, split1 h2]; exact h) hB (hr _) (hall _ (mem1 (by omega) (by decide) h2 0 (by decide))) hat s hs1 hs2 e
  · have h2 : 2 ≤ l.length := Nat.le_of_not_lt hf
    exact step_s (by rw [show takeN 115 = 2 from rfl, split2 h2]; exact h) hB (hr _) (hall _ (mem1 (by omega) (by decide) h2 0 (by decide))) (hall _ (mem1 (by omega) (by decide) h2 1 (by decide))) hat s hs1 hs2 e
  · have h2 : 1 ≤ l.length := Nat.le_of_not_lt hf
    exact step_x (p0 := (l.drop (l.length - 1)).getD 0 .empty) (by rw [show takeN 120 = 1 from rfl, split1 h2]; exact h) hB (hr _) (hall _ (mem1 (by omega) (by decide) h2 0 (by decide))) hat s hs1 hs2 e
  · have h2 : 1 ≤ l.length := Nat.le_of_not_lt hf
    exact step_r (by rw [show takeN 114 = 1 from rfl, split1 h2]; exact h) hB (hr _) (hall _ (mem1 (by omega) (by decide) h2 0 (by decide))) hat s hs1 hs2 e
  · have h2 : 1 ≤ l.length := Nat.le_of_not_lt hf
    exact hH e (by rw [show takeN 104 = 1 from rfl, split1 h2]; exact h) hB (hr _) (hall _ (mem1 (by omega) (by decide) h2 0 (by decide))) hat s hs1 hs2 e hT
  · have h2 : 1 ≤ l.length := Nat.le_of_not_lt hf
    exact step_l (by rw [show takeN 108 = 1 from rfl, split1 h2]; exact h) hB (hr _) (hall _ (mem1 (by omega) (by decide) h2 0 (by decide))) hat s hs1 hs2 e hT.pow _ powG hT.gp
  · have h2 : 2 ≤ l.length := Nat.le_of_not_lt hf
    exact step_eq (by rw [show takeN 61 = 2 from rfl, split2 h2]; exact h) hB (hr _) (hall _ (mem1 (by omega) (by decide) h2 0 (by decide))) (hall _ (mem1 (by omega) (by decide) h2 1 (by decide))) hat s hs1 hs2 e
  · have hn : numN s < ins.length := Nat.lt_of_not_le fun hh => hi ⟨e, hh⟩
    have h3 : l.take (l.length - takeN 105) = l := by rw [show takeN 105 = 0 from rfl]; simp
    have := step_i (r := l) (by rw [List.append_nil]; exact h) hB hl hat s hs1 hs2 e hin hw0 hc0 hn
    have e2 : ∀ a b, putsR H ins 105 (numN s) s a b = [ins[numN s]] := fun a b => by
      show [ins.getD (numN s) .empty] = _
      rw [List.getD_eq_getElem?_getD, List.getElem?_eq_getElem hn]; rfl
    simp only [h3, e2]
    exact this
  · have h2 : 1 ≤ l.length := Nat.le_of_not_lt hf
    exact step_t (by rw [show takeN 116 = 1 from rfl, split1 h2]; exact h) hB (hr _) (hall _ (mem1 (by omega) (by decide) h2 0 (by decide))) hat s hs1 hs2 e
  · have h2 : 1 ≤ l.length := Nat.le_of_not_lt hf
    exact step_k (by rw [show takeN 107 = 1 from rfl, split1 h2]; exact h) hB (hr _) (hall _ (mem1 (by omega) (by decide) h2 0 (by decide))) hat s hs1 hs2 e
  · have h2 : 1 ≤ l.length := Nat.le_of_not_lt hf
    by_cases hz : (l.drop (l.length - 1)).getD 0 .empty = ByteArray.empty
    · have e2 : goesR 106 (numN s) (at_ + s.size) ((l.drop (l.length - takeN 106)).getD 0 .empty) = numN s := by
        show (if (l.drop (l.length - 1)).getD 0 .empty = ByteArray.empty then _ else _) = _
        rw [if_pos hz]
      show Calls _ _ _ _ (Stepped _ _ _ _ _ (goesR 106 (numN s) (at_ + s.size) ((l.drop (l.length - takeN 106)).getD 0 .empty)) _)
      rw [e2]
      exact step_j0 (by rw [show takeN 106 = 1 from rfl, split1 h2]; exact h) hB (hr _) (hall _ (mem1 (by omega) (by decide) h2 0 (by decide))) hat s hs1 hs2 e hz
    · have e2 : goesR 106 (numN s) (at_ + s.size) ((l.drop (l.length - takeN 106)).getD 0 .empty) = at_ + s.size := by
        show (if (l.drop (l.length - 1)).getD 0 .empty = ByteArray.empty then _ else _) = _
        rw [if_neg hz]
      show Calls _ _ _ _ (Stepped _ _ _ _ _ (goesR 106 (numN s) (at_ + s.size) ((l.drop (l.length - takeN 106)).getD 0 .empty)) _)
      rw [e2]
      exact step_j1 (by rw [show takeN 106 = 1 from rfl, split1 h2]; exact h) hB (hr _) (hall _ (mem1 (by omega) (by decide) h2 0 (by decide))) hat s hs1 hs2 e hz
  · have h3 : l.take (l.length - takeN 103) = l := by rw [show takeN 103 = 0 from rfl]; simp
    have := step_g (r := l) (by rw [List.append_nil]; exact h) hB hl hat s hs1 hs2 e
    rw [h3]
    exact this
  · have h3 : l.take (l.length - takeN 112) = l := by rw [show takeN 112 = 0 from rfl]; simp
    have := step_p (r := l) (by rw [List.append_nil]; exact h) hB hl hat s hs1 hs2 e (hp e)
    rw [h3]
    exact this
end Go.Proofs.YtegappcdmaodjaaDoor
