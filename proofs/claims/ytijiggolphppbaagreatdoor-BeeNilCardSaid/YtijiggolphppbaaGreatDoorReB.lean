/- Builds as texts, in plain words: names, codes, actions, reading and writing, and that they belong together. No program in sight. -/
import Derived.Test.YtijiggolphppbaaGreatDoorReA
import Derived.KernelRfl
namespace Go.Proofs.YtijiggolphppbaaGreatDoor
open Go

def letB (b : UInt8) : Bool := (decide (97 ≤ b.toNat) && decide (b.toNat ≤ 122)) || (decide (48 ≤ b.toNat) && decide (b.toNat ≤ 57))
def nameL (l : List UInt8) : Bool := decide (1 ≤ l.length) && decide (l.length ≤ 8) && l.all letB

def digitsL : List UInt8 := [48, 49, 50, 51, 52, 53, 54, 55, 56, 57, 97, 98, 99, 100, 101, 102]
def hexd (n : Nat) : UInt8 := digitsL.getD n 0
def digV (x : UInt8) : Int := Lib.indexByte digitsL x
def wordL (c : List UInt8) : List UInt8 := if c = [] then [45] else c.flatMap fun b => [hexd (b.toNat / 16), hexd (b.toNat % 16)]
def unhex : List UInt8 → Option (List UInt8)
  | x :: y :: r => if digV x < 0 ∨ digV y < 0 then none else (unhex r).map (UInt8.ofNat (16 * (digV x).toNat + (digV y).toNat) :: ·)
  | [] => some []
  | [_] => none
def codeL (w : List UInt8) : Option (List UInt8) := if w = [45] then some [] else if w = [] ∨ w.length % 2 ≠ 0 ∨ 128 < w.length then none else unhex w

theorem hexd_digV (n : Nat) (h : n < 16) : digV (hexd n) = n := by
  have key : ∀ k : Fin 16, digV (hexd k.1) = (k.1 : Int) := by decide +kernel
  exact key ⟨n, h⟩
theorem hexd_let (n : Nat) (h : n < 16) : letB (hexd n) = true := by
  have key : ∀ k : Fin 16, letB (hexd k.1) = true := by decide +kernel
  exact key ⟨n, h⟩
theorem digV_hexd (x : UInt8) (h : ¬ digV x < 0) : hexd (digV x).toNat = x ∧ (digV x).toNat < 16 := by
  have key : ∀ k : Fin 256, ¬ digV (UInt8.ofNat k.1) < 0 → hexd (digV (UInt8.ofNat k.1)).toNat = UInt8.ofNat k.1 ∧ (digV (UInt8.ofNat k.1)).toNat < 16 := by decide +kernel
  have := key ⟨x.toNat, x.toNat_lt⟩
  simp only [UInt8.ofNat_toNat] at this
  exact this h
theorem unhex_word : ∀ c : List UInt8, unhex (c.flatMap fun b => [hexd (b.toNat / 16), hexd (b.toNat % 16)]) = some c
  | [] => rfl
  | b :: r => by
    have ih := unhex_word r
    have hb := b.toNat_lt
    rw [List.flatMap_cons]
    show unhex (hexd (b.toNat / 16) :: hexd (b.toNat % 16) :: (r.flatMap fun b => [hexd (b.toNat / 16), hexd (b.toNat % 16)])) = some (b :: r)
    unfold unhex
    rw [ih, hexd_digV _ (by omega), hexd_digV _ (by omega), if_neg (by omega)]
    have : UInt8.ofNat (16 * ((b.toNat / 16 : Nat) : Int).toNat + ((b.toNat % 16 : Nat) : Int).toNat) = b := by
      have e : 16 * ((b.toNat / 16 : Nat) : Int).toNat + ((b.toNat % 16 : Nat) : Int).toNat = b.toNat := by omega
      rw [e]; simp
    rw [this]; rfl
theorem word_unhex : ∀ (w c : List UInt8), unhex w = some c → (c.flatMap fun b => [hexd (b.toNat / 16), hexd (b.toNat % 16)]) = w ∧ w.length = 2 * c.length
  | [], c, h => by unfold unhex at h; cases h; exact ⟨rfl, rfl⟩
  | [_], c, h => by unfold unhex at h; exact absurd h (by simp)
  | x :: y :: r, c, h => by
    unfold unhex at h
    split at h
    · exact absurd h (by simp)
    rename_i hd
    cases hu : unhex r with
    | none => rw [hu] at h; exact absurd h (by simp)
    | some c' =>
      rw [hu] at h
      have h := (Option.some.inj h).symm
      subst h
      have ih := word_unhex r c' hu
      obtain ⟨x1, x2⟩ := digV_hexd x (fun e => hd (.inl e))
      obtain ⟨y1, y2⟩ := digV_hexd y (fun e => hd (.inr e))
      have e1 : (UInt8.ofNat (16 * (digV x).toNat + (digV y).toNat)).toNat = 16 * (digV x).toNat + (digV y).toNat := by
        rw [UInt8.toNat_ofNat']; omega
      have e2 : (16 * (digV x).toNat + (digV y).toNat) / 16 = (digV x).toNat := by omega
      have e3 : (16 * (digV x).toNat + (digV y).toNat) % 16 = (digV y).toNat := by omega
      rw [List.flatMap_cons, ih.1, e1, e2, e3, x1, y1]
      exact ⟨rfl, by simp; omega⟩
theorem flat_len (c : List UInt8) : (c.flatMap fun b => [hexd (b.toNat / 16), hexd (b.toNat % 16)]).length = 2 * c.length := by
  induction c with
  | nil => rfl
  | cons b r ih => rw [List.flatMap_cons, List.length_append, ih]; simp; omega
theorem flat_let (c : List UInt8) : (c.flatMap fun b => [hexd (b.toNat / 16), hexd (b.toNat % 16)]).all letB = true := by
  induction c with
  | nil => rfl
  | cons b r ih =>
    have := b.toNat_lt
    rw [List.flatMap_cons, List.all_append, ih]
    simp [hexd_let (b.toNat / 16) (by omega), hexd_let (b.toNat % 16) (by omega)]
theorem let_45 : letB 45 = false := by decide
theorem codeL_word (c : List UInt8) (h : c.length ≤ 64) : codeL (wordL c) = some c := by
  unfold wordL
  by_cases hc : c = []
  · subst hc; rw [if_pos rfl]; unfold codeL; rw [if_pos rfl]
  · rw [if_neg hc]
    have hl := flat_len c
    have hp : 0 < c.length := List.length_pos_iff.2 hc
    have hlet := flat_let c
    generalize hw : (c.flatMap fun b => [hexd (b.toNat / 16), hexd (b.toNat % 16)]) = w at hl hlet
    unfold codeL
    rw [if_neg, if_neg, ← hw, unhex_word]
    · intro e
      rcases e with e | e | e
      · subst e; simp at hl; omega
      · omega
      · omega
    · intro e; subst e; simp [let_45] at hlet
theorem word_codeL (w c : List UInt8) (h : codeL w = some c) : wordL c = w ∧ c.length ≤ 64 := by
  unfold codeL at h
  split at h
  · rename_i e; cases h; subst e; exact ⟨rfl, by simp⟩
  split at h
  · exact absurd h (by simp)
  rename_i hn
  obtain ⟨h1, h2⟩ := word_unhex w c h
  simp only [not_or, Decidable.not_not, Nat.not_lt] at hn
  have hc : c ≠ [] := by
    intro e; subst e; exact hn.1 (List.length_eq_zero_iff.1 h2)
  unfold wordL
  rw [if_neg hc]
  exact ⟨h1, by omega⟩

theorem list_two {α : Type} : ∀ {l : List α}, l.length = 2 → ∃ a b, l = [a, b]
  | [a, b], _ => ⟨a, b, rfl⟩
structure ActR where
  name : List UInt8
  ins : List (List UInt8)
  code : List UInt8
structure GrR where
  srcs : List (List UInt8)
  acts : List ActR

def wSource : List UInt8 := [115, 111, 117, 114, 99, 101]
def wMake : List UInt8 := [109, 97, 107, 101]
def wFrom : List UInt8 := [102, 114, 111, 109]
def wBy : List UInt8 := [98, 121]

def actOK (a : ActR) : Bool := nameL a.name && a.ins.all nameL && decide (a.ins.length ≤ 4) && decide (a.code.length ≤ 64)
def grOK (g : GrR) : Bool := decide (g.srcs.length ≤ 8) && decide (g.acts.length ≤ 12) && g.srcs.all nameL && g.acts.all actOK
def srcLine (s : List UInt8) : List UInt8 := joinC 32 [wSource, s] ++ [10]
def actWs (a : ActR) : List (List UInt8) := [wMake, a.name] ++ (if a.ins = [] then [] else wFrom :: a.ins) ++ [wBy, wordL a.code]
def actLine (a : ActR) : List UInt8 := joinC 32 (actWs a) ++ [10]
def textL (g : GrR) : List UInt8 := (g.srcs.map srcLine).flatten ++ (g.acts.map actLine).flatten
def printR (g : GrR) : Option (List UInt8) := if grOK g then some (textL g) else none

/-- The action of a line's words. -/
def actionL (l : List (List UInt8)) : Option ActR :=
  if l.length < 4 ∨ l.getD 0 [] ≠ wMake ∨ l.getD (l.length - 2) [] ≠ wBy then none else
  match codeL (l.getD (l.length - 1) []) with
  | none => none
  | some c =>
    let inp := (l.take (l.length - 2)).drop 2
    if inp ≠ [] ∧ (inp.getD 0 [] ≠ wFrom ∨ inp.length < 2) then none else
    let a : ActR := ⟨l.getD 1 [], inp.drop 1, c⟩
    if actOK a then some a else none
def readL (g : GrR) (ws : List (List UInt8)) : Option GrR :=
  if ws.length = 2 ∧ ws.getD 0 [] = wSource then
    (if nameL (ws.getD 1 []) = true ∧ g.acts = [] ∧ g.srcs.length < 8 then some ⟨g.srcs ++ [ws.getD 1 []], g.acts⟩ else none)
  else match actionL ws with
    | none => none
    | some a => if g.acts.length < 12 then some ⟨g.srcs, g.acts ++ [a]⟩ else none
def noGr : GrR := ⟨[], []⟩
def parseL : Nat → Nat → GrR → List UInt8 → GrR × Nat × Nat
  | 0, n, g, t => if t = [] then (g, 0, 0) else (noGr, n, 3)
  | f + 1, n, g, t => if t = [] then (g, 0, 0) else if (cutC 10 t).2.2 = false then (noGr, n, 3) else
    match readL g (splitC 32 (cutC 10 t).1) with
    | none => (noGr, n, 24)
    | some g' => parseL f (n + 1) g' (cutC 10 t).2.1
def parseR (t : List UInt8) : GrR × Nat × Nat := if 8192 < t.length then (noGr, 0, 4) else parseL t.length 1 noGr t

theorem parseL_nil (f n : Nat) (g : GrR) : parseL f n g [] = (g, 0, 0) := by cases f <;> simp [parseL]
theorem parseL_noline (f n : Nat) (g : GrR) (t : List UInt8) (h : t ≠ []) (h2 : (cutC 10 t).2.2 = false) : parseL f n g t = (noGr, n, 3) := by
  cases f <;> simp [parseL, h, h2]
theorem parseL_bad (f n : Nat) (g : GrR) (t : List UInt8) (h : t ≠ []) (h2 : (cutC 10 t).2.2 = true) (h3 : readL g (splitC 32 (cutC 10 t).1) = none) : parseL (f + 1) n g t = (noGr, n, 24) := by
  simp [parseL, h, h2, h3]
theorem parseL_step (f n : Nat) (g g' : GrR) (t : List UInt8) (h : t ≠ []) (h2 : (cutC 10 t).2.2 = true) (h3 : readL g (splitC 32 (cutC 10 t).1) = some g') : parseL (f + 1) n g t = parseL f (n + 1) g' (cutC 10 t).2.1 := by
  simp [parseL, h, h2, h3]
theorem parseL_fuel : ∀ (f f' n : Nat) (g : GrR) (t : List UInt8), t.length ≤ f → t.length ≤ f' → parseL f n g t = parseL f' n g t
  | f, f', n, g, t, h1, h2 => by
    by_cases ht : t = []
    · subst ht; rw [parseL_nil, parseL_nil]
    · have hp := List.length_pos_iff.2 ht
      cases hc : (cutC 10 t).2.2 with
      | false => rw [parseL_noline _ _ _ _ ht hc, parseL_noline _ _ _ _ ht hc]
      | true =>
        obtain ⟨f, rfl⟩ : ∃ k, f = k + 1 := ⟨f - 1, by omega⟩
        obtain ⟨f', rfl⟩ : ∃ k, f' = k + 1 := ⟨f' - 1, by omega⟩
        cases hr : readL g (splitC 32 (cutC 10 t).1) with
        | none => rw [parseL_bad _ _ _ _ ht hc hr, parseL_bad _ _ _ _ ht hc hr]
        | some g' =>
          rw [parseL_step _ _ _ _ _ ht hc hr, parseL_step _ _ _ _ _ ht hc hr]
          have := cutC_lt 10 t hc
          exact parseL_fuel f f' _ _ _ (by omega) (by omega)
termination_by _ _ _ _ t => t.length

/-- A line of words, read. -/
theorem parseL_line (f n : Nat) (g g' : GrR) (ws : List (List UInt8)) (t : List UInt8) (hne : ws ≠ []) (h32 : ∀ w ∈ ws, (32 : UInt8) ∉ w) (h10 : ∀ w ∈ ws, (10 : UInt8) ∉ w) (h : readL g ws = some g') :
    parseL (f + 1) n g (joinC 32 ws ++ 10 :: t) = parseL f (n + 1) g' t := by
  have hc := cutC_at 10 (joinC 32 ws) t (joinC_mem 32 10 ws (by decide) h10)
  rw [parseL_step f n g g' _ (by simp) (by rw [hc]) (by rw [hc]; simp only; rw [splitC_join 32 ws hne h32]; exact h), hc]

theorem let_not (b : UInt8) (h : letB b = true) : b ≠ 32 ∧ b ≠ 10 ∧ b ≠ 45 := by
  refine ⟨?_, ?_, ?_⟩ <;> (intro e; subst e; exact absurd h (by decide))
theorem all_let_not {l : List UInt8} (h : l.all letB = true) : (32 : UInt8) ∉ l ∧ (10 : UInt8) ∉ l :=
  ⟨fun m => (let_not _ (List.all_eq_true.1 h _ m)).1 rfl, fun m => (let_not _ (List.all_eq_true.1 h _ m)).2.1 rfl⟩
theorem nameL_let {l : List UInt8} (h : nameL l = true) : 1 ≤ l.length ∧ l.length ≤ 8 ∧ l.all letB = true := by
  unfold nameL at h
  simp only [Bool.and_eq_true, decide_eq_true_eq] at h
  exact ⟨h.1.1, h.1.2, h.2⟩
theorem nameL_not {l : List UInt8} (h : nameL l = true) : (32 : UInt8) ∉ l ∧ (10 : UInt8) ∉ l := all_let_not (nameL_let h).2.2
theorem wordL_not (c : List UInt8) : (32 : UInt8) ∉ wordL c ∧ (10 : UInt8) ∉ wordL c := by
  unfold wordL
  split
  · decide
  · exact all_let_not (flat_let c)
theorem wordL_len (c : List UInt8) (h : c.length ≤ 64) : (wordL c).length ≤ 128 := by
  unfold wordL
  split
  · decide
  · rw [flat_len]; omega

theorem actOK_iff (a : ActR) : actOK a = true ↔ nameL a.name = true ∧ (∀ s ∈ a.ins, nameL s = true) ∧ a.ins.length ≤ 4 ∧ a.code.length ≤ 64 := by
  unfold actOK
  simp only [Bool.and_eq_true, decide_eq_true_eq, List.all_eq_true]
  constructor
  · rintro ⟨⟨⟨h1, h2⟩, h3⟩, h4⟩; exact ⟨h1, h2, h3, h4⟩
  · rintro ⟨h1, h2, h3, h4⟩; exact ⟨⟨⟨h1, h2⟩, h3⟩, h4⟩
theorem grOK_iff (g : GrR) : grOK g = true ↔ g.srcs.length ≤ 8 ∧ g.acts.length ≤ 12 ∧ (∀ s ∈ g.srcs, nameL s = true) ∧ (∀ a ∈ g.acts, actOK a = true) := by
  unfold grOK
  simp only [Bool.and_eq_true, decide_eq_true_eq, List.all_eq_true]
  constructor
  · rintro ⟨⟨⟨h1, h2⟩, h3⟩, h4⟩; exact ⟨h1, h2, h3, h4⟩
  · rintro ⟨h1, h2, h3, h4⟩; exact ⟨⟨⟨h1, h2⟩, h3⟩, h4⟩

theorem actWs_not (a : ActR) (h : actOK a = true) : (∀ w ∈ actWs a, (32 : UInt8) ∉ w) ∧ ∀ w ∈ actWs a, (10 : UInt8) ∉ w := by
  obtain ⟨h1, h2, h3, h4⟩ := (actOK_iff a).1 h
  have key : ∀ w ∈ actWs a, (32 : UInt8) ∉ w ∧ (10 : UInt8) ∉ w := by
    intro w hw
    unfold actWs at hw
    simp only [List.mem_append, List.mem_cons, List.not_mem_nil, or_false] at hw
    rcases hw with ((rfl | rfl) | hw) | (rfl | rfl)
    · decide
    · exact nameL_not h1
    · split at hw
      · exact absurd hw (by simp)
      · rcases List.mem_cons.1 hw with rfl | hw
        · decide
        · exact nameL_not (h2 w hw)
    · decide
    · exact wordL_not _
  exact ⟨fun w hw => (key w hw).1, fun w hw => (key w hw).2⟩
/-- An action's words are read as the action. -/
theorem actionL_ws (a : ActR) (h : actOK a = true) : actionL (actWs a) = some a := by
  obtain ⟨h1, h2, h3, h4⟩ := (actOK_iff a).1 h
  obtain ⟨nm, ins, cd⟩ := a
  have hc := codeL_word cd h4
  simp only at hc h1 h2 h3 h4
  cases ins with
  | nil =>
    show actionL [wMake, nm, wBy, wordL cd] = _
    unfold actionL
    simp [hc, h]
  | cons x r =>
    have e : actWs ⟨nm, x :: r, cd⟩ = wMake :: nm :: wFrom :: x :: (r ++ [wBy, wordL cd]) := by simp [actWs]
    have hl : (wMake :: nm :: wFrom :: x :: (r ++ [wBy, wordL cd])).length = r.length + 6 := by simp
    have g2 : (wMake :: nm :: wFrom :: x :: (r ++ [wBy, wordL cd])).getD (r.length + 6 - 2) [] = wBy := by
      have : r.length + 6 - 2 = r.length + 4 := by omega
      rw [this]; simp [List.getD_eq_getElem?_getD]
    have g1 : (wMake :: nm :: wFrom :: x :: (r ++ [wBy, wordL cd])).getD (r.length + 6 - 1) [] = wordL cd := by
      have : r.length + 6 - 1 = r.length + 5 := by omega
      rw [this]; simp [List.getD_eq_getElem?_getD]
    have tk : ((wMake :: nm :: wFrom :: x :: (r ++ [wBy, wordL cd])).take (r.length + 6 - 2)).drop 2 = wFrom :: x :: r := by
      have : r.length + 6 - 2 = r.length + 4 := by omega
      rw [this]; simp
    rw [e]
    unfold actionL
    rw [hl, g2, g1, hc, tk]
    simp [h]
/-- Words that are read as an action are its words. -/
theorem ws_actionL (ws : List (List UInt8)) (a : ActR) (h : actionL ws = some a) : actWs a = ws ∧ actOK a = true := by
  unfold actionL at h
  split at h
  · exact absurd h (by simp)
  rename_i hn
  simp only [not_or, Decidable.not_not, Nat.not_lt] at hn
  obtain ⟨hlen, h0, hby⟩ := hn
  cases hc : codeL (ws.getD (ws.length - 1) []) with
  | none => rw [hc] at h; exact absurd h (by simp)
  | some c =>
    rw [hc] at h
    simp only at h
    split at h
    · exact absurd h (by simp)
    rename_i hi
    split at h
    · rename_i hok
      cases h
      refine ⟨?_, hok⟩
      have hw := (word_codeL _ _ hc).1
      obtain ⟨x0, x1, r, rfl⟩ : ∃ x0 x1 r, ws = x0 :: x1 :: r := by
        match ws, hlen with
        | x0 :: x1 :: r, _ => exact ⟨x0, x1, r, rfl⟩
      obtain ⟨m, y0, y1, rfl⟩ : ∃ m y0 y1, r = m ++ [y0, y1] := by
        have hr : 2 ≤ r.length := by simp at hlen; omega
        have h2 : (r.drop (r.length - 2)).length = 2 := by simp; omega
        obtain ⟨y0, y1, e⟩ := list_two h2
        exact ⟨r.take (r.length - 2), y0, y1, by rw [← e, List.take_append_drop]⟩
      have hl : (x0 :: x1 :: (m ++ [y0, y1])).length = m.length + 4 := by simp
      have g2 : (x0 :: x1 :: (m ++ [y0, y1])).getD (m.length + 4 - 2) [] = y0 := by
        have : m.length + 4 - 2 = m.length + 2 := by omega
        rw [this]; simp [List.getD_eq_getElem?_getD]
      have g1 : (x0 :: x1 :: (m ++ [y0, y1])).getD (m.length + 4 - 1) [] = y1 := by
        have : m.length + 4 - 1 = m.length + 3 := by omega
        rw [this]; simp [List.getD_eq_getElem?_getD]
      have tk : ((x0 :: x1 :: (m ++ [y0, y1])).take (m.length + 4 - 2)).drop 2 = m := by
        have : m.length + 4 - 2 = m.length + 2 := by omega
        rw [this]; simp
      rw [hl] at hby hw hi ⊢
      rw [g2] at hby
      rw [g1] at hw
      rw [tk] at hi ⊢
      simp only [List.getD_cons_zero] at h0
      subst h0 hby
      simp only [not_and, not_or, Decidable.not_not, Nat.not_lt] at hi
      unfold actWs
      simp only [List.getD_cons_succ, List.getD_cons_zero, hw]
      cases m with
      | nil => simp
      | cons z m =>
        have := hi (by simp)
        simp only [List.getD_cons_zero, List.length_cons] at this
        obtain ⟨e1, e2⟩ := this
        subst e1
        have hm : m ≠ [] := by intro e; subst e; simp at e2
        simp [hm]
    · exact absurd h (by simp)

theorem readL_src (g : GrR) (s : List UInt8) (h : nameL s = true) (h1 : g.acts = []) (h2 : g.srcs.length < 8) : readL g [wSource, s] = some ⟨g.srcs ++ [s], g.acts⟩ := by
  unfold readL
  simp [h, h1, h2]
theorem readL_act (g : GrR) (a : ActR) (h : actOK a = true) (h2 : g.acts.length < 12) : readL g (actWs a) = some ⟨g.srcs, g.acts ++ [a]⟩ := by
  unfold readL
  rw [if_neg, actionL_ws a h]
  · simp [h2]
  · rintro ⟨e1, _⟩
    unfold actWs at e1
    simp at e1
theorem parseL_srcs : ∀ (ss : List (List UInt8)) (f n : Nat) (g : GrR) (t : List UInt8), (∀ s ∈ ss, nameL s = true) → g.acts = [] → g.srcs.length + ss.length ≤ 8 →
    parseL (f + ss.length) n g ((ss.map srcLine).flatten ++ t) = parseL f (n + ss.length) ⟨g.srcs ++ ss, g.acts⟩ t
  | [], f, n, g, t, _, _, _ => by simp
  | s :: ss, f, n, g, t, h, h1, h2 => by
    have hs := h s (by simp)
    have hr := readL_src g s hs h1 (by simp at h2; omega)
    have ih := parseL_srcs ss f (n + 1) ⟨g.srcs ++ [s], g.acts⟩ t (fun x hx => h x (by simp [hx])) h1 (by simp at h2 ⊢; omega)
    have e : ((s :: ss).map srcLine).flatten ++ t = joinC 32 [wSource, s] ++ 10 :: ((ss.map srcLine).flatten ++ t) := by simp [srcLine]
    rw [e, show f + (s :: ss).length = (f + ss.length) + 1 by simp; omega, parseL_line (f + ss.length) n g _ [wSource, s] _ (by simp) ?_ ?_ hr, ih]
    · simp only [List.length_cons, List.append_assoc, List.cons_append, List.nil_append]
      rw [show n + 1 + ss.length = n + (ss.length + 1) by omega]
    · intro w hw
      simp only [List.mem_cons, List.not_mem_nil, or_false] at hw
      rcases hw with rfl | rfl
      · decide
      · exact (nameL_not hs).1
    · intro w hw
      simp only [List.mem_cons, List.not_mem_nil, or_false] at hw
      rcases hw with rfl | rfl
      · decide
      · exact (nameL_not hs).2
theorem actWs_ne (a : ActR) : actWs a ≠ [] := by unfold actWs; simp
theorem parseL_acts : ∀ (as : List ActR) (f n : Nat) (g : GrR) (t : List UInt8), (∀ a ∈ as, actOK a = true) → g.acts.length + as.length ≤ 12 →
    parseL (f + as.length) n g ((as.map actLine).flatten ++ t) = parseL f (n + as.length) ⟨g.srcs, g.acts ++ as⟩ t
  | [], f, n, g, t, _, _ => by simp
  | a :: as, f, n, g, t, h, h2 => by
    have ha := h a (by simp)
    have hr := readL_act g a ha (by simp at h2; omega)
    have ih := parseL_acts as f (n + 1) ⟨g.srcs, g.acts ++ [a]⟩ t (fun x hx => h x (by simp [hx])) (by simp at h2 ⊢; omega)
    have e : ((a :: as).map actLine).flatten ++ t = joinC 32 (actWs a) ++ 10 :: ((as.map actLine).flatten ++ t) := by simp [actLine]
    rw [e, show f + (a :: as).length = (f + as.length) + 1 by simp; omega, parseL_line (f + as.length) n g _ (actWs a) _ (actWs_ne a) (actWs_not a ha).1 (actWs_not a ha).2 hr, ih]
    simp only [List.length_cons, List.append_assoc, List.cons_append, List.nil_append]
    rw [show n + 1 + as.length = n + (as.length + 1) by omega]

/-- A written build ahead of a text. -/
theorem parseL_text (g : GrR) (h : grOK g = true) (f : Nat) (t : List UInt8) : parseL (f + g.acts.length + g.srcs.length) 1 noGr (textL g ++ t) = parseL f (1 + g.srcs.length + g.acts.length) g t := by
  obtain ⟨h1, h2, h3, h4⟩ := (grOK_iff g).1 h
  unfold textL
  rw [List.append_assoc, parseL_srcs g.srcs (f + g.acts.length) 1 noGr _ h3 rfl (by simpa [noGr] using h1), parseL_acts g.acts f _ _ _ h4 (by simpa [noGr] using h2)]
  simp [noGr]

theorem joinC_len (c : UInt8) : ∀ ws : List (List UInt8), (joinC c ws).length ≤ (ws.map List.length).sum + ws.length
  | [] => by simp [joinC]
  | [x] => by simp [joinC]
  | x :: y :: r => by
    have ih := joinC_len c (y :: r)
    unfold joinC
    simp only [List.length_append, List.length_cons, List.map_cons, List.sum_cons] at ih ⊢
    omega
theorem sum_le (ss : List (List UInt8)) (k : Nat) (h : ∀ s ∈ ss, s.length ≤ k) : (ss.map List.length).sum ≤ k * ss.length := by
  induction ss with
  | nil => simp
  | cons s ss ih =>
    have := ih (fun x hx => h x (by simp [hx]))
    have h1 := h s (by simp)
    simp only [List.map_cons, List.sum_cons, List.length_cons, Nat.mul_add] at *
    omega
theorem srcLine_len (s : List UInt8) (h : nameL s = true) : (srcLine s).length ≤ 16 := by
  have := (nameL_let h).2.1
  simp [srcLine, joinC, wSource]; omega
theorem actLine_len (a : ActR) (h : actOK a = true) : (actLine a).length ≤ 200 := by
  obtain ⟨h1, h2, h3, h4⟩ := (actOK_iff a).1 h
  have hw := wordL_len a.code h4
  have hn := (nameL_let h1).2.1
  have hs := sum_le a.ins 8 (fun s hs => (nameL_let (h2 s hs)).2.1)
  have hj := joinC_len 32 (actWs a)
  unfold actLine
  simp only [List.length_append, List.length_cons, List.length_nil]
  have e : ((actWs a).map List.length).sum ≤ 4 + a.name.length + (4 + (a.ins.map List.length).sum) + 2 + (wordL a.code).length ∧ (actWs a).length ≤ 5 + a.ins.length := by
    unfold actWs
    split
    · simp [wMake, wBy]; omega
    · simp [wMake, wBy, wFrom]; omega
  omega
theorem flatten_len (ls : List (List UInt8)) (k : Nat) (h : ∀ l ∈ ls, l.length ≤ k) : ls.flatten.length ≤ k * ls.length := by
  rw [List.length_flatten]
  exact sum_le ls k h
theorem textL_len (g : GrR) (h : grOK g = true) : (textL g).length ≤ 2528 := by
  obtain ⟨h1, h2, h3, h4⟩ := (grOK_iff g).1 h
  have e1 := flatten_len (g.srcs.map srcLine) 16 (fun l hl => by obtain ⟨s, hs, rfl⟩ := List.mem_map.1 hl; exact srcLine_len s (h3 s hs))
  have e2 := flatten_len (g.acts.map actLine) 200 (fun l hl => by obtain ⟨s, hs, rfl⟩ := List.mem_map.1 hl; exact actLine_len s (h4 s hs))
  simp only [List.length_map] at e1 e2
  unfold textL
  rw [List.length_append]
  omega
theorem srcLine_pos (s : List UInt8) : 1 ≤ (srcLine s).length := by simp [srcLine]
theorem flatten_pos (ls : List (List UInt8)) (h : ∀ l ∈ ls, 1 ≤ l.length) : ls.length ≤ ls.flatten.length := by
  induction ls with
  | nil => simp
  | cons l ls ih =>
    have := ih (fun x hx => h x (by simp [hx]))
    have h1 := h l (by simp)
    simp only [List.length_cons, List.flatten_cons, List.length_append]
    omega
theorem textL_rows (g : GrR) : g.srcs.length + g.acts.length ≤ (textL g).length := by
  have e1 := flatten_pos (g.srcs.map srcLine) (fun l hl => by obtain ⟨s, hs, rfl⟩ := List.mem_map.1 hl; exact srcLine_pos s)
  have e2 := flatten_pos (g.acts.map actLine) (fun l hl => by obtain ⟨s, hs, rfl⟩ := List.mem_map.1 hl; simp [actLine])
  simp only [List.length_map] at e1 e2
  unfold textL
  rw [List.length_append]
  omega
/-- What is written is read as it was. -/
theorem parse_text (g : GrR) (h : grOK g = true) : parseR (textL g) = (g, 0, 0) := by
  have hl := textL_len g h
  have hr := textL_rows g
  unfold parseR
  rw [if_neg (by omega)]
  have := parseL_text g h (textL g).length []
  rw [List.append_nil, parseL_nil] at this
  rw [parseL_fuel _ ((textL g).length + g.acts.length + g.srcs.length) _ _ _ (Nat.le_refl _) (by omega), this]
/-- A text behind a written build. -/
theorem parse_behind (g : GrR) (h : grOK g = true) (t : List UInt8) (ht : t.length ≤ 5000) : parseR (textL g ++ t) = parseL t.length (1 + g.srcs.length + g.acts.length) g t := by
  have hl := textL_len g h
  have hr := textL_rows g
  unfold parseR
  rw [if_neg (by simp; omega)]
  have e := parseL_text g h (t.length + (textL g).length) t
  rw [parseL_fuel (textL g ++ t).length (t.length + (textL g).length + g.acts.length + g.srcs.length) _ _ _ (Nat.le_refl _) (by simp; omega), e]
  exact parseL_fuel _ _ _ _ _ (by omega) (Nat.le_refl _)

/-- What is read is written as it was. -/
theorem text_parseL : ∀ (f n : Nat) (g k : GrR) (t : List UInt8), t.length ≤ f → grOK g = true → parseL f n g t = (k, 0, 0) → grOK k = true ∧ textL k = textL g ++ t
  | f, n, g, k, t, hf, hg, h => by
    by_cases ht : t = []
    · subst ht
      rw [parseL_nil] at h
      cases h
      exact ⟨hg, by simp⟩
    · have hp := List.length_pos_iff.2 ht
      cases hc : (cutC 10 t).2.2 with
      | false => rw [parseL_noline _ _ _ _ ht hc] at h; simp at h
      | true =>
        obtain ⟨f, rfl⟩ : ∃ k, f = k + 1 := ⟨f - 1, by omega⟩
        cases hr : readL g (splitC 32 (cutC 10 t).1) with
        | none => rw [parseL_bad _ _ _ _ ht hc hr] at h; simp at h
        | some g' =>
          rw [parseL_step _ _ _ _ _ ht hc hr] at h
          have hlt := cutC_lt 10 t hc
          have hsp := (cutC_spec 10 t hc).1
          obtain ⟨h1, h2, h3, h4⟩ := (grOK_iff g).1 hg
          have key : grOK g' = true ∧ textL g' = textL g ++ ((cutC 10 t).1 ++ [10]) := by
            have hj := join_splitC 32 (cutC 10 t).1
            unfold readL at hr
            split at hr
            · rename_i e
              split at hr
              · rename_i e2
                cases hr
                obtain ⟨a, b, e3⟩ := list_two e.1
                rw [e3] at e e2 hj ⊢
                simp only [List.getD_cons_zero, List.getD_cons_succ] at e e2 hj ⊢
                obtain ⟨-, rfl⟩ := e
                refine ⟨(grOK_iff _).2 ⟨by simp; omega, by simp [e2.2.1], ?_, by simp [e2.2.1]⟩, ?_⟩
                · intro s hs
                  simp only [List.mem_append, List.mem_singleton] at hs
                  rcases hs with hs | rfl
                  · exact h3 s hs
                  · exact e2.1
                · unfold textL
                  simp only [e2.2.1, List.map_append, List.flatten_append, List.map_cons, List.map_nil, List.flatten_cons, List.flatten_nil, List.append_nil, srcLine, hj]
              · exact absurd hr (by simp)
            · cases ha : actionL (splitC 32 (cutC 10 t).1) with
              | none => rw [ha] at hr; exact absurd hr (by simp)
              | some a =>
                rw [ha] at hr
                simp only at hr
                split at hr
                · rename_i e2
                  cases hr
                  obtain ⟨w1, w2⟩ := ws_actionL _ _ ha
                  refine ⟨(grOK_iff _).2 ⟨h1, by simp; omega, h3, ?_⟩, ?_⟩
                  · intro s hs
                    simp only [List.mem_append, List.mem_singleton] at hs
                    rcases hs with hs | rfl
                    · exact h4 s hs
                    · exact w2
                  · unfold textL
                    simp only [List.map_append, List.flatten_append, List.map_cons, List.map_nil, List.flatten_cons, List.flatten_nil, List.append_nil, actLine, w1, hj, List.append_assoc]
                · exact absurd hr (by simp)
          have := text_parseL f (n + 1) g' k _ (by omega) key.1 h
          refine ⟨this.1, ?_⟩
          rw [this.2, key.2]
          conv => rhs; rw [hsp]
          simp
termination_by _ _ _ _ t => t.length
theorem text_parse (t : List UInt8) (k : GrR) (h : parseR t = (k, 0, 0)) : grOK k = true ∧ textL k = t := by
  unfold parseR at h
  split at h
  · simp at h
  · have := text_parseL t.length 1 noGr k t (Nat.le_refl _) rfl h
    exact ⟨this.1, by rw [this.2]; rfl⟩
/-- An answer that is no build: the line's number is not 0, the build is empty. -/
theorem parse_err (t : List UInt8) (h : (parseR t).2.2 ≠ 0) : (parseR t).1 = noGr ∧ ((parseR t).2.2 ≠ 4 → 1 ≤ (parseR t).2.1) := by
  have key : ∀ (f n : Nat) (g : GrR) (t : List UInt8), 1 ≤ n → (parseL f n g t).2.2 ≠ 0 → (parseL f n g t).1 = noGr ∧ 1 ≤ (parseL f n g t).2.1 := by
    intro f
    induction f with
    | zero =>
      intro n g t hn h
      unfold parseL at h ⊢
      split at h
      · exact absurd rfl h
      · rw [if_neg (by assumption)]; exact ⟨rfl, hn⟩
    | succ f ih =>
      intro n g t hn h
      unfold parseL at h ⊢
      split at h
      · exact absurd rfl h
      rw [if_neg (by assumption)]
      split at h
      · rw [if_pos (by assumption)]; exact ⟨rfl, hn⟩
      rw [if_neg (by assumption)]
      split at h
      · exact ⟨rfl, hn⟩
      · exact ih _ _ _ (by omega) h
  unfold parseR at h ⊢
  split
  · exact ⟨rfl, fun h => absurd rfl h⟩
  · rw [if_neg (by assumption)] at h
    have := key _ 1 _ t (Nat.le_refl _) h
    exact ⟨this.1, fun _ => this.2⟩
theorem textL_inj (g h : GrR) (hg : grOK g = true) (hh : grOK h = true) (e : textL g = textL h) : g = h := by
  have h1 := parse_text g hg
  have h2 := parse_text h hh
  rw [e, h2] at h1
  exact (congrArg Prod.fst h1).symm
end Go.Proofs.YtijiggolphppbaaGreatDoor
