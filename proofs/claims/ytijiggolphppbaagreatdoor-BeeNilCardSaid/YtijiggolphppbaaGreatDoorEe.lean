/- Checks of tables, runs that are proved one by one, the rest of a body. -/
import Derived.Test.YtijiggolphppbaaGreatDoorEd
namespace Go.Proofs.YtijiggolphppbaaGreatDoor.Ev
open Go
/-- A tree out of a list. -/
def buildT {α : Type} : List (Nat × α) → T α
  | [] => .leaf
  | x :: l => T.set FU (buildT l) x.1 (some x.2)
def lowB {α : Type} : List (Nat × α) → Bool
  | [] => true
  | x :: l => Nat.blt x.1 MX && lowB l
theorem buildT_mem {α : Type} : ∀ {l : List (Nat × α)}, lowB l = true → ∀ {i : Nat} {x : α}, (buildT l).get i = some x → (i, x) ∈ l
  | [], _, i, x, h => by rw [buildT, T.get_leaf] at h; cases h
  | y :: l, hb, i, x, h => by
    simp only [lowB, Bool.and_eq_true] at hb
    have h1 := lt_MX hb.1
    rw [buildT, T.get_set FU _ y.1 (some y.2) i (by omega)] at h
    by_cases e : i = y.1
    · rw [if_pos e] at h
      simp only [Option.some.injEq] at h
      rw [e, ← h]
      exact List.mem_cons_self
    · rw [if_neg e] at h
      exact List.mem_cons_of_mem _ (buildT_mem hb.2 h)
def eqFs : List (Nat × TypeId) → List Field → Bool
  | [], [] => true
  | x :: l, f :: m => Nat.beq x.1 f.offset && Nat.beq x.2 f.type && eqFs l m
  | _, _ => false
def eqD : D → TypeDesc → Bool
  | .other, .struct _ => false
  | .other, .array _ _ => false
  | .other, _ => true
  | .bool, .bool => true
  | .string, .string => true
  | .unsafePointer, .unsafePointer => true
  | .func, .func _ _ _ => true
  | .int k, .int j => eqK k j
  | .slice a, .slice b => Nat.beq a b
  | .pointer a, .pointer b => Nat.beq a b
  | .array n a, .array m b => Nat.beq n m && Nat.beq a b
  | .map a b, .map c d => Nat.beq a c && Nat.beq b d
  | .struct l, .struct fs => eqFs l fs.toList
  | _, _ => false
theorem eqFs_ok : ∀ {l : List (Nat × TypeId)} {m : List Field}, eqFs l m = true → l = m.map fun f => (f.offset, f.type)
  | [], [], _ => rfl
  | x :: l, f :: m, h => by
    simp only [eqFs, Bool.and_eq_true, beq_eq] at h
    rw [List.map_cons, ← eqFs_ok h.2, ← h.1.1, ← h.1.2]
  | [], _ :: _, h => by simp [eqFs] at h
  | _ :: _, [], h => by simp [eqFs] at h
theorem eqD_ok {d : D} {u : TypeDesc} (h : eqD d u = true) : DR d u := by
  cases d <;> cases u <;> simp only [eqD, reduceCtorEq, Bool.and_eq_true, beq_eq, eqK_eq] at h <;> simp only [DR]
  all_goals first
    | trivial
    | (rw [h]; done)
    | (rw [h.1, h.2]; done)
    | exact ⟨_, _, _, rfl⟩
    | exact ⟨_, rfl, eqFs_ok h⟩
def eqLk : List Lk → List Lk → Bool
  | [], [] => true
  | .bool :: l, .bool :: m => eqLk l m
  | .int j :: l, .int k :: m => eqK j k && eqLk l m
  | .str :: l, .str :: m => eqLk l m
  | _, _ => false
theorem eqLk_ok : ∀ {l m : List Lk}, eqLk l m = true → l = m
  | [], [], _ => rfl
  | .bool :: l, .bool :: m, h => by rw [eqLk_ok (l := l) (m := m) (by simpa [eqLk] using h)]
  | .int j :: l, .int k :: m, h => by
    simp only [eqLk, Bool.and_eq_true, eqK_eq] at h
    rw [h.1, eqLk_ok h.2]
  | .str :: l, .str :: m, h => by rw [eqLk_ok (l := l) (m := m) (by simpa [eqLk] using h)]
def rowB : TypeDesc → Bool
  | .struct _ => true
  | .array _ _ => true
  | _ => false
theorem rowB_ok (d : TypeDesc) : d.isRow = rowB d := by cases d <;> rfl
def zeroB (u : Ty) (z : Value) : Bool := match ofV z with
  | some a => eqAs a.cells u.zero && (bif u.one then a.one else (match z with | .agg _ => true | _ => false))
  | none => false
def tyOk (P : Program) (t : TypeId) (u : Ty) : Bool := match P.underlying t, P.info? t with
  | some d, some i => eqD u.und d && (rowB d == !u.one) && Nat.beq i.size u.size && Nat.beq i.bytes u.bytes && (match i.zero with | some z => zeroB u z | none => false) && Nat.beq u.zero.length u.size && onesB u.zero &&
      (match d with | .struct fs => fs.toList.all fun f => (P.info? f.type).isSome | _ => true) &&
      (match u.key with | none => true | some ks => P.keyTypeAt 60 t && (match leafs P 100 t with | some l => eqLk l ks | none => false) && !(P.eqGuardType P.depth t))
  | _, _ => false
theorem tyOk_ok {P : Program} {t : TypeId} {u : Ty} (h : tyOk P t u = true) : TyR P t u := by
  unfold tyOk at h
  split at h
  · rename_i d i hd hi
    simp only [Bool.and_eq_true, beq_eq, beq_iff_eq] at h
    obtain ⟨⟨⟨⟨⟨⟨⟨⟨h1, h2⟩, h3⟩, h4⟩, h5⟩, h6⟩, h7⟩, h8⟩, h9⟩ := h
    split at h5
    · rename_i z hz
      unfold zeroB at h5
      split at h5
      · rename_i a ha
        simp only [Bool.and_eq_true] at h5
        obtain ⟨e1, e2⟩ := h5
        have e3 := eqAs_sound e1
        refine ⟨⟨d, hd, eqD_ok h1, by rw [rowB_ok]; exact h2⟩, ⟨i, z, hi, h3, hz, h6, fun c => ?_, fun c ho => ?_, fun ho => ?_⟩, onesB_ok h7, ⟨i, hi, h4⟩, ?_, ?_⟩
        · rw [← e3]
          exact (ofV_ok ha).cells
        · rw [ho] at e2
          simp only [cond_true] at e2
          refine ⟨a, ?_, ofV_ok ha⟩
          rw [← e3]
          cases a <;> first | rfl | cases e2
        · rw [ho] at e2
          simp only [cond_false] at e2
          split at e2
          · exact ⟨_, rfl⟩
          · cases e2
        · intro gs hgs f hf
          rw [hgs] at hd
          simp only [Option.some.injEq] at hd
          subst hd
          simp only at h8
          have := List.all_eq_true.1 h8 f (Array.mem_toList_iff.2 hf)
          exact Option.isSome_iff_exists.1 this
        · intro ks hks
          rw [hks] at h9
          simp only [Bool.and_eq_true, Bool.not_eq_true'] at h9
          obtain ⟨⟨q1, q2⟩, q3⟩ := h9
          split at q2
          · rename_i l hl
            exact ⟨⟨60, by omega, q1⟩, by rw [hl, eqLk_ok q2], q3⟩
          · cases q2
      · cases h5
    · cases h5
  · cases h
def tysB (P : Program) : List (Nat × Ty) → Bool
  | [] => true
  | x :: l => tyOk P x.1 x.2 && tysB P l
theorem tysB_ok {P : Program} : ∀ {l : List (Nat × Ty)}, tysB P l = true → ∀ x ∈ l, TyR P x.1 x.2
  | [], _ => by simp
  | y :: l, h => by
    simp only [tysB, Bool.and_eq_true] at h
    intro x hx
    rcases List.mem_cons.1 hx with rfl | hx
    · exact tyOk_ok h.1
    · exact tysB_ok h.2 x hx
/- functions -/
def ofF (f : Func) : Fun := match f.body with | some c => ⟨c, f.ntmps, f.results.toList⟩ | none => ⟨.skip, 0, []⟩
def fnB (g : Prg) (f : Func) : Bool := !(f.name == "runtime.NumGoroutine") && (match f.body with | some c => codeOk g f.ntmps c | none => false)
def FnOk (P : Program) (g : Prg) (i : Nat) (F : Fun) : Prop := ∃ fn, P.funcs[i]? = some fn ∧ fn.body = some F.body ∧ fn.ntmps = F.ntmps ∧ fn.results.toList = F.results ∧ (fn.name == "runtime.NumGoroutine") = false ∧ codeOk g F.ntmps F.body = true
theorem fnB_ok {P : Program} {g : Prg} {i : Nat} {f : Func} (hf : P.funcs[i]? = some f) (h : fnB g f = true) : FnOk P g i (ofF f) := by
  unfold fnB at h
  simp only [Bool.and_eq_true, Bool.not_eq_true'] at h
  obtain ⟨h1, h2⟩ := h
  split at h2
  · rename_i c hc
    refine ⟨f, hf, ?_, ?_, ?_, h1, ?_⟩ <;> unfold ofF <;> rw [hc]
    exact h2
  · cases h2
def fnsB (g : Prg) : List Func → Bool
  | [] => true
  | f :: l => fnB g f && fnsB g l
theorem fnsB_ok {g : Prg} : ∀ {l : List Func}, fnsB g l = true → ∀ f ∈ l, fnB g f = true
  | [], _ => by simp
  | y :: l, h => by
    simp only [fnsB, Bool.and_eq_true] at h
    intro x hx
    rcases List.mem_cons.1 hx with rfl | hx
    · exact h.1
    · exact fnsB_ok h.2 x hx
/-- All of a row are there. -/
def AtAll (P : Program) : List (Nat × Func) → Prop
  | [] => True
  | x :: l => P.funcs[x.1]? = some x.2 ∧ AtAll P l
theorem AtAll.mem {P : Program} : ∀ {l : List (Nat × Func)}, AtAll P l → ∀ x ∈ l, P.funcs[x.1]? = some x.2
  | [], _ => by simp
  | y :: l, h => by
    intro x hx
    rcases List.mem_cons.1 hx with rfl | hx
    · exact h.1
    · exact AtAll.mem h.2 x hx
end Go.Proofs.YtijiggolphppbaaGreatDoor.Ev
namespace Go.Proofs.YtijiggolphppbaaGreatDoor.Ev
open Go
def eqTA : T AV → T AV → Bool
  | .leaf, .leaf => true
  | .node l v r, .node l' v' r' => eqTA l l' && (match v, v' with | none, none => true | some a, some b => eqA a b | _, _ => false) && eqTA r r'
  | _, _ => false
theorem eqTA_sound : ∀ {a b : T AV}, eqTA a b = true → a = b
  | .leaf, .leaf, _ => rfl
  | .node l v r, .node l' v' r', h => by
    simp only [eqTA, Bool.and_eq_true] at h
    obtain ⟨⟨h1, h2⟩, h3⟩ := h
    rw [eqTA_sound h1, eqTA_sound h3]
    cases v <;> cases v' <;> simp only [reduceCtorEq] at h2
    · rfl
    · rw [eqA_sound h2]
  | .leaf, .node _ _ _, h => by simp [eqTA] at h
  | .node _ _ _, .leaf, h => by simp [eqTA] at h
def eqMp : List (AV × AV) → List (AV × AV) → Bool
  | [], [] => true
  | x :: l, y :: m => eqA x.1 y.1 && eqA x.2 y.2 && eqMp l m
  | _, _ => false
theorem eqMp_sound : ∀ {a b : List (AV × AV)}, eqMp a b = true → a = b
  | [], [], _ => rfl
  | x :: l, y :: m, h => by
    simp only [eqMp, Bool.and_eq_true] at h
    rw [eqMp_sound h.2, show x = y from Prod.ext (eqA_sound h.1.1) (eqA_sound h.1.2)]
  | [], _ :: _, h => by simp [eqMp] at h
  | _ :: _, [], h => by simp [eqMp] at h
def eqAO : AO → AO → Bool
  | .cells n t ty, .cells m u tz => Nat.beq n m && Nat.beq ty tz && eqTA t u
  | .map l, .map m => eqMp l m
  | .dead, .dead => true
  | _, _ => false
theorem eqAO_sound {a b : AO} (h : eqAO a b = true) : a = b := by
  cases a <;> cases b <;> simp only [eqAO, reduceCtorEq, Bool.and_eq_true, beq_eq] at h
  · rw [h.1.1, h.1.2, eqTA_sound h.2]
  · rw [eqMp_sound h]
  · rfl
def eqTO : T AO → T AO → Bool
  | .leaf, .leaf => true
  | .node l v r, .node l' v' r' => eqTO l l' && (match v, v' with | none, none => true | some a, some b => eqAO a b | _, _ => false) && eqTO r r'
  | _, _ => false
theorem eqTO_sound : ∀ {a b : T AO}, eqTO a b = true → a = b
  | .leaf, .leaf, _ => rfl
  | .node l v r, .node l' v' r', h => by
    simp only [eqTO, Bool.and_eq_true] at h
    obtain ⟨⟨h1, h2⟩, h3⟩ := h
    rw [eqTO_sound h1, eqTO_sound h3]
    cases v <;> cases v' <;> simp only [reduceCtorEq] at h2
    · rfl
    · rw [eqAO_sound h2]
  | .leaf, .node _ _ _, h => by simp [eqTO] at h
  | .node _ _ _, .leaf, h => by simp [eqTO] at h
def eqSt (a b : St) : Bool := Nat.beq a.nx b.nx && eqTO a.heap b.heap
theorem eqSt_sound {a b : St} (h : eqSt a b = true) : a = b := by
  cases a; cases b
  simp only [eqSt, Bool.and_eq_true, beq_eq] at h
  rw [h.1, eqTO_sound h.2]
/-- The names of the first are the second's; of the elder ones (below k) all are there. -/
def subB (k : Nat) (a b : T AO) : Nat → Bool
  | 0 => true
  | n + 1 => (match a.get n, b.get n with
    | none, none => true
    | none, some _ => Nat.ble k n
    | some x, some y => eqAO x y
    | some _, none => false) && subB k a b n
theorem subB_ok {k : Nat} {a b : T AO} : ∀ {m : Nat}, subB k a b m = true → ∀ n, n < m → (∀ o, a.get n = some o → b.get n = some o) ∧ (n < k → a.get n = b.get n)
  | 0, _, n, hn => absurd hn (Nat.not_lt_zero n)
  | m + 1, h, n, hn => by
    simp only [subB, Bool.and_eq_true] at h
    by_cases e : n = m
    · subst e
      have h1 := h.1
      cases ha : a.get n <;> cases hb : b.get n <;> rw [ha, hb] at h1 <;> simp only [reduceCtorEq, ble_eq] at h1
      · exact ⟨fun o ho => (by cases ho), fun _ => rfl⟩
      · exact ⟨fun o ho => (by cases ho), fun hk => (by omega)⟩
      · rw [eqAO_sound h1]
        exact ⟨fun o ho => ho, fun _ => rfl⟩
    · exact subB_ok h.2 n (by omega)
theorem Post.sub {c c' : Cx} {σ σ1 σ2 : St} {w w1 : World} (h : Post c c' σ σ1 w w1) (hx : σ2.nx = σ1.nx) (hs : ∀ n, n < σ1.nx → (∀ o, σ2.heap.get n = some o → σ1.heap.get n = some o) ∧ (n < σ.nx → σ2.heap.get n = σ1.heap.get n)) : Post c c' σ σ2 w w1 := by
  have hs1 : ∀ n o, c'.D n → σ2.heap.get n = some o → σ1.heap.get n = some o := fun n o hn ho => (hs n (h.sim.nx n hn)).1 o ho
  have hsim : Sim c' σ2 w1 := ⟨fun n hn => by rw [hx]; exact h.sim.nx n hn, by rw [hx]; exact h.sim.mx, h.sim.top, fun m n o p hm hn ho hp => h.sim.inj m n o p hm hn (hs1 m o hm ho) (hs1 n p hn hp),
    fun n k t ty hn ho => h.sim.cells n k t ty hn (hs1 n _ hn ho), h.sim.zero, fun n l hn ho => h.sim.maps n l hn (hs1 n _ hn ho), h.sim.base, h.sim.far⟩
  have hnx := h.nx
  exact ⟨h.le, hsim, by omega, h.new, fun n hn hD => by rw [(hs n (by omega)).2 hn]; exact h.old n hn hD, h.os, h.tape, h.output, h.size, h.block, fun n o hn ho ha => h.blk n o hn (hs1 n o hn ho) ha⟩
/-- A call's run, to a state that is written out. -/
def runB (g : Prg) (N : Nat) (f : FuncId) (args : List AV) (σ : St) (v : AV) (σ2 : St) : Bool := match call g N f args σ with
  | some (v', σ') => eqA v v' && Nat.beq σ2.nx σ'.nx && subB σ.nx σ2.heap σ'.heap σ'.nx
  | none => false
theorem runB_ok {P : Program} {g : Prg} {J : World → Prop} (hP : PrgR P g J) {N : Nat} {f : FuncId} {args : List AV} {σ σ2 : St} {v : AV} (h : runB g N f args σ v σ2 = true) : CallOut P J f args σ v σ2 := by
  unfold runB at h
  cases hc : call g N f args σ with
  | none => rw [hc] at h; cases h
  | some r =>
    obtain ⟨v', σ'⟩ := r
    rw [hc] at h
    simp only [Bool.and_eq_true, beq_eq] at h
    obtain ⟨⟨h1, h2⟩, h3⟩ := h
    have e := eqA_sound h1
    subst e
    intro c w as hJ hv hs
    have hsub := fun n hn => subB_ok h3 n hn
    rcases call_ok hP N f args σ v σ' hc c w as hJ hv hs with ⟨v2, w2, c2, q1, q2, q3⟩ | ⟨q1, q2⟩
    · exact .inl ⟨v2, w2, c2, q1, q2.sub h2 hsub, q3⟩
    · refine .inr ⟨q1, Calls.mono q2 ?_⟩
      rintro e w2 ⟨v2, c2, r1, r2, r3⟩
      exact ⟨v2, c2, r1, r2.sub h2 hsub, r3⟩
/-- A call whose outcome is known at one state. -/
structure Memo where
  f : FuncId
  args : List AV
  σ : St
  v : AV
  σ2 : St
def memoR (m : Memo) (args : List AV) (σ : St) : Option (AV × St) := bif eqAs args m.args && eqSt σ m.σ then some (m.v, m.σ2) else none
def memosR : List Memo → FuncId → Option (List AV → St → Option (AV × St))
  | [], _ => none
  | m :: l, f => bif Nat.beq f m.f then some fun args σ => (match memoR m args σ with
      | some r => some r
      | none => (match memosR l f with | some k => k args σ | none => none)) else memosR l f
def withMemos (g : Prg) (l : List Memo) : Prg := ⟨g.ty, g.fn, fun f => match memosR l f with | some k => some k | none => g.known f⟩
def MemosOk (P : Program) (J : World → Prop) : List Memo → Prop
  | [] => True
  | m :: l => CallOut P J m.f m.args m.σ m.v m.σ2 ∧ MemosOk P J l
theorem memosR_ok {P : Program} {J : World → Prop} : ∀ {l : List Memo}, MemosOk P J l → ∀ f k, memosR l f = some k → ∀ args σ v σ', k args σ = some (v, σ') → CallOut P J f args σ v σ'
  | [], _, f, k, h => by simp [memosR] at h
  | m :: l, hm, f, k, h => by
    intro args σ v σ' hk
    unfold memosR at h
    cases hb : Nat.beq f m.f with
    | false =>
      rw [hb] at h
      exact memosR_ok hm.2 f k h args σ v σ' hk
    | true =>
      rw [hb] at h
      simp only [cond_true, Option.some.injEq] at h
      subst h
      have e := beq_eq.1 hb
      subst e
      cases hr : memoR m args σ with
      | some r =>
        simp only [hr] at hk
        simp only [Option.some.injEq] at hk
        subst hk
        simp only [memoR, bif_eq, Bool.and_eq_true, Option.some.injEq, Prod.mk.injEq] at hr
        obtain ⟨⟨e1, e2⟩, rfl, rfl⟩ := hr
        rw [eqAs_sound e1, eqSt_sound e2]
        exact hm.1
      | none =>
        simp only [hr] at hk
        cases hq : memosR l m.f with
        | none => rw [hq] at hk; cases hk
        | some k2 =>
          rw [hq] at hk
          exact memosR_ok hm.2 m.f k2 hq args σ v σ' hk
theorem cls_memos (g : Prg) (l : List Memo) (op : Op) : cls (withMemos g l) op = cls g op := rfl
theorem codeOk_ty {g g' : Prg} (h : g'.ty = g.ty) : ∀ (c : Code) (n : Nat), codeOk g' n c = codeOk g n c := by
  have hcls : cls g' = cls g := by
    funext op
    unfold cls
    rw [h]
  have hp : ∀ ops pre i o d l j, pairsOk g' ops pre i o d j l = pairsOk g ops pre i o d j l := by
    intro ops pre i o d l
    induction l with
    | nil => intro j; rfl
    | cons p l ih => intro j; simp only [pairsOk, hcls, ih]
  have hd : ∀ ops pre l i, drawOk g' ops pre i l = drawOk g ops pre i l := by
    intro ops pre l
    induction l with
    | nil => intro i; rfl
    | cons o l ih => intro i; simp only [drawOk, ih, hp]
  intro c
  induction c <;> intro n <;> simp only [codeOk, *]
theorem PrgR.memos {P : Program} {g : Prg} {J : World → Prop} (hP : PrgR P g J) {l : List Memo} (hm : MemosOk P J l) : PrgR P (withMemos g l) J where
  tys := hP.tys
  fns f F hF := by
    obtain ⟨fn, h1, h2, h3, h4, h5, h6⟩ := hP.fns f F hF
    exact ⟨fn, h1, h2, h3, h4, h5, by rw [codeOk_ty (g := g) (g' := withMemos g l) rfl]; exact h6⟩
  known f k hk := by
    simp only [withMemos] at hk
    cases hq : memosR l f with
    | none => rw [hq] at hk; exact hP.known f k hk
    | some k2 =>
      rw [hq] at hk
      simp only [Option.some.injEq] at hk
      subst hk
      exact memosR_ok hm f k2 hq
  mixed := hP.mixed
/-- Nothing is there yet. -/
def Cx.none (W : World) : Cx := ⟨fun _ => False, fun _ => (0, 0), fun _ => 0, fun _ => .bool false, W⟩
theorem Sim.nothing (W : World) {k : Nat} (hk : k ≤ MX + 1) : Sim (Cx.none W) ⟨.leaf, k⟩ W :=
  ⟨fun _ h => h.elim, hk, fun _ _ => rfl, fun _ _ _ _ h => h.elim, fun _ _ _ _ h => h.elim, fun _ h => h.elim, fun _ _ h => h.elim, ⟨Nat.le_refl _, fun _ _ => rfl⟩, fun _ h => h.elim⟩
end Go.Proofs.YtijiggolphppbaaGreatDoor.Ev
namespace Go.Proofs.YtijiggolphppbaaGreatDoor.Ev
open Go
section
variable {P : Program} {g : Prg}
/-- The rest of a body, from a frame whose first slots are known. -/
def restR (g : Prg) (n : Nat) (cd : Code) (rs : List ResultVar) (L : List AV) (σ : St) : Option (AV × St) := bnd (code g n cd ⟨cellsT FU 0 L .leaf, σ⟩) fun p => match p.1 with
  | .ret => bnd (resultsA g p.2 rs) fun vs => match vs with
    | [v] => some (v, p.2.σ)
    | vs => some (.tup vs, p.2.σ)
  | _ => none
theorem rest_ok {J : World → Prop} (hP : PrgR P g J) {fn : Func} {cd : Code} {n : Nat} {L : List AV} {σ σ' : St} {v : AV} (hk : codeOk g fn.ntmps cd = true) (hN : fn.ntmps < MX) (hargs : L.length < MX)
    (h : restR g n cd fn.results.toList L σ = some (v, σ')) {c : Cx} {w : World} {as : Array Value} (hJ : J c.W) (hv : VRs c L as.toList) (hs : Sim c σ w) :
    cd.wp P (bodyPost P fn fun e w' => ∃ v' c', e = .returned v' ∧ Post c c' σ σ' w w' ∧ VR c' v v') { tmps := as ++ Array.replicate (fn.ntmps - as.size) undef, defers := [] } w := by
  unfold restR at h
  simp only [bnd_eq] at h
  obtain ⟨⟨x, frF⟩, h1, h2⟩ := h
  have hlen := hv.len
  have hmx := MX_FU
  have hfr : FrR c fn.ntmps (cellsT FU 0 L .leaf) { tmps := as ++ Array.replicate (fn.ntmps - as.size) undef, defers := [] } := by
    refine ⟨fun d => ?_, by simp; omega, rfl⟩
    rw [cellsT_get L 0 .leaf d (by omega)]
    by_cases e : 0 ≤ d ∧ d < 0 + L.length
    · rw [if_pos e]
      have hd : L[d - 0]? = some (L[d]'(by omega)) := by simp
      rw [hd]
      obtain ⟨x, hx, hxv⟩ := hv.get hd
      simp only [Option.getD_some]
      have hx2 : as[d]? = some x := by simpa using hx
      have : (as ++ Array.replicate (fn.ntmps - as.size) undef).getD d undef = x := by
        rw [Array.getD_eq_getD_getElem?, Array.getElem?_append_left (by simp at hlen; omega), hx2]
        rfl
      simp only [this]
      exact hxv
    · rw [if_neg e, T.get_leaf]
      have : (as ++ Array.replicate (fn.ntmps - as.size) undef).getD d undef = undef := by
        rw [Array.getD_eq_getD_getElem?, Array.getElem?_append_right (by simp at hlen; omega), Array.getElem?_replicate]
        split <;> rfl
      simp only [this]
      exact VR.un c
  refine code_ok hP hN n (fun k _ => call_ok hP k) hJ h1 hk hfr hs fun c' a' w' hp hf' => ?_
  have fin : (bnd (resultsA g frF fn.results.toList) fun vs => match vs with
      | [v] => some (v, frF.σ)
      | vs => some (.tup vs, frF.σ)) = some (v, σ') → bodyPost P fn (fun e w' => ∃ v' c', e = .returned v' ∧ Post c c' σ σ' w w' ∧ VR c' v v') .ret a' w' := by
    intro h2
    rw [bnd_eq] at h2
    obtain ⟨vs, hvs, h2⟩ := h2
    have hres : ∃ vals : List Value, (results fn a'.tmps).run P w' = .ok (if h : vals.toArray.size = 1 then vals.toArray[0] else .tuple vals.toArray) w' ∧ VRs c' vs vals := by
      have main : ∀ F : ResultVar → Sem Value, (∀ t, F (.tmp t) = pure (a'.tmps.getD t undef)) → (∀ x t, F (.cell x t) = (do loadVar t (← asAddr (a'.tmps.getD x undef)))) → ∃ vals : List Value,
          ((do let vs ← fn.results.mapM F; pure (if h : vs.size = 1 then vs[0] else .tuple vs)) : Sem Value).run P w' = .ok (if h : vals.toArray.size = 1 then vals.toArray[0] else .tuple vals.toArray) w' ∧ VRs c' vs vals := by
        intro F hF1 hF2
        obtain ⟨vals, q1, q2⟩ := results_ok (P := P) hP.tys hf' hp.sim hF1 hF2 hvs
        refine ⟨vals, ?_, q2⟩
        rw [Sem.run_bind, Array.mapM_eq_mapM_toList, Sem.run_map, q1]
        rfl
      exact main _ (fun _ => rfl) (fun _ _ => rfl)
    obtain ⟨vals, hrun, q2⟩ := hres
    refine ⟨hf'.defers, _, hrun, ?_⟩
    split at h2
    · rename_i v1
      simp only [Option.some.injEq, Prod.mk.injEq] at h2
      obtain ⟨rfl, rfl⟩ := h2
      obtain ⟨u, rfl, hu⟩ := q2.inv1
      exact ⟨_, c', rfl, hp, hu⟩
    · rename_i hne
      simp only [Option.some.injEq, Prod.mk.injEq] at h2
      obtain ⟨rfl, rfl⟩ := h2
      have hsz : vals.toArray.size ≠ 1 := by
        intro e
        have hl := q2.len
        simp only [List.size_toArray] at e
        rw [e] at hl
        obtain ⟨y, hy⟩ := List.length_eq_one_iff.1 hl
        exact hne y hy
      rw [dif_neg hsz]
      exact ⟨_, c', rfl, hp, .tup q2⟩
  cases x with
  | ret => exact fin h2
  | normal => cases h2
  | exit id => cases h2
  | goto l => cases h2
end
end Go.Proofs.YtijiggolphppbaaGreatDoor.Ev
namespace Go.Proofs.YtijiggolphppbaaGreatDoor.Ev
open Go
section
variable {P : Program} {c : Cx} {σ : St} {w w' : World}
/-- Blocks that were there are as they were. -/
structure Kept (w w' : World) : Prop where
  os : w'.os = w.os
  tape : w'.tape = w.tape
  output : w'.output = w.output
  size : w.heap.size ≤ w'.heap.size
  block : ∀ b, b < w.heap.size → w'.heap[b]? = w.heap[b]?
theorem Kept.refl (w : World) : Kept w w := ⟨rfl, rfl, rfl, Nat.le_refl _, fun _ _ => rfl⟩
theorem Sim.kept (h : Sim c σ w) (k : Kept w w') : Sim c σ w' := by
  have hat : ∀ {b : Nat} {o : Obj}, w.heap[b]? = some o → w'.heap[b]? = some o := fun {b o} hb => by
    rw [k.block b (Array.getElem?_eq_some_iff.1 hb).1]; exact hb
  have hsz := k.size
  refine ⟨h.nx, h.mx, fun b hb => h.top b (by omega), h.inj, ?_, h.zero, ?_, ?_, h.far⟩
  · intro n q t ty hD ho
    obtain ⟨cs, lo, hi, h1, h2⟩ := h.cells n q t ty hD ho
    exact ⟨cs, lo, hi, hat h1, h2⟩
  · intro n l hD ho
    obtain ⟨es, clock, h1, h2⟩ := h.maps n l hD ho
    exact ⟨es, clock, hat h1, h2⟩
  · refine ⟨Nat.le_trans h.base.1 k.size, fun b hb => ?_⟩
    rw [k.block b (Nat.lt_of_lt_of_le hb h.base.1)]
    exact h.base.2 b hb
theorem Post.kept (h : Sim c σ w) (k : Kept w w') : Post c c σ σ w w' :=
  ⟨.refl c, h.kept k, Nat.le_refl _, fun _ h => .inl h, fun _ _ _ => rfl, k.os, k.tape, k.output, k.size, fun b hb _ => k.block b hb, fun n o hd ho ha => .inr ⟨n, o, hd, ho, ha, rfl⟩⟩
theorem Sim.adopt (h : Sim c σ w) {n : Nat} (hD : ¬ c.D n) (hn : n < σ.nx) {f : Fresh} {ao : AO} (hf : f.obj = some ao) (hg : σ.heap.get n = some ao) {o : Obj} {k : Nat} (hr : FreshR c f o k) {w' : World} (hk : Kept w w') {gb : Nat} (hgb : w.heap.size ≤ gb) (hgo : w'.heap[gb]? = some o) :
    c.le (c.more n gb 0 k) ∧ Sim (c.more n gb 0 k) σ w' := by
  have hlt := (Array.getElem?_eq_some_iff.1 hgo).1
  have hkb := hk.block
  have hle : c.le (c.more n gb 0 k) := c.more_le hD (by rw [h.top _ hgb]; exact Nat.zero_le _)
  refine ⟨hle, ?_⟩
  have hold : ∀ m, c.D m → m ≠ n := fun m hm e => hD (e ▸ hm)
  have hρ : ∀ m, c.D m → (c.more n gb 0 k).ρ m = c.ρ m := fun m hm => if_neg (hold m hm)
  have hL : ∀ b, b < w.heap.size → (c.more n gb 0 k).L b = c.L b := fun b hb => if_neg (by omega)
  have hN := c.more_ρ n gb 0 k
  have hLN := c.more_L n gb 0 k
  have hsz := hk.size
  have hbase := h.base
  refine ⟨?_, h.mx, ?_, ?_, ?_, ?_, ?_, ⟨by show c.W.heap.size ≤ _; omega, fun b hb => by have hb2 : b < c.W.heap.size := hb; rw [hkb _ (by omega)]; exact hbase.2 b hb2⟩, ?_⟩
  · rintro m (hm | rfl)
    · exact h.nx m hm
    · exact hn
  · intro b hb
    show (if b = gb then k else c.L b) = 0
    rw [if_neg (by omega)]
    exact h.top b (by omega)
  · intro m n' o1 p hm hn' ho hp ha hb he
    by_cases e1 : m = n
    · by_cases e2 : n' = n
      · rw [e1, e2]
      · exfalso
        have hn2 : c.D n' := hn'.resolve_right e2
        have := h.blk hn2 hp hb
        rw [e1, hN, hρ n' hn2] at he
        simp only at he
        omega
    · have hm2 : c.D m := hm.resolve_right e1
      by_cases e2 : n' = n
      · exfalso
        have := h.blk hm2 ho ha
        rw [e2, hN, hρ m hm2] at he
        simp only at he
        omega
      · have hn2 : c.D n' := hn'.resolve_right e2
        rw [hρ m hm2, hρ n' hn2] at he
        exact h.inj m n' o1 p hm2 hn2 ho hp ha hb he
  · intro m k2 t ty2 hm ho
    by_cases e1 : m = n
    · subst e1
      rw [hg] at ho
      cases f with
      | map => simp only [Fresh.obj, Option.some.injEq] at hf; subst hf; cases ho
      | row l ty =>
        simp only [Fresh.obj, bif_eq] at hf
        obtain ⟨hb, hf⟩ := hf
        simp only [Option.some.injEq] at hf
        subst hf
        simp only [Option.some.injEq, AO.cells.injEq] at ho
        obtain ⟨rfl, rfl, rfl⟩ := ho
        obtain ⟨vs, cs, lo, hi, rfl, hl, h1, h2, h3, h4, rfl⟩ := hr
        have hb2 := lt_MX hb
        have hlen := hl.len
        rw [hN]
        refine ⟨cs, lo, hi, by exact hgo, hLN, Nat.le_of_lt hb2.1, by simp only; omega, h4, fun i a hi => ?_⟩
        rw [cellsT_get l 0 .leaf i (by omega)] at hi
        by_cases h5 : 0 ≤ i ∧ i < 0 + l.length
        · rw [if_pos h5] at hi
          simp only [Nat.sub_zero] at hi
          obtain ⟨v, hv, hav⟩ := hl.get hi
          exact ⟨by omega, v, by simpa using h2 _ _ hv, hav.mono hle, h1 a (List.mem_of_getElem? hi)⟩
        · rw [if_neg h5, T.get_leaf] at hi
          cases hi
    · have hm' : c.D m := hm.resolve_right e1
      have hbl := h.blk hm' ho rfl
      obtain ⟨cs2, lo, hi, g1, g2, gk, g3, g4, g5⟩ := h.cells _ _ _ _ hm' ho
      rw [hρ m hm']
      refine ⟨cs2, lo, hi, by rw [hkb _ (by omega)]; exact g1, by rw [hL _ hbl]; exact g2, gk, g3, g4, fun i a hi => ?_⟩
      obtain ⟨q1, v, q2, q3, q4⟩ := g5 i a hi
      exact ⟨q1, v, q2, q3.mono hle, q4⟩
  · rintro m (hm | rfl)
    · rw [hρ m hm]; exact h.zero m hm
    · rw [hN]
  · intro m l2 hm ho
    by_cases e1 : m = n
    · subst e1
      rw [hg] at ho
      cases f with
      | map =>
        simp only [Fresh.obj, Option.some.injEq] at hf
        subst hf
        simp only [Option.some.injEq, AO.map.injEq] at ho
        subst ho
        obtain ⟨rfl, _⟩ := hr
        rw [hN]
        exact ⟨#[], 0, by exact hgo, .nil, MapKept.stamped_empty 0⟩
      | row l ty =>
        simp only [Fresh.obj, bif_eq] at hf
        obtain ⟨hb, hf⟩ := hf
        simp only [Option.some.injEq] at hf
        subst hf
        cases ho
    · have hm' : c.D m := hm.resolve_right e1
      have hbl := h.blk hm' ho rfl
      obtain ⟨es, clock, g1, g2⟩ := h.maps _ _ hm' ho
      rw [hρ m hm']
      exact ⟨es, clock, by rw [hkb _ (by omega)]; exact g1, g2.1.mono hle, g2.2⟩
  · rintro m (hm | rfl)
    · rw [hρ m hm]; exact h.far m hm
    · rw [hN]; show c.W.heap.size ≤ gb; omega
theorem Post.adopt (h : Sim c σ w) {f : Fresh} {n : Nat} {σ1 : St} (hf : newF σ f = some (n, σ1)) {o : Obj} {k : Nat} (hr : FreshR c f o k) (hk : Kept w w') {gb : Nat} (hgb : w.heap.size ≤ gb) (hgo : w'.heap[gb]? = some o) :
    Post c (c.more n gb 0 k) σ σ1 w w' := by
  obtain ⟨ao, h1, rfl, h3, h4, h5, h6⟩ := newF_some hf
  have hD : ¬ c.D σ.nx := fun e => by have := h.nx _ e; omega
  have hc : Sim c σ1 w := h.congr (by omega) (by omega) (fun n hn => h6 n (fun e => hD (e ▸ hn)))
  obtain ⟨g1, g2⟩ := hc.adopt hD (by omega) h1 h5 hr hk hgb hgo
  refine ⟨g1, g2, by omega, fun n hn => ?_, fun n hn _ => h6 n (by omega), hk.os, hk.tape, hk.output, hk.size, fun b hb _ => hk.block b hb, fun n o2 hn ho ha => ?_⟩
  · rcases hn with hn | rfl
    · exact .inl hn
    · exact .inr (Nat.le_refl _)
  · by_cases e : n = σ.nx
    · subst e
      exact .inl (by rw [Cx.more_ρ]; exact hgb)
    · have hn2 : c.D n := hn.resolve_right e
      rw [h6 n e] at ho
      exact .inr ⟨n, o2, hn2, ho, ha, (if_neg e : (c.more σ.nx gb 0 k).ρ n = c.ρ n) ▸ rfl⟩
end
/-- Texts of a row. -/
def strsO : List AV → Option (List (List Nat))
  | [] => some []
  | .str s :: l => bnd (strsO l) fun r => some (s :: r)
  | _ => none
theorem strsO_ok {c : Cx} : ∀ {l : List AV} {vs : List Value} {ss : List (List Nat)}, VRs c l vs → strsO l = some ss → vs = ss.map (fun s => Value.string (bsN s)) ∧ ∀ s ∈ ss, ∀ b ∈ s, b < 256
  | [], _, ss, h, e => by
    cases h
    simp only [strsO, Option.some.injEq] at e
    subst e
    exact ⟨rfl, fun s hs => by cases hs⟩
  | .str s :: l, _, ss, h, e => by
    cases h with
    | cons h t =>
      simp only [strsO, bnd_eq] at e
      obtain ⟨r, hr, e⟩ := e
      simp only [Option.some.injEq] at e
      subst e
      obtain ⟨h1, h2⟩ := strsO_ok t hr
      cases h with
      | str s hs =>
        refine ⟨by rw [h1]; rfl, fun x hx => ?_⟩
        rcases List.mem_cons.1 hx with rfl | hx
        · exact hs
        · exact h2 x hx
  | .bool _ :: _, _, _, _, e | .int _ _ :: _, _, _, _, e | .ptr _ :: _, _, _, _, e | .sl _ _ _ :: _, _, _, _, e | .mp _ :: _, _, _, _, e | .fn _ _ _ :: _, _, _, _, e | .nilFn :: _, _, _, _, e | .nilI :: _, _, _, _, e
  | .agg _ :: _, _, _, _, e | .tup _ :: _, _, _, _, e | .x _ :: _, _, _, _, e => by simp [strsO] at e
/-- A row of texts. -/
theorem Sim.texts {c : Cx} {σ : St} {w : World} (h : Sim c σ w) {n i len es : Nat} {v : Value} (hv : VR c (.sl (some (n, i)) len es) v) (hi : i = 0) (hlen : 1 ≤ len) {l : List AV} (hl : loadN σ (n, i) len = some l) {ss : List (List Nat)} (hs : strsO l = some ss) :
    ∃ b cap, v = .slice (some ⟨b, 0, none⟩) len cap ∧ len ≤ cap ∧ b < w.heap.size ∧ ss.length = len ∧ (∀ j x, ss[j]? = some x → w.cell? ⟨b, j, none⟩ = some (.string (bsN x))) ∧ ∀ s ∈ ss, ∀ b ∈ s, b < 256 := by
  subst hi
  cases hv with
  | sl n i len es cap off hD hc ho hb =>
    obtain ⟨vs, q1, q2, q3⟩ := h.range hD hl
    obtain ⟨e1, e2⟩ := strsO_ok q1 hs
    have hz := h.zero n hD
    have hlen2 : l.length = len := by
      unfold loadN at hl
      cases hg : σ.heap.get n with
      | none => simp [hg] at hl
      | some o =>
        simp only [hg] at hl
        cases o with
        | cells k t ty => exact (readN_some hl).1
        | map m => cases hl
        | dead => cases hl
    have hss : ss.length = len := by
      have := q1.len
      rw [e1, List.length_map] at this
      omega
    have hoff : off = 0 := by
      rcases ho with ho | ho <;> omega
    subst hoff
    have hcell : ∀ j x, ss[j]? = some x → w.cell? ⟨(c.ρ n).1, j, none⟩ = some (.string (bsN x)) := by
      intro j x hx
      have := q2 j (.string (bsN x)) (by rw [e1, List.getElem?_map, hx]; rfl)
      rw [hz] at this
      simpa using this
    refine ⟨_, cap, rfl, hc, ?_, hss, hcell, e2⟩
    obtain ⟨x, hx⟩ : ∃ x, ss[0]? = some x := ⟨ss[0], List.getElem?_eq_getElem (by omega)⟩
    have := hcell 0 x hx
    unfold World.cell? at this
    cases hg : w.heap[(c.ρ n).1]? with
    | none => simp [hg] at this
    | some o => exact (Array.getElem?_eq_some_iff.1 hg).1
end Go.Proofs.YtijiggolphppbaaGreatDoor.Ev
