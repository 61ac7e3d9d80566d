/- The evaluator is sound: regions, drawn regions, control, calls. -/
import Derived.Test.YtijiggolphppbaaGreatDoorEc
import Derived.LoopN
import Derived.Conc.MuLone
namespace Go.Proofs.YtijiggolphppbaaGreatDoor.Ev
open Go
section
variable {P : Program} {g : Prg} {c : Cx} {w w1 : World} {σ σ1 σ2 : St} {E : Operand → Option AV} {ρ : Operand → Value}
theorem DoneR.congr {s s' : Sem Next} {v : AV} (h : s.run P w = s'.run P w) (hd : DoneR P c σ σ1 w s' v) : DoneR P c σ σ1 w s v := by
  obtain ⟨v', w', nx, c', h1, h2⟩ := hd
  exact ⟨v', w', nx, c', h.trans h1, h2⟩
/-- A call is come to. -/
def CallR (P : Program) (c : Cx) (w : World) (s : Sem Next) (f : FuncId) (args : List AV) : Prop := ∃ as : Array Value, VRs c args as.toList ∧ s.run P w = (callFunc f as).run P w
/-- What comes of an operation. -/
def OutR (P : Program) (c : Cx) (σ : St) (w : World) (s : Sem Next) (r : R) : Prop := match r with
  | .val v σ' => DoneR P c σ σ' w s v
  | .call f args => CallR P c w s f args
theorem clear_len {tys : List TypeId} {l : List AV} {r : R} (hr : builtinR g σ .clear tys l = some r) : ∃ x, l = [x] := by
  unfold builtinR at hr
  split at hr
  all_goals first
    | exact ⟨_, rfl⟩
    | contradiction
theorem delete_len {tys : List TypeId} {l : List AV} {r : R} (hr : builtinR g σ .delete tys l = some r) : ∃ x y, l = [x, y] := by
  unfold builtinR at hr
  split at hr
  all_goals first
    | exact ⟨_, _, rfl⟩
    | contradiction
theorem unsafeString_len {tys : List TypeId} {l : List AV} {r : R} (hr : builtinR g σ .unsafeString tys l = some r) : ∃ x y, l = [x, y] := by
  unfold builtinR at hr
  split at hr
  all_goals first
    | exact ⟨_, _, rfl⟩
    | contradiction
theorem builtin_ok (hT : TysR P g) (h : Sim c σ w) {b : Builtin} {k : Call} {type : TypeId} {l : List AV} {as : Array Value} (hA : VRs c l as.toList) {cs : Array Bool} {r : R} (hr : builtinR g σ b k.argTypes.toList l = some r) :
    OutR P c σ w (builtin b k.argTypes type cs as) r := by
  have two : ∀ a x, l = [a, x] → ∃ v0 v1, as = #[v0, v1] ∧ VR c a v0 ∧ VR c x v1 := by
    rintro a x rfl
    obtain ⟨v0, v1, hq, h1, h2⟩ := hA.inv2
    exact ⟨v0, v1, arr_of hq, h1, h2⟩
  have one : ∀ a, l = [a] → ∃ v0, as = #[v0] ∧ VR c a v0 := by
    rintro a rfl
    obtain ⟨v0, hq, h1⟩ := hA.inv1
    exact ⟨v0, arr_of hq, h1⟩
  cases b <;> try (simp only [builtinR, reduceCtorEq] at hr; done)
  case append =>
    match l, hr with
    | [.sl a n es, x], hr =>
      obtain ⟨v0, v1, rfl, h1, h2⟩ := two _ _ rfl
      obtain ⟨v, σ', v', w', c', rfl, g1, g2, g3⟩ := append_ok (P := P) (ty := type) hT h h1 h2 hr
      exact ⟨v', w', _, c', run_v g1, .inl rfl, g2, g3⟩
  case copy =>
    match l, hr with
    | [.sl a n es, x], hr =>
      obtain ⟨v0, v1, rfl, h1, h2⟩ := two _ _ rfl
      obtain ⟨v, σ', rfl, g1⟩ := copy_ok (P := P) (ty := type) hT h h1 h2 hr
      exact g1
  case clear =>
    obtain ⟨x, rfl⟩ := clear_len hr
    · obtain ⟨v0, rfl, h1⟩ := one _ rfl
      obtain ⟨v, σ', rfl, g1⟩ := clear_ok (P := P) (ty := type) hT h h1 hr
      exact g1
  case delete =>
    obtain ⟨x, k, rfl⟩ := delete_len hr
    · obtain ⟨v0, v1, rfl, h1, h2⟩ := two _ _ rfl
      obtain ⟨v, σ', rfl, g1⟩ := delete_ok (P := P) (ty := type) hT h h1 h2 hr
      exact g1
  case unsafeString =>
    obtain ⟨x, k, rfl⟩ := unsafeString_len hr
    · obtain ⟨v0, v1, rfl, h1, h2⟩ := two _ _ rfl
      obtain ⟨v, σ', rfl, g1⟩ := unsafeString_ok (P := P) (ty := type) hT h h1 h2 hr
      exact g1
theorem write_ok (hT : TysR P g) (h : Sim c σ w) {o : Oper} {r : R} (hE : ERel c E ρ o.op.operands.toList) (hr : writeR g E σ o.op = some r) : OutR P c σ w (execOp ρ o) r := by
  obtain ⟨dst, op, type, pos, after, guard⟩ := o
  have upd : ∀ ty m k x, ERel c E ρ [m, k, x] → (bnd (E m) fun m => bnd (E k) fun k => bnd (E x) fun x => bnd (keyTy g ty) fun q => bnd q.key fun ks => bif keyOk q ks k then match m with
    | .mp (some r) => bnd (getMap σ r) fun l => bnd (putK q k x l) fun l => V un (setMap σ r l)
    | _ => none else none) = some r → OutR P c σ w (do Instr.mapUpdate ty (ρ m) (ρ k) (ρ x); pure Next.skip) r := by
    intro ty m k x hE hr
    simp only [bnd_eq, bif_eq] at hr
    obtain ⟨am, ham, ak, hak, ax, hax, q, hq, ks, hks, hf, hr⟩ := hr
    have vm := hE m (by simp) am ham
    have vk := hE k (by simp) ak hak
    have vx := hE x (by simp) ax hax
    generalize ρ m = xm at vm ⊢
    cases vm <;> simp only [reduceCtorEq, bnd_eq] at hr
    case mp rr hD =>
      obtain ⟨l, hl, l', hp, hr⟩ := hr
      simp only [V, Option.some.injEq] at hr
      subst hr
      obtain ⟨w', g1, g2⟩ := update_ok (P := P) hT h hD vk vx hq hks hf hl hp
      exact DoneR.u g1 g2
  cases op <;> try (simp only [writeR, reduceCtorEq] at hr; done)
  case insert ty m k x => exact upd ty m k x (by simpa [Op.operands] using hE) hr
  case mapUpdate ty m k x => exact upd ty m k x (by simpa [Op.operands] using hE) hr
  case store ty a x =>
    simp only [writeR, bnd_eq] at hr
    obtain ⟨u, hu, aa, haa, ax, hax, hr⟩ := hr
    have va := hE a (by simp [Op.operands]) aa haa
    have vx := hE x (by simp [Op.operands]) ax hax
    unfold execOp
    dsimp only
    generalize ρ a = xa at va ⊢
    cases va <;> simp only [reduceCtorEq, bif_eq, Bool.and_eq_true, beq_eq, bnd_eq] at hr
    case ptr nm i hD =>
      obtain ⟨⟨h1, h2⟩, σ', hs, hr⟩ := hr
      simp only [V, Option.some.injEq] at hr
      subst hr
      obtain ⟨w', g1, g2⟩ := store_ok (P := P) hT h hu hD vx h1 h2 hs
      exact DoneR.u g1 g2
  case call k =>
    simp only [writeR, bnd_eq] at hr
    obtain ⟨l, hl, hr⟩ := hr
    have hA := args_ok (by simpa [Op.operands] using hE) hl
    cases hc : k.callee <;> rw [hc] at hr <;> try (simp only [reduceCtorEq] at hr; done)
    case builtin b =>
      have := builtin_ok (P := P) (type := type) (cs := k.args.map fun | .const _ => true | _ => false) hT h hA hr
      cases r with
      | val v σ' => exact DoneR.congr (run_builtin hc) this
      | call f args =>
        obtain ⟨as, g1, g2⟩ := this
        exact ⟨as, g1, (run_builtin hc).trans g2⟩
    case value f =>
      simp only [bnd_eq] at hr
      obtain ⟨af, haf, hr⟩ := hr
      have vf := hE f (by simp only [Op.operands, Call.operands, hc]; simp) af haf
      have hrun : (execOp ρ ⟨dst, .call k, type, pos, after, guard⟩).run P w = (do let d ← Deferred.ofValue (ρ f) (k.args.map ρ); invoke d.target d.args : Sem Next).run P w := by
        unfold execOp
        dsimp only
        simp only [resolve, hc]
      generalize ρ f = xf at vf hrun
      cases vf <;> try (simp only [reduceCtorEq] at hr; done)
      case fn fn p q p' q' hp hq =>
        cases fn <;> simp only [reduceCtorEq, Option.some.injEq] at hr
        subst hr
        refine ⟨p'.toArray ++ k.args.map ρ ++ q'.toArray, by simpa using (hp.append hA).append hq, ?_⟩
        rw [hrun]
        simp [Deferred.ofValue, invoke]
theorem exec_ok (hT : TysR P g) (h : Sim c σ w) {t : T AV} {o : Oper} {r : R} (hE : ERel c (evalO t) ρ o.op.operands.toList) (hr : execR g t σ o.op = some r) : OutR P c σ w (execOp ρ o) r := by
  unfold execR at hr
  split at hr
  · rw [bnd_eq] at hr
    obtain ⟨v, hv, hr⟩ := hr
    simp only [V, Option.some.injEq] at hr
    subst hr
    obtain ⟨v', g1, g2⟩ := pure_ok (P := P) (w := w) hT hE hv
    exact ⟨v', w, _, c, g1, .inl rfl, Post.refl h, g2⟩
  · rw [bnd_eq] at hr
    obtain ⟨v, hv, hr⟩ := hr
    simp only [V, Option.some.injEq] at hr
    subst hr
    obtain ⟨v', g1, g2⟩ := read_ok (P := P) hT h hE hv
    exact ⟨v', w, _, c, g1, .inl rfl, Post.refl h, g2⟩
  · simp only [bnd_eq] at hr
    obtain ⟨p, hp, q, hq, hr⟩ := hr
    simp only [V, Option.some.injEq] at hr
    subst hr
    obtain ⟨f, k⟩ := p
    obtain ⟨nm, σ'⟩ := q
    obtain ⟨v', w', ob, sz, g1, g2, g3, g4⟩ := fresh_ok (P := P) (c := c) (w := w) hT hE hp
    exact ⟨v', w', _, _, g1, .inl rfl, h.fresh hq g3 g2, g4.val (Cx.more_D _ _ _ _ _) (Cx.more_ρ _ _ _ _ _) (Cx.more_L _ _ _ _ _)⟩
  · split at hr
    · rename_i x e
      rw [bnd_eq] at hr
      obtain ⟨v, hv, hr⟩ := hr
      simp only [V, Option.some.injEq] at hr
      subst hr
      obtain ⟨v', g1, g2⟩ := pure_ok (P := P) (w := w) (g := g) (E := evalO t) (ρ := ρ) (o := o) (v := v) hT hE (by rw [e]; exact hv)
      exact ⟨v', w, _, c, g1, .inl rfl, Post.refl h, g2⟩
    · exact write_ok hT h hE hr
end
end Go.Proofs.YtijiggolphppbaaGreatDoor.Ev
namespace Go.Proofs.YtijiggolphppbaaGreatDoor.Ev
open Go
section
variable {P : Program} {g : Prg} {c c' : Cx} {w w1 : World} {σ σ1 σ2 : St}
/-- A frame's slots. -/
structure FrR (c : Cx) (N : Nat) (t : T AV) (a : Act) : Prop where
  slots : ∀ d, VR c ((t.get d).getD un) (a.tmps.getD d undef)
  size : N ≤ a.tmps.size
  defers : a.defers = []
/-- A slot that is looked at. -/
def SlotR (c : Cx) (t : T AV) (a : Act) (d : Tmp) : Prop := VR c ((t.get d).getD un) (a.tmps.getD d undef)
theorem erel_of {t : T AV} {a : Act} {xs : List Operand} (h : ∀ d, Operand.tmp d ∈ xs → SlotR c t a d) : ERel c (evalO t) a.eval xs := by
  intro x hx v hv
  cases x with
  | tmp i =>
    simp only [evalO, Option.some.injEq] at hv
    subst hv
    exact h i hx
  | const k => exact ofV_ok hv
  | global _ => simp [evalO] at hv
  | func f =>
    simp only [evalO, Option.some.injEq] at hv
    subst hv
    exact .fn (.func f) .nil .nil
theorem FrR.erel {N : Nat} {t : T AV} {a : Act} (h : FrR c N t a) (xs : List Operand) : ERel c (evalO t) a.eval xs := erel_of fun d _ => h.slots d
theorem wanted_ok {ops : Array Oper} {t : T AV} {a : Act} {o : Oper} {b : Bool} (h : ∀ j want p d, o.guard = some (j, want) → ops[j]? = some p → p.dst = some d → SlotR c t a d) (hw : wantedA ops.toList t o = some b) :
    Region.wanted o (yielded ops a.tmps) = b := by
  unfold wantedA at hw
  unfold Region.wanted
  cases hg : o.guard with
  | none =>
    rw [hg] at hw
    simp only [Option.some.injEq] at hw
    rw [← hw]
  | some jw =>
    obtain ⟨j, want⟩ := jw
    rw [hg] at hw
    simp only [bnd_eq, Array.getElem?_toList] at hw
    obtain ⟨p, hp, d, hd, hw⟩ := hw
    have hs := h j want p d hg hp hd
    unfold SlotR at hs
    simp only [yielded, hp, Option.bind_some, hd]
    rw [Array.getD_eq_getD_getElem?] at hs
    split at hw <;> simp only [reduceCtorEq, Option.some.injEq] at hw
    · rename_i b' e
      rw [e] at hs
      cases ht : a.tmps[d]? with
      | none => rw [ht] at hs; cases hs
      | some x =>
        rw [ht] at hs
        simp only [Option.getD_some] at hs
        cases hs
        rw [← hw]
        simp only
        cases b' <;> cases want <;> rfl
    · rename_i l e
      rw [e] at hs
      rw [← hw]
      cases ht : a.tmps[d]? with
      | none => simp
      | some x =>
        rw [ht] at hs
        simp only [Option.getD_some] at hs
        cases hs
        simp
theorem FrR.put {N : Nat} {t : T AV} {a : Act} (h : FrR c N t a) (hle : c.le c') {v : AV} {v' : Value} (hv : VR c' v v') {dst : Option Tmp} (hN : N < MX) (hd : ∀ d, dst = some d → d < N) : FrR c' N (Go.Proofs.YtijiggolphppbaaGreatDoor.Ev.put t dst v) (a.put dst v') := by
  have hmx := MX_FU
  cases dst with
  | none => exact ⟨fun d => (h.slots d).mono hle, h.size, h.defers⟩
  | some d =>
    have hlt : @LT.lt Nat _ d N := hd d rfl
    have hsz := h.size
    have hda : @LT.lt Nat _ d a.tmps.size := Nat.lt_of_lt_of_le hlt hsz
    have hdF : @LT.lt Nat _ (d + 1) (2 ^ FU) := by omega
    refine ⟨fun e => ?_, by simp [Act.put]; exact h.size, h.defers⟩
    simp only [Go.Proofs.YtijiggolphppbaaGreatDoor.Ev.put, Act.put]
    rw [T.get_set FU t d (some v) e hdF]
    by_cases e1 : e = d
    · subst e1
      rw [if_pos rfl]
      have : (a.tmps.setIfInBounds e v').getD e undef = v' := by
        simp [Array.getD_eq_getD_getElem?, hda]
      rw [this]
      exact hv
    · rw [if_neg e1]
      have : (a.tmps.setIfInBounds d v').getD e undef = a.tmps.getD e undef := by
        simp [Array.getD_eq_getD_getElem?, Array.getElem?_setIfInBounds_ne (Ne.symm e1)]
      rw [this]
      exact (h.slots e).mono hle
/-- What a call comes to. -/
def CallOut (P : Program) (J : World → Prop) (f : FuncId) (args : List AV) (σ : St) (v : AV) (σ' : St) : Prop :=
  ∀ (c : Cx) (w : World) (as : Array Value), J c.W → VRs c args as.toList → Sim c σ w →
    (∃ v' w' c', (callFunc f as).run P w = .ok (.value v') w' ∧ Post c c' σ σ' w w' ∧ VR c' v v') ∨
    ((callFunc f as).run P w = .ok (.enter f as) w ∧ Calls P f as w fun e w' => ∃ v' c', e = .returned v' ∧ Post c c' σ σ' w w' ∧ VR c' v v')
theorem one_core (hT : TysR P g) {J : World → Prop} (hJ : J c.W) {n : Nat} (hcall : ∀ f args σ v σ', call g n f args σ = some (v, σ') → CallOut P J f args σ v σ') {ops : Array Oper} {o : Oper} {i : Nat} (hi : ops[i]? = some o) {t t' : T AV} {a : Act}
    (h : one g (n + 1) ops.toList o ⟨t, σ⟩ = some ⟨t', σ1⟩) (hE : ERel c (evalO t) a.eval o.op.operands.toList) (hG : ∀ b, wantedA ops.toList t o = some b → Region.wanted o (yielded ops a.tmps) = b) (hs : Sim c σ w) :
    ∃ v, t' = Go.Proofs.YtijiggolphppbaaGreatDoor.Ev.put t o.dst v ∧ ∀ (Q : Exit → Act → World → Prop) (K : Act → World → Prop), (∀ c' v' w', Post c c' σ σ1 w w' → VR c' v v' → K (a.put o.dst v') w') → wpOp P ops Q i K a w := by
  unfold one at h
  simp only [bnd_eq] at h
  obtain ⟨b, hb, h⟩ := h
  have hw := hG b hb
  cases b with
  | false =>
    simp only [cond_false, Option.some.injEq, Fr.mk.injEq] at h
    obtain ⟨rfl, rfl⟩ := h
    refine ⟨un, rfl, fun Q K hK => ?_⟩
    unfold wpOp
    simp only [hi, hw, Bool.false_eq_true, if_false]
    exact hK c undef w (Post.refl hs) (VR.un c)
  | true =>
    simp only [cond_true, bnd_eq] at h
    obtain ⟨r, hr, h⟩ := h
    have hout := exec_ok (P := P) hT hs hE hr
    cases r with
    | val v σ' =>
      simp only [Option.some.injEq, Fr.mk.injEq] at h
      obtain ⟨rfl, rfl⟩ := h
      refine ⟨v, rfl, fun Q K hK => ?_⟩
      obtain ⟨v', w', nx, c', g1, g2, g3, g4⟩ := hout
      unfold wpOp
      simp only [hi, hw, if_true]
      left
      unfold Oper.wp
      rw [g1]
      rcases g2 with rfl | ⟨rfl, rfl⟩
      · exact hK c' v' w' g3 g4
      · exact hK c' undef w' g3 g4
    | call f args =>
      simp only [bnd_eq, Option.some.injEq, Fr.mk.injEq] at h
      obtain ⟨p, hp, rfl, rfl⟩ := h
      refine ⟨p.1, rfl, fun Q K hK => ?_⟩
      obtain ⟨as, g1, g2⟩ := hout
      unfold wpOp
      simp only [hi, hw, if_true]
      left
      unfold Oper.wp
      rw [g2]
      rcases hcall f args σ p.1 p.2 hp c w as hJ g1 hs with ⟨v', w', c', q1, q2, q3⟩ | ⟨q1, q2⟩
      · rw [q1]
        exact hK c' v' w' q2 q3
      · rw [q1]
        refine Calls.mono q2 ?_
        rintro e w' ⟨v', c', rfl, q3, q4⟩
        exact hK c' v' w' q3 q4
end
end Go.Proofs.YtijiggolphppbaaGreatDoor.Ev
namespace Go.Proofs.YtijiggolphppbaaGreatDoor.Ev
open Go
theorem bit_eq (s i : Nat) : bit s i = s.testBit i := by
  unfold bit Nat.testBit
  show Nat.beq ((s >>> i) &&& 1) 1 = (1 &&& (s >>> i) != 0)
  rw [Nat.and_comm 1]
  have h : (s >>> i) &&& 1 = (s >>> i) % 2 := Nat.and_one_is_mod _
  rw [h]
  rcases Nat.mod_two_eq_zero_or_one (s >>> i) with e | e <;> rw [e] <;> rfl
theorem bit_add {s i j : Nat} : bit (add s i) j = true ↔ j = i ∨ bit s j = true := by
  rw [bit_eq, bit_eq]
  unfold add
  show (s ||| (1 <<< i)).testBit j = true ↔ _
  rw [Nat.testBit_or, Nat.shiftLeft_eq, Nat.one_mul, Nat.testBit_two_pow, Bool.or_eq_true, decide_eq_true_eq]
  constructor
  · rintro (h | h)
    · exact .inr h
    · exact .inl h.symm
  · rintro (h | h)
    · exact .inr h.symm
    · exact .inl h
theorem bit_or {s u j : Nat} : bit (Nat.lor s u) j = true ↔ bit s j = true ∨ bit u j = true := by
  rw [bit_eq, bit_eq, bit_eq]
  show (s ||| u).testBit j = true ↔ _
  rw [Nat.testBit_or, Bool.or_eq_true]
theorem bit_one {i j : Nat} : bit (Nat.shiftLeft 1 i) j = true ↔ j = i := by
  rw [bit_eq]
  show (1 <<< i).testBit j = true ↔ _
  rw [Nat.shiftLeft_eq, Nat.one_mul, Nat.testBit_two_pow, decide_eq_true_eq]
  exact eq_comm
theorem bit_zero (j : Nat) : ¬ bit 0 j = true := by
  rw [bit_eq, Nat.zero_testBit]
  simp
/-- i stands ahead of j. -/
inductive Anc (ops : Array Oper) : Nat → Nat → Prop
  | edge {i j : Nat} {o : Oper} {e : Edge} (h : ops[j]? = some o) (he : e ∈ o.after) (hb : Region.binds .any e = true) (hi : e.on = i) : Anc ops i j
  | step {i j : Nat} {o : Oper} {e : Edge} (h : ops[j]? = some o) (he : e ∈ o.after) (hb : Region.binds .any e = true) (ha : Anc ops i e.on) : Anc ops i j
def Closed (ops : Array Oper) (S : Nat → Prop) : Prop := ∀ j o, ops[j]? = some o → S j → ∀ e ∈ o.after, Region.binds .any e = true → S e.on
theorem Anc.mem {ops : Array Oper} {S : Nat → Prop} (hS : Closed ops S) {i j : Nat} (h : Anc ops i j) : S j → S i := by
  induction h with
  | edge h he hb hi => intro hj; rw [← hi]; exact hS _ _ h hj _ he hb
  | step h he hb ha ih => intro hj; exact ih (hS _ _ h hj _ he hb)
theorem Anc.ready {ops : Array Oper} {S : Nat → Prop} (hS : Closed ops S) {i j : Nat} {o : Oper} (ho : ops[j]? = some o) (hr : ∀ e ∈ o.after, Region.binds .any e = true → S e.on) (h : Anc ops i j) : S i := by
  cases h with
  | edge h he hb hi =>
    rw [ho] at h
    simp only [Option.some.injEq] at h
    subst h
    rw [← hi]
    exact hr _ he hb
  | step h he hb ha =>
    rw [ho] at h
    simp only [Option.some.injEq] at h
    subst h
    exact ha.mem hS (hr _ he hb)
theorem aheadOf_ok {acc : List Nat} {i : Nat} : ∀ {es : List Edge}, bit (aheadOf acc es) i = true → ∃ e ∈ es, Region.binds .any e = true ∧ (e.on = i ∨ bit (acc.getD e.on 0) i = true)
  | [], h => absurd h (bit_zero i)
  | e :: es, h => by
    unfold aheadOf at h
    cases hb : Region.binds .any e with
    | false =>
      rw [hb] at h
      obtain ⟨x, h1, h2⟩ := aheadOf_ok (es := es) h
      exact ⟨x, List.mem_cons_of_mem _ h1, h2⟩
    | true =>
      rw [hb] at h
      simp only [cond_true] at h
      rw [bit_or, bit_or, bit_one] at h
      rcases h with (h | h) | h
      · exact ⟨e, by simp, hb, .inl h.symm⟩
      · exact ⟨e, by simp, hb, .inr h⟩
      · obtain ⟨x, h1, h2⟩ := aheadOf_ok (es := es) h
        exact ⟨x, List.mem_cons_of_mem _ h1, h2⟩
theorem aheadL_ok {ops : Array Oper} : ∀ (l : List Oper) (acc : List Nat), (∀ k, l[k]? = ops[acc.length + k]?) → (∀ j i, bit (acc.getD j 0) i = true → Anc ops i j) → ∀ j i, bit ((aheadL acc l).getD j 0) i = true → Anc ops i j
  | [], acc, _, h => h
  | o :: l, acc, hl, h => by
    refine aheadL_ok l (acc ++ [aheadOf acc o.after.toList]) (fun k => ?_) (fun j i hb => ?_)
    · have := hl (k + 1)
      simp only [List.getElem?_cons_succ] at this
      rw [this, List.length_append]
      congr 1
      simp only [List.length_cons, List.length_nil]
      omega
    · rw [List.getD_eq_getElem?_getD] at hb
      by_cases e1 : j < acc.length
      · rw [List.getElem?_append_left e1, ← List.getD_eq_getElem?_getD] at hb
        exact h j i hb
      · rw [List.getElem?_append_right (by omega)] at hb
        by_cases e2 : j = acc.length
        · subst e2
          simp only [Nat.sub_self, List.getElem?_cons_zero, Option.getD_some] at hb
          obtain ⟨e, h1, h2, h3⟩ := aheadOf_ok hb
          have ho : ops[acc.length]? = some o := by
            have := hl 0
            simpa using this.symm
          rcases h3 with h3 | h3
          · exact .edge ho (Array.mem_toList_iff.1 h1) h2 h3
          · exact .step ho (Array.mem_toList_iff.1 h1) h2 (h _ _ h3)
        · rw [List.getElem?_eq_none (by simp; omega)] at hb
          exact absurd hb (bit_zero i)
theorem pre_ok {ops : Array Oper} {j i : Nat} (h : bit ((aheadL [] ops.toList).getD j 0) i = true) : Anc ops i j :=
  aheadL_ok ops.toList [] (fun k => by simp) (fun j i h => absurd (by simpa using h) (bit_zero i)) j i h
theorem readyA_ok {done : Nat} : ∀ {es : List Edge}, readyA done es = true ↔ ∀ e ∈ es, Region.binds .any e = true → bit done e.on = true
  | [] => by simp [readyA]
  | e :: es => by
    simp only [readyA, Bool.and_eq_true, Bool.or_eq_true, Bool.not_eq_true', readyA_ok (es := es), List.mem_cons, forall_eq_or_imp]
    constructor
    · rintro ⟨h1, h2⟩
      exact ⟨fun hb => h1.resolve_left (by simp [hb]), h2⟩
    · rintro ⟨h1, h2⟩
      refine ⟨?_, h2⟩
      cases hb : Region.binds .any e
      · exact .inl rfl
      · exact .inr (h1 hb)
/-- What an operation looks at. -/
def Looks (ops : Array Oper) (p : Oper) (d : Tmp) : Prop := Operand.tmp d ∈ p.op.operands.toList ∨ ∃ j want q, p.guard = some (j, want) ∧ ops[j]? = some q ∧ q.dst = some d
structure DrawOk (g : Prg) (N : Nat) (ops : Array Oper) : Prop where
  back : ∀ (i : Nat) (o : Oper), ops[i]? = some o → ∀ e ∈ o.after, Region.binds .any e = true → e.on < i
  dst : ∀ (i : Nat) (o : Oper) (d : Tmp), ops[i]? = some o → o.dst = some d → d < N
  pair : ∀ (i : Nat) (o : Oper) (d : Tmp), ops[i]? = some o → o.dst = some d → ∀ (j : Nat) (p : Oper), ops[j]? = some p → (p.dst = some d ∨ Looks ops p d) → (i = j → cls g o.op = 3 ∨ ¬ Looks ops p d) ∧ (i < j → Anc ops i j) ∧ (j < i → cls g o.op = 3 ∧ Anc ops j i)
theorem inL_ok {d : Tmp} : ∀ {l : List Tmp}, inL d l = true ↔ d ∈ l
  | [] => by simp [inL]
  | e :: l => by
    simp only [inL, Bool.or_eq_true, inL_ok (l := l), List.mem_cons]
    constructor
    · rintro (h | h)
      · exact .inl (beq_eq.1 h)
      · exact .inr h
    · rintro (h | h)
      · exact .inl (beq_eq.2 h)
      · exact .inr h
theorem looks_ok {ops : Array Oper} {p : Oper} {d : Tmp} : d ∈ looks ops.toList p ↔ Looks ops p d := by
  unfold looks Looks
  rw [List.mem_append, List.mem_filterMap]
  constructor
  · rintro (⟨x, hx, h⟩ | h)
    · cases x <;> simp only [reduceCtorEq, Option.some.injEq] at h
      subst h
      exact .inl hx
    · right
      cases hg : p.guard with
      | none => rw [hg] at h; simp at h
      | some jw =>
        obtain ⟨j, want⟩ := jw
        rw [hg] at h
        simp only [Option.mem_toList] at h
        cases hq : ops[j]? with
        | none => simp [hq] at h
        | some q =>
          simp [hq] at h
          exact ⟨j, want, q, rfl, hq, h⟩
  · rintro (h | ⟨j, want, q, hg, hq, hd⟩)
    · exact .inl ⟨_, h, rfl⟩
    · right
      rw [hg]
      simp [hq, hd]
theorem isTmp_ok {d : Tmp} {x : Option Tmp} : isTmp d x = true ↔ x = some d := by
  cases x with
  | none => simp [isTmp]
  | some e =>
    simp only [isTmp, Option.some.injEq]
    exact ⟨fun h => (beq_eq.1 h).symm, fun h => beq_eq.2 h.symm⟩
theorem pairsOk_ok {g : Prg} {ops : Array Oper} {i : Nat} {o : Oper} {d : Tmp} : ∀ (l : List Oper) (j0 : Nat), (∀ k, l[k]? = ops[j0 + k]?) → pairsOk g ops.toList (aheadL [] ops.toList) i o d j0 l = true →
    ∀ j p, j0 ≤ j → ops[j]? = some p → (p.dst = some d ∨ Looks ops p d) → (i = j → cls g o.op = 3 ∨ ¬ Looks ops p d) ∧ (i < j → Anc ops i j) ∧ (j < i → cls g o.op = 3 ∧ Anc ops j i)
  | [], j0, hl, _, j, p, hj, hp, _ => by
    have := hl (j - j0)
    rw [show j0 + (j - j0) = j by omega, hp] at this
    simp at this
  | q :: l, j0, hl, h, j, p, hj, hp, hm => by
    simp only [pairsOk, Bool.and_eq_true] at h
    obtain ⟨h1, h2⟩ := h
    by_cases e : j = j0
    · subst e
      have hq : q = p := by
        have := hl 0
        simp only [List.getElem?_cons_zero, Nat.add_zero, hp, Option.some.injEq] at this
        exact this
      subst hq
      have hc : (isTmp d q.dst || inL d (looks ops.toList q)) = true := by
        rw [Bool.or_eq_true, isTmp_ok, inL_ok, looks_ok]
        exact hm
      rw [hc] at h1
      simp only [cond_true] at h1
      by_cases e1 : i = j
      · subst e1
        rw [show Nat.beq i i = true from beq_eq.2 rfl] at h1
        simp only [cond_true, Bool.or_eq_true, beq_eq, Bool.not_eq_true'] at h1
        refine ⟨fun _ => h1.imp id (fun h3 h4 => ?_), fun h => by omega, fun h => by omega⟩
        rw [← looks_ok, ← inL_ok, h3] at h4
        cases h4
      · rw [show Nat.beq i j = false by cases hb : Nat.beq i j with | false => rfl | true => exact absurd (beq_eq.1 hb) e1] at h1
        simp only [cond_false] at h1
        by_cases e2 : i < j
        · rw [show Nat.blt i j = true from blt_eq.2 e2] at h1
          simp only [cond_true] at h1
          exact ⟨fun h => absurd h e1, fun _ => pre_ok h1, fun h => by omega⟩
        · rw [show Nat.blt i j = false by cases hb : Nat.blt i j with | false => rfl | true => exact absurd (blt_eq.1 hb) e2] at h1
          simp only [cond_false, Bool.and_eq_true, beq_eq] at h1
          exact ⟨fun h => absurd h e1, fun h => absurd h e2, fun _ => ⟨h1.1, pre_ok h1.2⟩⟩
    · refine pairsOk_ok l (j0 + 1) (fun k => ?_) h2 j p (by omega) hp hm
      have := hl (k + 1)
      simp only [List.getElem?_cons_succ] at this
      rw [this]
      congr 1
      omega
theorem backOk_ok {i : Nat} : ∀ {es : List Edge}, backOk i es = true → ∀ e ∈ es, Region.binds .any e = true → e.on < i
  | [], _ => by simp
  | e :: es, h => by
    simp only [backOk, Bool.and_eq_true, Bool.or_eq_true, Bool.not_eq_true', blt_eq] at h
    intro x hx hb
    rcases List.mem_cons.1 hx with rfl | hx
    · exact h.1.resolve_left (by simp [hb])
    · exact backOk_ok h.2 x hx hb
theorem dstOk_ok {n : Nat} : ∀ {l : List Oper}, dstOk n l = true → ∀ (k : Nat) (o : Oper) (d : Tmp), l[k]? = some o → o.dst = some d → d < n
  | [], _ => by simp
  | o :: l, h => by
    simp only [dstOk, Bool.and_eq_true] at h
    intro k p d hk hd
    cases k with
    | zero =>
      simp only [List.getElem?_cons_zero, Option.some.injEq] at hk
      subst hk
      have h1 := h.1
      rw [hd] at h1
      exact blt_eq.1 h1
    | succ k => exact dstOk_ok h.2 k p d (by simpa using hk) hd
theorem drawOk_ok {g : Prg} {ops : Array Oper} : ∀ (l : List Oper) (i0 : Nat), (∀ k, l[k]? = ops[i0 + k]?) → drawOk g ops.toList (aheadL [] ops.toList) i0 l = true → ∀ i o, i0 ≤ i → ops[i]? = some o →
    (∀ e ∈ o.after, Region.binds .any e = true → e.on < i) ∧ ∀ d, o.dst = some d → pairsOk g ops.toList (aheadL [] ops.toList) i o d 0 ops.toList = true
  | [], i0, hl, _, i, o, hi, ho => by
    have := hl (i - i0)
    rw [show i0 + (i - i0) = i by omega, ho] at this
    simp at this
  | q :: l, i0, hl, h, i, o, hi, ho => by
    simp only [drawOk, Bool.and_eq_true] at h
    obtain ⟨⟨h1, h2⟩, h3⟩ := h
    by_cases e : i = i0
    · subst e
      have hq : q = o := by
        have := hl 0
        simp only [List.getElem?_cons_zero, Nat.add_zero, ho, Option.some.injEq] at this
        exact this
      subst hq
      refine ⟨fun e he hb => backOk_ok h1 e (Array.mem_toList_iff.2 he) hb, fun d hd => ?_⟩
      rw [hd] at h2
      exact h2
    · refine drawOk_ok l (i0 + 1) (fun k => ?_) h3 i o (by omega) ho
      have := hl (k + 1)
      simp only [List.getElem?_cons_succ] at this
      rw [this]
      congr 1
      omega
theorem draw_ok {g : Prg} {N : Nat} {ops : Array Oper} (h1 : dstOk N ops.toList = true) (h2 : drawOk g ops.toList (aheadL [] ops.toList) 0 ops.toList = true) : DrawOk g N ops where
  back i o ho := (drawOk_ok ops.toList 0 (fun k => by simp) h2 i o (Nat.zero_le _) ho).1
  dst i o d ho hd := dstOk_ok h1 i o d (by simpa using ho) hd
  pair i o d ho hd j p hp hm := pairsOk_ok ops.toList 0 (fun k => by simp) ((drawOk_ok ops.toList 0 (fun k => by simp) h2 i o (Nat.zero_le _) ho).2 d hd) j p (Nat.zero_le _) hp hm
end Go.Proofs.YtijiggolphppbaaGreatDoor.Ev
namespace Go.Proofs.YtijiggolphppbaaGreatDoor.Ev
open Go
section
variable {P : Program} {g : Prg} {E E' : Operand → Option AV}
theorem evalOs_congr : ∀ {l : List Operand}, (∀ x ∈ l, E x = E' x) → evalOs E l = evalOs E' l
  | [], _ => rfl
  | x :: l, h => by simp only [evalOs, h x (by simp), evalOs_congr (l := l) (fun y hy => h y (by simp [hy]))]
theorem evalPs_congr : ∀ {l : List (Nat × Operand)}, (∀ x ∈ l.map (·.2), E x = E' x) → evalPs E l = evalPs E' l
  | [], _ => rfl
  | (i, x) :: l, h => by simp only [evalPs, h x (by simp), evalPs_congr (l := l) (fun y hy => h y (by simp at hy ⊢; exact .inr hy))]
theorem opt_congr {x : Option Operand} (h : ∀ y ∈ x.toList, E y = E' y) : opt E x = opt E' x := by
  cases x with
  | none => rfl
  | some o => simp only [opt, h o (by simp)]
theorem pure_congr {op : Op} (h : ∀ x ∈ op.operands.toList, E x = E' x) : pureR g E op = pureR g E' op := by
  cases op <;> try rfl
  case move x => exact h x (by simp [Op.operands])
  case assign x => exact h x (by simp [Op.operands])
  case pick k x y => simp only [pureR, h k (by simp [Op.operands]), h x (by simp [Op.operands]), h y (by simp [Op.operands])]
  case build ty ps => simp only [pureR, evalPs_congr (l := ps.toList) (fun x hx => h x (by simpa [Op.operands] using hx))]
  case nilCheck x => simp only [pureR, h x (by simp [Op.operands])]
  case binOp op xt x y yt => simp only [pureR, h x (by simp [Op.operands]), h y (by simp [Op.operands])]
  case unOp op xt x => simp only [pureR, h x (by simp [Op.operands])]
  case convert s d x => simp only [pureR, h x (by simp [Op.operands])]
  case sliceToArrayPointer t x => simp only [pureR, h x (by simp [Op.operands])]
  case makeFunc f p q => simp only [pureR, evalOs_congr (l := p.toList) (fun x hx => h x (by simp [Op.operands] at hx ⊢; exact .inl hx)), evalOs_congr (l := q.toList) (fun x hx => h x (by simp [Op.operands] at hx ⊢; exact .inr hx))]
  case slice ty x lo hi mx =>
    cases mx with
    | some _ => rfl
    | none => simp only [pureR, h x (by simp [Op.operands]), opt_congr (x := lo) (fun y hy => h y (by cases lo <;> simp [Op.operands] at hy ⊢; exact .inr (.inl hy))), opt_congr (x := hi) (fun y hy => h y (by cases hi <;> simp [Op.operands] at hy ⊢; exact .inr (.inr hy)))]
  case fieldAddr ty x f => simp only [pureR, h x (by simp [Op.operands])]
  case field ty x f => simp only [pureR, h x (by simp [Op.operands])]
  case indexAddr ty x i => simp only [pureR, h x (by simp [Op.operands]), h i (by simp [Op.operands])]
  case index ty x i => simp only [pureR, h x (by simp [Op.operands]), h i (by simp [Op.operands])]
  case extract x i => simp only [pureR, h x (by simp [Op.operands])]
  case call k =>
    have ha : evalOs E k.args.toList = evalOs E' k.args.toList := evalOs_congr (fun x hx => h x (by simp only [Op.operands, Call.operands]; simp at hx ⊢; exact .inr hx))
    simp only [pureR, ha]
theorem fresh_congr {op : Op} (h : ∀ x ∈ op.operands.toList, E x = E' x) : freshR g E op = freshR g E' op := by
  cases op <;> try rfl
  case box e x => simp only [freshR, h x (by simp [Op.operands])]
  case buildSlice ty n ps => simp only [freshR, evalPs_congr (l := ps.toList) (fun x hx => h x (by simpa [Op.operands] using hx))]
  case makeSlice ty l n => simp only [freshR, h l (by simp [Op.operands]), h n (by simp [Op.operands])]
  case makeMap ty r => simp only [freshR, opt_congr (x := r) (fun y hy => h y (by simpa [Op.operands] using hy))]
  case convert s d x => simp only [freshR, h x (by simp [Op.operands])]
theorem cls_cases (g : Prg) (op : Op) : cls g op = 0 ∨ cls g op = 1 ∨ cls g op = 2 ∨ cls g op = 3 := by
  unfold cls
  split <;> try simp
  all_goals (repeat' split) <;> simp
end
section
variable {P : Program} {g : Prg} {N : Nat} {ops : Array Oper} {c0 : Cx} {σ0 : St} {w0 : World}
/-- A slot's value. -/
def SlotIs (t : T AV) (d : Option Tmp) (v : AV) : Prop := ∀ e, d = some e → (t.get e).getD un = v
/-- What the evaluator has done, and the run not yet. -/
structure Pend (g : Prg) (ops : Array Oper) (σ0 : St) (c : Cx) (t : T AV) (σ : St) (n : Nat) (o : Oper) : Prop where
  ex : ∃ b, wantedA ops.toList t o = some b ∧ (b = false → SlotIs t o.dst un) ∧ (b = true → cls g o.op = 0 → ∃ v, pureR g (evalO t) o.op = some v ∧ SlotIs t o.dst v) ∧
    (b = true → cls g o.op = 2 → ∃ f k ao, freshR g (evalO t) o.op = some (f, k) ∧ f.obj = some ao ∧ σ.heap.get n = some ao ∧ σ0.nx ≤ n ∧ n < σ.nx ∧ ¬ c.D n ∧ SlotIs t o.dst (k.val n))
/-- Pending, and what it has read is still so. -/
def ReadP (g : Prg) (ops : Array Oper) (t : T AV) (σ : St) (o : Oper) : Prop := wantedA ops.toList t o = some true → cls g o.op = 1 → ∃ v, readR g (evalO t) σ o.op = some v ∧ SlotIs t o.dst v
/-- A block is pending. -/
def AlP (g : Prg) (ops : Array Oper) (t : T AV) (done : Nat) (L : Nat → Prop) (i : Nat) : Prop := bit done i = true ∧ ¬ L i ∧ ∃ o, ops[i]? = some o ∧ cls g o.op = 2 ∧ wantedA ops.toList t o = some true
def nmUp (nm : Nat → Nat) (i k : Nat) : Nat → Nat := fun j => if j = i then k else nm j
theorem nmUp_same (nm : Nat → Nat) (i k : Nat) : nmUp nm i k i = k := if_pos rfl
theorem nmUp_other (nm : Nat → Nat) {i j : Nat} (k : Nat) (h : j ≠ i) : nmUp nm i k j = nm j := if_neg h
structure Inv (g : Prg) (N : Nat) (ops : Array Oper) (c0 : Cx) (σ0 : St) (w0 : World) (c : Cx) (done settled : Nat) (t : T AV) (σ : St) (nm : Nat → Nat) (L : Nat → Prop) (a : Act) (w : World) : Prop where
  post : Post c0 c σ0 σ w0 w
  dclosed : Closed ops (fun j => bit done j = true)
  lclosed : Closed ops L
  sub : ∀ j, L j → bit done j = true
  set : ∀ j, bit settled j = true → L j
  quiet : ∀ j o, ops[j]? = some o → bit done j = true → ¬ L j → cls g o.op ≠ 3
  slots : ∀ d, (∀ j o, ops[j]? = some o → o.dst = some d → bit done j = true → L j) → SlotR c t a d
  size : N ≤ a.tmps.size
  defers : a.defers = []
  pend : ∀ j o, ops[j]? = some o → bit done j = true → ¬ L j → Pend g ops σ0 c t σ (nm j) o
  names : ∀ i j, AlP g ops t done L i → AlP g ops t done L j → nm i = nm j → i = j
variable {c : Cx} {done settled : Nat} {t : T AV} {σ σ2 : St} {nm : Nat → Nat} {L : Nat → Prop} {a : Act} {w : World}
/-- No pending operation names a slot that one that is ready looks at. -/
theorem Inv.looks (h : Inv g N ops c0 σ0 w0 c done settled t σ nm L a w) (hd : DrawOk g N ops) {i : Nat} {o : Oper} (ho : ops[i]? = some o) (hr : ∀ e ∈ o.after, Region.binds .any e = true → L e.on) (hq : bit done i = true → ¬ L i → cls g o.op ≠ 3) {d : Tmp} (hl : Looks ops o d) : SlotR c t a d := by
  refine h.slots d fun j p hp hpd hj => ?_
  by_cases hLj : L j
  · exact hLj
  · exfalso
    have hqt := h.quiet j p hp hj hLj
    obtain ⟨h1, h2, h3⟩ := hd.pair j p d hp hpd i o ho (.inr hl)
    rcases Nat.lt_trichotomy j i with e | e | e
    · exact hLj ((h2 e).ready h.lclosed ho hr)
    · subst e
      rw [ho] at hp
      simp only [Option.some.injEq] at hp
      subst hp
      rcases h1 rfl with h1 | h1
      · exact hqt h1
      · exact h1 hl
    · exact hqt (h3 e).1
theorem put_other {t : T AV} {dst : Option Tmp} {v : AV} {e : Tmp} (hN : ∀ d, dst = some d → d + 1 < 2 ^ FU) (he : dst ≠ some e) : (Go.Proofs.YtijiggolphppbaaGreatDoor.Ev.put t dst v).get e = t.get e := by
  cases dst with
  | none => rfl
  | some d =>
    simp only [Go.Proofs.YtijiggolphppbaaGreatDoor.Ev.put]
    rw [T.get_set FU t d (some v) e (hN d rfl), if_neg (fun h => he (by rw [h]))]
theorem put_same {t : T AV} {d : Tmp} {v : AV} (hN : d + 1 < 2 ^ FU) : (Go.Proofs.YtijiggolphppbaaGreatDoor.Ev.put t (some d) v).get d = some v := by
  simp only [Go.Proofs.YtijiggolphppbaaGreatDoor.Ev.put]
  rw [T.get_set FU t d (some v) d hN, if_pos rfl]
theorem evalO_put {t : T AV} {dst : Option Tmp} {v : AV} {o : Oper} (hN : ∀ d, dst = some d → d + 1 < 2 ^ FU) (hl : ∀ d, dst = some d → ¬ Looks ops o d) : ∀ x ∈ o.op.operands.toList, evalO (Go.Proofs.YtijiggolphppbaaGreatDoor.Ev.put t dst v) x = evalO t x := by
  intro x hx
  cases x <;> try rfl
  rename_i e
  simp only [evalO]
  rw [put_other hN (fun h => hl e h (.inl hx))]
theorem wantedA_put {t : T AV} {dst : Option Tmp} {v : AV} {o : Oper} (hN : ∀ d, dst = some d → d + 1 < 2 ^ FU) (hl : ∀ d, dst = some d → ¬ Looks ops o d) : wantedA ops.toList (Go.Proofs.YtijiggolphppbaaGreatDoor.Ev.put t dst v) o = wantedA ops.toList t o := by
  unfold wantedA
  cases hg : o.guard with
  | none => rfl
  | some jw =>
    obtain ⟨j, want⟩ := jw
    simp only [Array.getElem?_toList]
    cases hp : ops[j]? with
    | none => rfl
    | some p =>
      simp only [bnd]
      cases hd : p.dst with
      | none => rfl
      | some e =>
        simp only
        rw [put_other hN (fun h => hl e h (.inr ⟨j, want, p, hg, hp, hd⟩))]
theorem SlotIs.put {t : T AV} {dst : Option Tmp} {v u : AV} {x : Option Tmp} (hN : ∀ d, dst = some d → d + 1 < 2 ^ FU) (hx : ∀ d, dst = some d → x ≠ some d) (h : SlotIs t x u) : SlotIs (Go.Proofs.YtijiggolphppbaaGreatDoor.Ev.put t dst v) x u := by
  intro e he
  rw [put_other hN (fun h2 => hx e h2 he)]
  exact h e he
theorem SlotIs.new {t : T AV} {dst : Option Tmp} {v : AV} (hN : ∀ d, dst = some d → d + 1 < 2 ^ FU) : SlotIs (Go.Proofs.YtijiggolphppbaaGreatDoor.Ev.put t dst v) dst v := by
  intro e he
  subst he
  rw [put_same (hN e rfl)]
  rfl
theorem Pend.put {c2 : Cx} {n : Nat} {o : Oper} {dst : Option Tmp} {v : AV} (h : Pend g ops σ0 c t σ n o) (hN : ∀ d, dst = some d → d + 1 < 2 ^ FU) (hl : ∀ d, dst = some d → o.dst ≠ some d ∧ ¬ Looks ops o d)
    (hh : n < σ.nx → ¬ c.D n → σ2.heap.get n = σ.heap.get n) (hx : σ.nx ≤ σ2.nx) (hD : n < σ.nx → ¬ c.D n → ¬ c2.D n) : Pend g ops σ0 c2 (Go.Proofs.YtijiggolphppbaaGreatDoor.Ev.put t dst v) σ2 n o := by
  obtain ⟨b, h1, h2, h3, h4⟩ := h.ex
  have hl1 := fun d hd => (hl d hd).2
  have hl2 := fun d hd => (hl d hd).1
  refine ⟨b, by rw [wantedA_put hN hl1]; exact h1, fun e => (h2 e).put hN hl2, fun e1 e2 => ?_, fun e1 e2 => ?_⟩
  · obtain ⟨u, g1, g2⟩ := h3 e1 e2
    exact ⟨u, by rw [pure_congr (evalO_put hN hl1)]; exact g1, g2.put hN hl2⟩
  · obtain ⟨f, k, ao, g1, g2, g3, g4, g5, g6, g7⟩ := h4 e1 e2
    exact ⟨f, k, ao, by rw [fresh_congr (evalO_put hN hl1)]; exact g1, g2, by rw [hh g5 g6]; exact g3, g4, Nat.lt_of_lt_of_le g5 hx, hD g5 g6, g7.put hN hl2⟩
theorem Post.names (h : Post c0 c σ0 σ w0 w) (hx : σ2.nx = σ.nx + 1) (hm : σ2.nx ≤ MX + 1) (hg : ∀ m, m ≠ σ.nx → σ2.heap.get m = σ.heap.get m) : Post c0 c σ0 σ2 w0 w := by
  have hD : ∀ n, c.D n → n ≠ σ.nx := fun n hn e => by have := h.sim.nx n hn; omega
  have h1 := h.nx
  exact ⟨h.le, h.sim.congr (by omega) hm (fun n hn => hg n (hD n hn)), by omega, h.new, fun n hn hd => by rw [hg n (by omega)]; exact h.old n hn hd, h.os, h.tape, h.output, h.size, h.block, fun n o hn ho ha => h.blk n o hn (by rw [← hg n (hD n hn)]; exact ho) ha⟩
/-- A quiet operation, by the evaluator alone. -/
theorem Inv.quietE (h : Inv g N ops c0 σ0 w0 c done settled t σ nm L a w) (hd : DrawOk g N ops) (hN : N < MX) {i : Nat} {o : Oper} (ho : ops[i]? = some o) (hnd : ¬ bit done i = true) (hc : cls g o.op ≠ 3) (hr : ∀ e ∈ o.after, Region.binds .any e = true → bit done e.on = true)
    {t2 : T AV} (hq : oneQ g ops.toList o ⟨t, σ⟩ = some ⟨t2, σ2⟩) : Inv g N ops c0 σ0 w0 c (add done i) settled t2 σ2 (nmUp nm i σ.nx) L a w := by
  have hmx := MX_FU
  have hdN : ∀ d, o.dst = some d → d + 1 < 2 ^ FU := fun d hdd => by
    have : @LT.lt Nat _ d N := hd.dst i o d ho hdd
    show @LT.lt Nat _ (d + 1) (2 ^ FU)
    omega
  have hLi : ¬ L i := fun e => hnd (h.sub i e)
  have own : ∀ d, o.dst = some d → ¬ Looks ops o d := fun d hdd hl => by
    rcases (hd.pair i o d ho hdd i o ho (.inr hl)).1 rfl with e | e
    · exact hc e
    · exact e hl
  have oth : ∀ j p, ops[j]? = some p → bit done j = true → ∀ d, o.dst = some d → p.dst ≠ some d ∧ ¬ Looks ops p d := by
    intro j p hp hj d hdd
    have hji : j ≠ i := fun e => hnd (e ▸ hj)
    have no : ¬ (p.dst = some d ∨ Looks ops p d) := fun hm => by
      obtain ⟨_, h2, h3⟩ := hd.pair i o d ho hdd j p hp hm
      rcases Nat.lt_trichotomy i j with e | e | e
      · exact hnd ((h2 e).mem h.dclosed hj)
      · exact hji e.symm
      · exact hc (h3 e).1
    exact ⟨fun e => no (.inl e), fun e => no (.inr e)⟩
  have hnx0 := h.post.nx
  -- what was done
  have key : ∃ v, t2 = Go.Proofs.YtijiggolphppbaaGreatDoor.Ev.put t o.dst v ∧ σ.nx ≤ σ2.nx ∧ σ2.nx ≤ σ.nx + 1 ∧ (∀ m, m ≠ σ.nx → σ2.heap.get m = σ.heap.get m) ∧ Post c0 c σ0 σ2 w0 w ∧ (σ2.nx = σ.nx → σ2 = σ) ∧ Pend g ops σ0 c (Go.Proofs.YtijiggolphppbaaGreatDoor.Ev.put t o.dst v) σ2 σ.nx o := by
    simp only [oneQ, bnd_eq] at hq
    obtain ⟨b, hb, hq⟩ := hq
    cases b with
    | false =>
      simp only [cond_false, Option.some.injEq, Fr.mk.injEq] at hq
      obtain ⟨rfl, rfl⟩ := hq
      exact ⟨un, rfl, Nat.le_refl _, by omega, fun _ _ => rfl, h.post, fun _ => rfl, ⟨false, by rw [wantedA_put hdN own]; exact hb, fun _ => .new hdN, by simp, by simp⟩⟩
    | true =>
      simp only [cond_true, bnd_eq] at hq
      obtain ⟨r, hr2, hq⟩ := hq
      cases r with
      | call f args => cases hq
      | val v σ' =>
        simp only [Option.some.injEq, Fr.mk.injEq] at hq
        obtain ⟨rfl, rfl⟩ := hq
        have hw : wantedA ops.toList (Go.Proofs.YtijiggolphppbaaGreatDoor.Ev.put t o.dst v) o = some true := by rw [wantedA_put hdN own]; exact hb
        unfold execR at hr2
        rcases cls_cases g o.op with e | e | e | e
        · rw [e] at hr2
          simp only [bnd_eq, V, Option.some.injEq, R.val.injEq] at hr2
          obtain ⟨x, hx, rfl, rfl⟩ := hr2
          exact ⟨x, rfl, Nat.le_refl _, by omega, fun _ _ => rfl, h.post, fun _ => rfl, ⟨true, hw, by simp, fun _ _ => ⟨x, by rw [pure_congr (evalO_put hdN own)]; exact hx, .new hdN⟩, (fun _ e2 => by rw [e] at e2; cases e2)⟩⟩
        · rw [e] at hr2
          simp only [bnd_eq, V, Option.some.injEq, R.val.injEq] at hr2
          obtain ⟨x, hx, rfl, rfl⟩ := hr2
          exact ⟨x, rfl, Nat.le_refl _, by omega, fun _ _ => rfl, h.post, fun _ => rfl, ⟨true, hw, by simp, (fun _ e2 => by rw [e] at e2; cases e2), (fun _ e2 => by rw [e] at e2; cases e2)⟩⟩
        · rw [e] at hr2
          simp only [bnd_eq, V, Option.some.injEq, R.val.injEq] at hr2
          obtain ⟨p, hp, q, hq2, rfl, rfl⟩ := hr2
          obtain ⟨f, k⟩ := p
          obtain ⟨n, σ'⟩ := q
          obtain ⟨ao, f1, f2, f3, f4, f5, f6⟩ := newF_some hq2
          subst f2
          have f6' : ∀ m, m ≠ σ.nx → σ'.heap.get m = σ.heap.get m := f6
          refine ⟨_, rfl, by simp only; omega, by simp only; omega, f6', h.post.names f4 (by simp only; omega) f6', fun e5 => by simp only at e5; omega, ⟨true, hw, by simp, (fun _ e2 => by rw [e] at e2; cases e2), fun _ _ => ⟨f, k, ao, by rw [fresh_congr (evalO_put hdN own)]; exact hp, f1, f5, hnx0, by simp only; omega, fun hD => by have := h.post.sim.nx _ hD; omega, .new hdN⟩⟩⟩
        · exact absurd e hc
  obtain ⟨v, rfl, k1, k2, k3, k4, k5, k6⟩ := key
  have own1 : bit (add done i) i = true := bit_add.2 (.inl rfl)
  refine ⟨k4, ?_, h.lclosed, fun j hj => bit_add.2 (.inr (h.sub j hj)), h.set, ?_, ?_, h.size, h.defers, ?_, ?_⟩
  · intro j p hp hj e he hb
    rcases bit_add.1 hj with rfl | hj
    · rw [ho] at hp
      simp only [Option.some.injEq] at hp
      subst hp
      exact bit_add.2 (.inr (hr e he hb))
    · exact bit_add.2 (.inr (h.dclosed j p hp hj e he hb))
  · intro j p hp hj hL
    rcases bit_add.1 hj with rfl | hj
    · rw [ho] at hp
      simp only [Option.some.injEq] at hp
      subst hp
      exact hc
    · exact h.quiet j p hp hj hL
  · intro d hw
    have hdi : o.dst ≠ some d := fun e => hLi (hw i o ho e own1)
    have := h.slots d (fun j p hp hpd hj => hw j p hp hpd (bit_add.2 (.inr hj)))
    unfold SlotR at this ⊢
    rw [put_other hdN hdi]
    exact this
  · intro j p hp hj hL
    by_cases e : j = i
    · subst e
      rw [ho] at hp
      simp only [Option.some.injEq] at hp
      subst hp
      rw [nmUp_same]
      exact k6
    · have hj' : bit done j = true := (bit_add.1 hj).resolve_left e
      rw [nmUp_other nm σ.nx e]
      exact (h.pend j p hp hj' hL).put hdN (oth j p hp hj') (fun hlt _ => k3 _ (by omega)) k1 (fun _ hD => hD)
  · have old : ∀ j, j ≠ i → AlP g ops (Go.Proofs.YtijiggolphppbaaGreatDoor.Ev.put t o.dst v) (add done i) L j → AlP g ops t done L j ∧ nm j < σ.nx := by
      rintro j e ⟨hj, hL, p, hp, hc2, hw⟩
      have hj' : bit done j = true := (bit_add.1 hj).resolve_left e
      have hl := oth j p hp hj'
      rw [wantedA_put hdN (fun d hd => (hl d hd).2)] at hw
      refine ⟨⟨hj', hL, p, hp, hc2, hw⟩, ?_⟩
      obtain ⟨b, b1, _, _, b4⟩ := (h.pend j p hp hj' hL).ex
      rw [hw] at b1
      simp only [Option.some.injEq] at b1
      obtain ⟨_, _, _, _, _, _, _, q, _⟩ := b4 b1.symm hc2
      exact q
    intro j k hj hk hjk
    by_cases e1 : j = i
    · by_cases e2 : k = i
      · rw [e1, e2]
      · exfalso
        have := (old k e2 hk).2
        rw [e1, nmUp_same, nmUp_other nm σ.nx e2] at hjk
        omega
    · by_cases e2 : k = i
      · exfalso
        have := (old j e1 hj).2
        rw [e2, nmUp_same, nmUp_other nm σ.nx e1] at hjk
        omega
      · rw [nmUp_other nm σ.nx e1, nmUp_other nm σ.nx e2] at hjk
        exact h.names j k (old j e1 hj).1 (old k e2 hk).1 hjk
end
end Go.Proofs.YtijiggolphppbaaGreatDoor.Ev
namespace Go.Proofs.YtijiggolphppbaaGreatDoor.Ev
open Go
section
variable {P : Program} {g : Prg} {N : Nat} {ops : Array Oper} {c0 : Cx} {σ0 : St} {w0 : World} {c : Cx} {done settled : Nat} {t t2 : T AV} {σ σ2 : St} {nm : Nat → Nat} {L : Nat → Prop} {a : Act} {w : World}
theorem wantedL (h : Inv g N ops c0 σ0 w0 c done settled t σ nm L a w) (hd : DrawOk g N ops) {i : Nat} {o : Oper} (ho : ops[i]? = some o) (hr : ∀ e ∈ o.after, Region.binds .any e = true → L e.on) (hq : bit done i = true → ¬ L i → cls g o.op ≠ 3) :
    ERel c (evalO t) a.eval o.op.operands.toList ∧ ∀ b, wantedA ops.toList t o = some b → Region.wanted o (yielded ops a.tmps) = b :=
  ⟨erel_of fun _ hl => h.looks hd ho hr hq (.inl hl), fun _ hb => wanted_ok (fun j want p _ hg hp hdd => h.looks hd ho hr hq (.inr ⟨j, want, p, hg, hp, hdd⟩)) hb⟩
theorem slot_put {c2 : Cx} {dst : Option Tmp} {v : AV} {v' : Value} {d : Tmp} (hs : N ≤ a.tmps.size) (hlt : ∀ e, dst = some e → @LT.lt Nat _ e N) (hv : VR c2 v v') (hd : dst = some d) (ht : (t.get d).getD un = v) : SlotR c2 t (a.put dst v') d := by
  subst hd
  have h1 := hlt d rfl
  have h2 : @LT.lt Nat _ d a.tmps.size := Nat.lt_of_lt_of_le h1 hs
  unfold SlotR
  rw [ht]
  simp only [Act.put]
  have : (a.tmps.setIfInBounds d v').getD d undef = v' := by
    simp [Array.getD_eq_getD_getElem?, h2]
  rw [this]
  exact hv
theorem slot_keep {c2 : Cx} {dst : Option Tmp} {v' : Value} {d : Tmp} (hle : c.le c2) (hd : dst ≠ some d) (h : SlotR c t a d) (ht : (t2.get d).getD un = (t.get d).getD un) : SlotR c2 t2 (a.put dst v') d := by
  unfold SlotR at h ⊢
  rw [ht]
  cases dst with
  | none => exact h.mono hle
  | some e =>
    simp only [Act.put]
    have hne : e ≠ d := fun h => hd (by rw [h])
    have : (a.tmps.setIfInBounds e v').getD d undef = a.tmps.getD d undef := by
      simp [Array.getD_eq_getD_getElem?, Array.getElem?_setIfInBounds_ne hne]
    rw [this]
    exact h.mono hle
theorem put_size (a : Act) (dst : Option Tmp) (v : Value) : (a.put dst v).tmps.size = a.tmps.size := by cases dst <;> simp [Act.put]
theorem put_defers (a : Act) (dst : Option Tmp) (v : Value) : (a.put dst v).defers = a.defers := by cases dst <;> rfl
/-- One more is done in the run. -/
theorem Inv.more (h : Inv g N ops c0 σ0 w0 c done settled t σ nm L a w) (hd : DrawOk g N ops) {i : Nat} {o : Oper} (ho : ops[i]? = some o) (hi : bit done i = true) (hr : ∀ e ∈ o.after, Region.binds .any e = true → L e.on)
    {c2 : Cx} {v : AV} {v' : Value} {w2 : World} (hp : Post c0 c2 σ0 σ w0 w2) (hle : c.le c2) (hv : VR c2 v v') (hs : SlotIs t o.dst v) (hD : ∀ j, AlP g ops t done L j → j ≠ i → ¬ c.D (nm j) → ¬ c2.D (nm j)) :
    Inv g N ops c0 σ0 w0 c2 done settled t σ nm (fun j => L j ∨ j = i) (a.put o.dst v') w2 := by
  refine ⟨hp, h.dclosed, ?_, ?_, fun j hj => .inl (h.set j hj), fun j p hp hj hL => h.quiet j p hp hj (fun e => hL (.inl e)), ?_, by rw [put_size]; exact h.size, by rw [put_defers]; exact h.defers, ?_, ?_⟩
  · rintro j p hp (hj | rfl) e he hb
    · exact .inl (h.lclosed j p hp hj e he hb)
    · rw [ho] at hp
      simp only [Option.some.injEq] at hp
      subst hp
      exact .inl (hr e he hb)
  · rintro j (hj | rfl)
    · exact h.sub j hj
    · exact hi
  · intro d hw
    by_cases e : o.dst = some d
    · exact slot_put h.size (fun e he => hd.dst i o e ho he) hv e (hs d e)
    · refine slot_keep hle e (h.slots d fun j p hp hpd hj => (hw j p hp hpd hj).resolve_right fun e2 => ?_) rfl
      subst e2
      rw [ho] at hp
      simp only [Option.some.injEq] at hp
      subst hp
      exact e hpd
  · intro j p hp2 hj hL
    have hLj : ¬ L j := fun e => hL (.inl e)
    have hji : j ≠ i := fun e => hL (.inr e)
    obtain ⟨b, h1, h2, h3, h4⟩ := (h.pend j p hp2 hj hLj).ex
    refine ⟨b, h1, h2, h3, fun e1 e2 => ?_⟩
    obtain ⟨f, k, ao, g1, g2, g3, g4, g5, g6, g7⟩ := h4 e1 e2
    exact ⟨f, k, ao, g1, g2, g3, g4, g5, hD j ⟨hj, hLj, p, hp2, e2, by rw [h1, e1]⟩ hji g6, g7⟩
  · rintro j k ⟨hj, hLj, x⟩ ⟨hk, hLk, y⟩ hjk
    exact h.names j k ⟨hj, fun e => hLj (.inl e), x⟩ ⟨hk, fun e => hLk (.inl e), y⟩ hjk
theorem Inv.pendR (h : Inv g N ops c0 σ0 w0 c done settled t σ nm L a w) (hd : DrawOk g N ops) (hT : TysR P g) {i : Nat} {o : Oper} (ho : ops[i]? = some o) (hi : bit done i = true) (hLi : ¬ L i) (hrp : ReadP g ops t σ o) (hr : ∀ e ∈ o.after, Region.binds .any e = true → L e.on)
    (Q : Exit → Act → World → Prop) (K : Act → World → Prop) (hK : ∀ c2 v' w2, Inv g N ops c0 σ0 w0 c2 done settled t σ nm (fun j => L j ∨ j = i) (a.put o.dst v') w2 → K (a.put o.dst v') w2) : wpOp P ops Q i K a w := by
  have hq3 := h.quiet i o ho hi hLi
  obtain ⟨hE, hG⟩ := wantedL h hd ho hr (fun _ _ => hq3)
  obtain ⟨b, h1, h2, h3, h4⟩ := (h.pend i o ho hi hLi).ex
  have hw := hG b h1
  unfold wpOp
  cases b with
  | false =>
    simp only [ho, hw, Bool.false_eq_true, if_false]
    exact hK c undef w (h.more hd ho hi hr h.post (.refl c) (VR.un c) (h2 rfl) (fun _ _ _ hD => hD))
  | true =>
    simp only [ho, hw, if_true]
    left
    unfold Oper.wp
    rcases cls_cases g o.op with e | e | e | e
    · obtain ⟨v, g1, g2⟩ := h3 rfl e
      obtain ⟨v', r1, r2⟩ := pure_ok (P := P) (w := w) hT hE g1
      rw [r1]
      exact hK c v' w (h.more hd ho hi hr h.post (.refl c) r2 g2 (fun _ _ _ hD => hD))
    · obtain ⟨v, g1, g2⟩ := hrp h1 e
      obtain ⟨v', r1, r2⟩ := read_ok (P := P) hT h.post.sim hE g1
      rw [r1]
      exact hK c v' w (h.more hd ho hi hr h.post (.refl c) r2 g2 (fun _ _ _ hD => hD))
    · obtain ⟨f, k, ao, g1, g2, g3, g4, g5, g6, g7⟩ := h4 rfl e
      obtain ⟨v', w', ob, sz, r1, r2, r3, r4⟩ := fresh_ok (P := P) (c := c) (w := w) hT hE g1
      rw [r1]
      obtain ⟨s1, s2⟩ := h.post.sim.reveal g6 g5 g2 g3 r3 r2
      have hp : Post c0 (c.more (nm i) w.heap.size 0 sz) σ0 σ w0 w' := by
        have hpo := h.post
        refine ⟨hpo.le.trans s1, s2, hpo.nx, ?_, hpo.old, r2.os.trans hpo.os, r2.tape.trans hpo.tape, r2.output.trans hpo.output, by rw [r2.size]; have := hpo.size; omega, fun b hb hno => ?_, fun n o2 hn ho2 ha2 => ?_⟩
        · rintro n (hn | rfl)
          · exact hpo.new n hn
          · exact .inr g4
        · have := hpo.size
          rw [r2.at, if_neg (by omega)]
          exact hpo.block b hb hno
        · by_cases e1 : n = nm i
          · left
            rw [e1, Cx.more_ρ]
            exact hpo.size
          · have hn2 : c.D n := hn.resolve_right e1
            have hρ : (c.more (nm i) w.heap.size 0 sz).ρ n = c.ρ n := if_neg e1
            rw [hρ]
            exact hpo.blk n o2 hn2 ho2 ha2
      refine hK _ v' w' (h.more hd ho hi hr hp s1 (r4.val (Cx.more_D _ _ _ _ _) (Cx.more_ρ _ _ _ _ _) (Cx.more_L _ _ _ _ _)) g7 (fun j hj hji hD => ?_))
      rintro (hd2 | e2)
      · exact hD hd2
      · exact hji (h.names j i hj ⟨hi, hLi, o, ho, e, h1⟩ e2)
    · exact absurd e hq3
theorem Inv.writeR (h : Inv g N ops c0 σ0 w0 c done settled t σ nm L a w) (hd : DrawOk g N ops) (hN : N < MX) (hT : TysR P g) {J : World → Prop} (hJ : J c0.W) {n : Nat} (hcall : ∀ f args σ v σ', call g n f args σ = some (v, σ') → CallOut P J f args σ v σ') {i : Nat} {o : Oper} (ho : ops[i]? = some o)
    (hnd : ¬ bit done i = true) (hr : ∀ e ∈ o.after, Region.binds .any e = true → L e.on) (h1 : one g (n + 1) ops.toList o ⟨t, σ⟩ = some ⟨t2, σ2⟩)
    (Q : Exit → Act → World → Prop) (K : Act → World → Prop) (hK : ∀ c2 v' w2, Inv g N ops c0 σ0 w0 c2 (add done i) (Nat.lor settled (add ((aheadL [] ops.toList).getD i 0) i)) t2 σ2 nm (fun j => L j ∨ j = i) (a.put o.dst v') w2 → K (a.put o.dst v') w2) : wpOp P ops Q i K a w := by
  have hmx := MX_FU
  have hdN : ∀ d, o.dst = some d → d + 1 < 2 ^ FU := fun d hdd => by
    have : @LT.lt Nat _ d N := hd.dst i o d ho hdd
    show @LT.lt Nat _ (d + 1) (2 ^ FU)
    omega
  obtain ⟨hE, hG⟩ := wantedL h hd ho hr (fun e => absurd e hnd)
  obtain ⟨v, rfl, hone⟩ := one_core (P := P) hT (J := J) (by rw [h.post.le.2.2.2]; exact hJ) hcall ho h1 hE hG h.post.sim
  refine hone Q K fun c2 v' w2 hp hv => hK c2 v' w2 ?_
  have oth : ∀ j p, ops[j]? = some p → bit done j = true → ¬ L j → ∀ d, o.dst = some d → p.dst ≠ some d ∧ ¬ Looks ops p d := by
    intro j p hp hj hL d hdd
    have no : ¬ (p.dst = some d ∨ Looks ops p d) := fun hm => by
      obtain ⟨_, h2, h3⟩ := hd.pair i o d ho hdd j p hp hm
      rcases Nat.lt_trichotomy i j with e | e | e
      · exact hnd ((h2 e).mem h.dclosed hj)
      · exact hnd (e ▸ hj)
      · exact hL ((h3 e).2.ready h.lclosed ho hr)
    exact ⟨fun e => no (.inl e), fun e => no (.inr e)⟩
  refine ⟨h.post.trans hp, ?_, ?_, ?_, ?_, ?_, ?_, by rw [put_size]; exact h.size, by rw [put_defers]; exact h.defers, ?_, ?_⟩
  · intro j p hp hj e he hb
    rcases bit_add.1 hj with rfl | hj
    · rw [ho] at hp
      simp only [Option.some.injEq] at hp
      subst hp
      exact bit_add.2 (.inr (h.sub _ (hr e he hb)))
    · exact bit_add.2 (.inr (h.dclosed j p hp hj e he hb))
  · rintro j p hp (hj | rfl) e he hb
    · exact .inl (h.lclosed j p hp hj e he hb)
    · rw [ho] at hp
      simp only [Option.some.injEq] at hp
      subst hp
      exact .inl (hr e he hb)
  · rintro j (hj | rfl)
    · exact bit_add.2 (.inr (h.sub j hj))
    · exact bit_add.2 (.inl rfl)
  · intro j hj
    rcases bit_or.1 hj with hj | hj
    · exact .inl (h.set j hj)
    · rcases bit_add.1 hj with rfl | hj
      · exact .inr rfl
      · exact .inl ((pre_ok hj).ready h.lclosed ho hr)
  · intro j p hp hj hL
    have hji : j ≠ i := fun e => hL (.inr e)
    exact h.quiet j p hp ((bit_add.1 hj).resolve_left hji) (fun e => hL (.inl e))
  · intro d hw
    by_cases e : o.dst = some d
    · refine slot_put h.size (fun e he => hd.dst i o e ho he) hv e ?_
      rw [e, put_same (hdN d e)]
      rfl
    · refine slot_keep hp.le e (h.slots d fun j p hp hpd hj => (hw j p hp hpd (bit_add.2 (.inr hj))).resolve_right fun e2 => hnd (e2 ▸ hj)) ?_
      rw [put_other hdN e]
  · intro j p hp2 hj hL
    have hji : j ≠ i := fun e => hL (.inr e)
    have hj' := (bit_add.1 hj).resolve_left hji
    have hLj : ¬ L j := fun e => hL (.inl e)
    exact (h.pend j p hp2 hj' hLj).put hdN (oth j p hp2 hj' hLj) (fun hlt hD => hp.old _ hlt hD) hp.nx (fun hlt hD hD2 => by
      rcases hp.new _ hD2 with e | e
      · exact hD e
      · omega)
  · have old : ∀ j, AlP g ops (Go.Proofs.YtijiggolphppbaaGreatDoor.Ev.put t o.dst v) (add done i) (fun j => L j ∨ j = i) j → AlP g ops t done L j := by
      rintro j ⟨hj, hL, p, hp2, hc2, hw⟩
      have hji : j ≠ i := fun e => hL (.inr e)
      have hj' := (bit_add.1 hj).resolve_left hji
      have hLj : ¬ L j := fun e => hL (.inl e)
      rw [wantedA_put hdN (fun d hd => (oth j p hp2 hj' hLj d hd).2)] at hw
      exact ⟨hj', hLj, p, hp2, hc2, hw⟩
    intro j k hj hk hjk
    exact h.names j k (old j hj) (old k hk) hjk
end
end Go.Proofs.YtijiggolphppbaaGreatDoor.Ev
namespace Go.Proofs.YtijiggolphppbaaGreatDoor.Ev
open Go
section
variable {P : Program} {g : Prg} {N : Nat} {ops : Array Oper} {c0 : Cx} {σ0 : St} {w0 : World}
theorem tail_at {o : Oper} {l : List Oper} {i0 : Nat} (hl : ∀ k, (o :: l)[k]? = ops[i0 + k]?) : ∀ k, l[k]? = ops[i0 + 1 + k]? := fun k => by
  have := hl (k + 1)
  simp only [List.getElem?_cons_succ] at this
  rw [this]
  congr 1
  omega
theorem head_at {o : Oper} {l : List Oper} {i0 : Nat} (hl : ∀ k, (o :: l)[k]? = ops[i0 + k]?) : ops[i0]? = some o := by
  have := hl 0
  simpa using this.symm
theorem quietR_ok (hd : DrawOk g N ops) (hN : N < MX) {settled : Nat} {L : Nat → Prop} {a : Act} {w : World} {c : Cx} : ∀ (l : List Oper) (i0 : Nat), (∀ k, l[k]? = ops[i0 + k]?) → ∀ {done : Nat} {t : T AV} {σ : St} {nm : Nat → Nat} {done2 : Nat} {fr2 : Fr},
    Inv g N ops c0 σ0 w0 c done settled t σ nm L a w → (∀ j o, j < i0 → ops[j]? = some o → ¬ bit done j = true → cls g o.op ≠ 3 → ¬ readyA done o.after.toList = true) →
    quietR g ops.toList i0 l done ⟨t, σ⟩ = some (done2, fr2) →
    ∃ nm2, Inv g N ops c0 σ0 w0 c done2 settled fr2.t fr2.σ nm2 L a w ∧ ∀ j o, ops[j]? = some o → ¬ bit done2 j = true → cls g o.op ≠ 3 → ¬ readyA done2 o.after.toList = true
  | [], i0, hl, done, t, σ, nm, done2, fr2, h, hsat, hq => by
    simp only [quietR, Option.some.injEq, Prod.mk.injEq] at hq
    obtain ⟨rfl, rfl⟩ := hq
    refine ⟨nm, h, fun j o ho => hsat j o ?_ ho⟩
    rcases Nat.lt_or_ge j i0 with e | e
    · exact e
    · have := hl (j - i0)
      rw [show i0 + (j - i0) = j by omega, ho] at this
      simp at this
  | o :: l, i0, hl, done, t, σ, nm, done2, fr2, h, hsat, hq => by
    have ho := head_at hl
    unfold quietR at hq
    cases hc : (!(bit done i0) && !(Nat.beq (cls g o.op) 3) && readyA done o.after.toList) with
    | true =>
      rw [hc] at hq
      simp only [cond_true, bnd_eq] at hq
      obtain ⟨fr, hone, hq⟩ := hq
      obtain ⟨t', σ'⟩ := fr
      simp only [Bool.and_eq_true, Bool.not_eq_true'] at hc
      obtain ⟨⟨c1, c2⟩, c3⟩ := hc
      have hnd : ¬ bit done i0 = true := by rw [c1]; simp
      have hc3 : cls g o.op ≠ 3 := fun e => by rw [e] at c2; cases c2
      have hr := readyA_ok.1 c3
      have h2 := h.quietE hd hN ho hnd hc3 (fun e he hb => hr e (Array.mem_toList_iff.2 he) hb) hone
      refine quietR_ok hd hN l (i0 + 1) (tail_at hl) h2 (fun j p hj hp hndj hcj hrj => ?_) hq
      have hji : j ≠ i0 := fun e => hndj (bit_add.2 (.inl e))
      refine hsat j p (by omega) hp (fun e => hndj (bit_add.2 (.inr e))) hcj (readyA_ok.2 fun e he hb => ?_)
      have hlt := hd.back j p hp e (Array.mem_toList_iff.1 he) hb
      exact (bit_add.1 (readyA_ok.1 hrj e he hb)).resolve_left (by omega)
    | false =>
      rw [hc] at hq
      simp only [cond_false] at hq
      refine quietR_ok hd hN l (i0 + 1) (tail_at hl) h (fun j p hj hp hndj hcj hrj => ?_) hq
      by_cases hji : j = i0
      · subst hji
        rw [ho] at hp
        simp only [Option.some.injEq] at hp
        subst hp
        have : (!(bit done j) && !(Nat.beq (cls g o.op) 3) && readyA done o.after.toList) = true := by
          simp only [Bool.and_eq_true, Bool.not_eq_true']
          refine ⟨⟨by cases hb : bit done j <;> simp_all, ?_⟩, hrj⟩
          cases hb : Nat.beq (cls g o.op) 3 with
          | false => rfl
          | true => exact absurd (beq_eq.1 hb) hcj
        rw [this] at hc
        cases hc
      · exact hsat j p (by omega) hp hndj hcj hrj
theorem againR_ok {done settled : Nat} {fr : Fr} : ∀ (l : List Oper) (i0 : Nat), (∀ k, l[k]? = ops[i0 + k]?) → againR g ops.toList done settled fr i0 l = true → ∀ j o, i0 ≤ j → ops[j]? = some o → bit done j = true → ¬ bit settled j = true → ReadP g ops fr.t fr.σ o
  | [], i0, hl, _, j, o, hj, ho => by
    have := hl (j - i0)
    rw [show i0 + (j - i0) = j by omega, ho] at this
    simp at this
  | q :: l, i0, hl, h, j, o, hj, ho => by
    intro hbd hbs
    simp only [againR, Bool.and_eq_true] at h
    obtain ⟨h1, h2⟩ := h
    by_cases e : j = i0
    · subst e
      have hq := head_at hl
      rw [ho] at hq
      simp only [Option.some.injEq] at hq
      subst hq
      intro hw hc
      have hcond : (bit done j && !(bit settled j) && Nat.beq (cls g o.op) 1) = true := by
        simp only [Bool.and_eq_true, Bool.not_eq_true']
        refine ⟨⟨hbd, by cases hb : bit settled j <;> simp_all⟩, beq_eq.2 hc⟩
      rw [hcond] at h1
      simp only [cond_true, hw] at h1
      cases hr : readR g (evalO fr.t) fr.σ o.op with
      | none => rw [hr] at h1; simp at h1
      | some v =>
        rw [hr] at h1
        refine ⟨v, rfl, fun d hdd => ?_⟩
        rw [hdd] at h1
        simp only at h1
        exact (eqA_sound h1).symm
    · exact againR_ok l (i0 + 1) (tail_at hl) h2 j o (by omega) ho hbd hbs
theorem pickW_none {done : Nat} : ∀ (l : List Oper) (i0 : Nat), (∀ k, l[k]? = ops[i0 + k]?) → pickW done i0 l = some none → ∀ j o, i0 ≤ j → ops[j]? = some o → ¬ bit done j = true → ¬ readyA done o.after.toList = true
  | [], i0, hl, _, j, o, hj, ho => by
    have := hl (j - i0)
    rw [show i0 + (j - i0) = j by omega, ho] at this
    simp at this
  | q :: l, i0, hl, h, j, o, hj, ho => by
    intro hb hr
    unfold pickW at h
    cases hc : (!(bit done i0) && readyA done q.after.toList) with
    | true =>
      rw [hc] at h
      simp only [cond_true] at h
      split at h <;> cases h
    | false =>
      rw [hc] at h
      simp only [cond_false] at h
      by_cases e : j = i0
      · subst e
        have hq := head_at hl
        rw [ho] at hq
        simp only [Option.some.injEq] at hq
        subst hq
        have : (!(bit done j) && readyA done o.after.toList) = true := by
          simp only [Bool.and_eq_true, Bool.not_eq_true']
          exact ⟨by cases hb2 : bit done j <;> simp_all, hr⟩
        rw [this] at hc
        cases hc
      · exact pickW_none l (i0 + 1) (tail_at hl) h j o (by omega) ho hb hr
theorem pickW_some {done i : Nat} : ∀ (l : List Oper) (i0 : Nat), (∀ k, l[k]? = ops[i0 + k]?) → pickW done i0 l = some (some i) → ∀ j o, i0 ≤ j → ops[j]? = some o → ¬ bit done j = true → readyA done o.after.toList = true → j = i
  | [], i0, hl, h, j, o, hj, ho => by simp [pickW] at h
  | q :: l, i0, hl, h, j, o, hj, ho => by
    intro hb hr
    unfold pickW at h
    cases hc : (!(bit done i0) && readyA done q.after.toList) with
    | true =>
      rw [hc] at h
      simp only [cond_true] at h
      split at h
      · rename_i hn
        simp only [Option.some.injEq] at h
        subst h
        by_cases e : j = i0
        · exact e
        · exact absurd hr (pickW_none l (i0 + 1) (tail_at hl) hn j o (by omega) ho hb)
      · cases h
    | false =>
      rw [hc] at h
      simp only [cond_false] at h
      by_cases e : j = i0
      · subst e
        have hq := head_at hl
        rw [ho] at hq
        simp only [Option.some.injEq] at hq
        subst hq
        have : (!(bit done j) && readyA done o.after.toList) = true := by
          simp only [Bool.and_eq_true, Bool.not_eq_true']
          exact ⟨by cases hb2 : bit done j <;> simp_all, hr⟩
        rw [this] at hc
        cases hc
      · exact pickW_some l (i0 + 1) (tail_at hl) h j o (by omega) ho hb hr
theorem pickW_in {done i : Nat} : ∀ (l : List Oper) (i0 : Nat), (∀ k, l[k]? = ops[i0 + k]?) → pickW done i0 l = some (some i) → ∃ o, ops[i]? = some o ∧ ¬ bit done i = true
  | [], i0, hl, h => by simp [pickW] at h
  | q :: l, i0, hl, h => by
    unfold pickW at h
    cases hc : (!(bit done i0) && readyA done q.after.toList) with
    | true =>
      rw [hc] at h
      simp only [cond_true] at h
      split at h
      · simp only [Option.some.injEq] at h
        subst h
        refine ⟨q, head_at hl, fun e => ?_⟩
        rw [e] at hc
        cases hc
      · cases h
    | false =>
      rw [hc] at h
      simp only [cond_false] at h
      exact pickW_in l (i0 + 1) (tail_at hl) h
/-- How many aren't listed. -/
def left (l : List Bool) : Nat := l.countP (fun b => !b)
theorem left_set : ∀ (l : List Bool) (i : Nat), l[i]? = some false → left (l.set i true) + 1 = left l
  | [], i, h => by simp at h
  | b :: l, 0, h => by
    simp at h
    subst h
    simp [left]
  | b :: l, i + 1, h => by
    simp at h
    have := left_set l i h
    unfold left at *
    simp only [List.set_cons_succ, List.countP_cons]
    omega
theorem left_pos {l : List Bool} {i : Nat} (h : l[i]? = some false) : 0 < left l := by
  have := left_set l i h
  omega
def Lst (listed : Array Bool) (j : Nat) : Prop := listed.getD j false = true
theorem any_ok (hd : DrawOk g N ops) (hN : N < MX) (hT : TysR P g) {J : World → Prop} (hJ : J c0.W) {Q : Exit → Act → World → Prop} {frF : Fr}
    (hQ : ∀ c' a' w', Post c0 c' σ0 frF.σ w0 w' → (∀ d, SlotR c' frF.t a' d) → N ≤ a'.tmps.size → a'.defers = [] → Q .normal a' w') :
    ∀ (m : Nat) {listed : Array Bool} {c : Cx} {done settled : Nat} {t : T AV} {σ : St} {nm : Nat → Nat} {a : Act} {w : World} {n : Nat},
      (∀ k, k ≤ n → ∀ f args σ v σ', call g k f args σ = some (v, σ') → CallOut P J f args σ v σ') →
      Inv g N ops c0 σ0 w0 c done settled t σ nm (Lst listed) a w → listed.size = ops.size → left listed.toList ≤ m →
      (∀ j o, ops[j]? = some o → bit done j = true → ¬ Lst listed j → ReadP g ops t σ o) →
      (∀ j o, ops[j]? = some o → ¬ bit done j = true → cls g o.op ≠ 3 → ¬ readyA done o.after.toList = true) →
      (bnd (pickW done 0 ops.toList) fun k => match k with
        | none => some ⟨t, σ⟩
        | some i => bnd ops.toList[i]? fun o => bnd (one g n ops.toList o ⟨t, σ⟩) fun fr => anyR g n ops.toList (aheadL [] ops.toList) (add done i) (Nat.lor settled (add ((aheadL [] ops.toList).getD i 0) i)) fr) = some frF →
      wpAny P .any ops Q m listed a w := by
  have whole : ∀ k, ops.toList[k]? = ops[0 + k]? := fun k => by simp
  have allL : ∀ {listed : Array Bool}, listed.size = ops.size → Region.ready .any ops listed = [] → ∀ j o, ops[j]? = some o → Lst listed j := by
    intro listed hsz hr j
    induction j using Nat.strongRecOn with
    | _ j ih =>
      intro o ho
      cases hb : listed.getD j false with
      | true => exact hb
      | false =>
        exfalso
        have hlt : j < ops.size := (Array.getElem?_eq_some_iff.1 ho).1
        have hlt2 : j < listed.size := by omega
        have hmem : j ∈ Region.ready .any ops listed := mem_ready.2 ⟨by simpa [Array.getD_eq_getD_getElem?, hlt2] using hb, o, ho, fun e he hbd => by
          have h1 := hd.back j o ho e he hbd
          have h2 : e.on < ops.size := by omega
          exact ih e.on h1 _ (Array.getElem?_eq_getElem h2)⟩
        rw [hr] at hmem
        cases hmem
  have fin : ∀ {listed : Array Bool} {c : Cx} {done settled : Nat} {t : T AV} {σ : St} {nm : Nat → Nat} {a : Act} {w : World} {n : Nat}, Inv g N ops c0 σ0 w0 c done settled t σ nm (Lst listed) a w → listed.size = ops.size →
      (bnd (pickW done 0 ops.toList) fun k => match k with
        | none => some ⟨t, σ⟩
        | some i => bnd ops.toList[i]? fun o => bnd (one g n ops.toList o ⟨t, σ⟩) fun fr => anyR g n ops.toList (aheadL [] ops.toList) (add done i) (Nat.lor settled (add ((aheadL [] ops.toList).getD i 0) i)) fr) = some frF →
      Region.ready .any ops listed = [] → Q .normal a w := by
    intro listed c done settled t σ nm a w n h hsz hs hr
    have hall := allL hsz hr
    rw [bnd_eq] at hs
    obtain ⟨k, hk, hs⟩ := hs
    cases k with
    | some i =>
      obtain ⟨o, ho, hnd⟩ := pickW_in ops.toList 0 whole hk
      exact absurd (h.sub i (hall i o ho)) hnd
    | none =>
      simp only [Option.some.injEq] at hs
      subst hs
      exact hQ c a w h.post (fun d => h.slots d fun j o ho _ _ => hall j o ho) h.size h.defers
  intro m
  induction m with
  | zero =>
    intro listed c done settled t σ nm a w n hcall h hsz hm hrd hsat hs
    have hr : Region.ready .any ops listed = [] := by
      cases hq : Region.ready .any ops listed with
      | nil => rfl
      | cons i rest =>
        exfalso
        have hi : i ∈ Region.ready .any ops listed := by rw [hq]; simp
        obtain ⟨h1, o, ho, _⟩ := mem_ready.1 hi
        have hlt : i < listed.size := by rw [hsz]; exact (Array.getElem?_eq_some_iff.1 ho).1
        have h2 : listed.toList[i]? = some false := by
          rw [Array.getElem?_toList, Array.getElem?_eq_getElem hlt]
          simpa [Array.getD_eq_getD_getElem?, hlt] using h1
        have := left_pos h2
        omega
    exact ⟨hr, fin h hsz hs hr⟩
  | succ m ih =>
    intro listed c done settled t σ nm a w n hcall h hsz hm hrd hsat hs
    refine ⟨fin h hsz hs, fun i hi => ?_⟩
    obtain ⟨h1, o, ho, hpre⟩ := mem_ready.1 hi
    have hlt : i < listed.size := by rw [hsz]; exact (Array.getElem?_eq_some_iff.1 ho).1
    have h2 : listed.toList[i]? = some false := by
      rw [Array.getElem?_toList, Array.getElem?_eq_getElem hlt]
      simpa [Array.getD_eq_getD_getElem?, hlt] using h1
    have hLi : ¬ Lst listed i := by
      unfold Lst
      rw [Array.getD_eq_getD_getElem?, ← Array.getElem?_toList, h2]
      simp
    have hL2 : (fun j => Lst listed j ∨ j = i) = Lst (listed.setIfInBounds i true) := by
      funext j
      apply propext
      unfold Lst
      by_cases e : j = i
      · subst e
        simp [Array.getD_eq_getD_getElem?, hlt]
      · simp [Array.getD_eq_getD_getElem?, Array.getElem?_setIfInBounds_ne (Ne.symm e), e]
    have hleft : left (listed.setIfInBounds i true).toList ≤ m := by
      have := left_set listed.toList i h2
      rw [Array.toList_setIfInBounds]
      omega
    have hsz2 : (listed.setIfInBounds i true).size = ops.size := by simpa using hsz
    have sub2 : ∀ j, ¬ Lst (listed.setIfInBounds i true) j → ¬ Lst listed j := fun j hj e => hj (by rw [← hL2]; exact .inl e)
    by_cases hdn : bit done i = true
    · refine h.pendR hd hT ho hdn hLi (hrd i o ho hdn hLi) hpre Q _ fun c2 v' w2 hinv => ?_
      rw [hL2] at hinv
      exact ih hcall hinv hsz2 hleft (fun j p hp hj hL => hrd j p hp hj (sub2 j hL)) hsat hs
    · have hrdy : readyA done o.after.toList = true := readyA_ok.2 fun e he hb => h.sub _ (hpre e (Array.mem_toList_iff.1 he) hb)
      rw [bnd_eq] at hs
      obtain ⟨k, hk, hs⟩ := hs
      cases k with
      | none => exact absurd hrdy (pickW_none ops.toList 0 whole hk i o (Nat.zero_le _) ho hdn)
      | some i2 =>
        have e := pickW_some ops.toList 0 whole hk i o (Nat.zero_le _) ho hdn hrdy
        subst e
        simp only [bnd_eq, Array.getElem?_toList] at hs
        obtain ⟨o2, ho2, fr, hone, hany⟩ := hs
        rw [ho] at ho2
        simp only [Option.some.injEq] at ho2
        subst ho2
        obtain ⟨t2, σ2⟩ := fr
        cases n with
        | zero => simp [one] at hone
        | succ n =>
          refine h.writeR hd hN hT hJ (hcall n (Nat.le_succ n)) ho hdn hpre hone Q _ fun c2 v' w2 hinv => ?_
          rw [hL2] at hinv
          unfold anyR at hany
          simp only [bnd_eq] at hany
          obtain ⟨q, hq, hany⟩ := hany
          rw [bif_eq] at hany
          obtain ⟨hag, hany⟩ := hany
          obtain ⟨done2, fr2⟩ := q
          obtain ⟨nm2, hinv2, hsat2⟩ := quietR_ok hd hN ops.toList 0 whole hinv (fun j p hj => absurd hj (Nat.not_lt_zero j)) hq
          refine ih (n := n) (fun k hk => hcall k (by omega)) hinv2 hsz2 hleft (fun j p hp hj hL => againR_ok ops.toList 0 whole hag j p (Nat.zero_le _) hp hj (fun e => hL (hinv2.set j e))) hsat2 ?_
          exact hany
theorem region_any_ok (hd : DrawOk g N ops) (hN : N < MX) (hT : TysR P g) (hm : P.follows .mixedOrders = true) {J : World → Prop} {Q : Exit → Act → World → Prop} {id n : Nat} {t : T AV} {frF : Fr} {c : Cx} {a : Act} {w : World} (hJ : J c.W)
    (hcall : ∀ k, k ≤ n → ∀ f args σ v σ', call g k f args σ = some (v, σ') → CallOut P J f args σ v σ')
    (hf : FrR c N t a) (hs : Sim c σ0 w) (h : anyR g n ops.toList (aheadL [] ops.toList) 0 0 ⟨t, σ0⟩ = some frF)
    (hQ : ∀ c' a' w', Post c c' σ0 frF.σ w w' → FrR c' N frF.t a' → Q .normal a' w') : (Code.region id ops true).wp P Q a w := by
  have whole : ∀ k, ops.toList[k]? = ops[0 + k]? := fun k => by simp
  refine wp_region_any hm ?_
  cases n with
  | zero => simp [anyR] at h
  | succ n =>
    unfold anyR at h
    simp only [bnd_eq] at h
    obtain ⟨q, hq, h⟩ := h
    rw [bif_eq] at h
    obtain ⟨hag, h⟩ := h
    obtain ⟨done2, fr2⟩ := q
    have hno : ∀ j, ¬ Lst (Array.replicate ops.size false) j := by
      intro j
      unfold Lst
      rw [Array.getD_eq_getD_getElem?, Array.getElem?_replicate]
      split <;> simp
    have hinv : Inv g N ops c σ0 w c 0 0 t σ0 (fun _ => 0) (Lst (Array.replicate ops.size false)) a { w with drawn := w.drawn + 1 } :=
      ⟨Post.drew hs _, fun j o ho hj => absurd hj (bit_zero j), fun j o ho hj => absurd hj (hno j), fun j hj => absurd hj (hno j), fun j hj => absurd hj (bit_zero j), fun j o ho hj => absurd hj (bit_zero j), fun d _ => hf.slots d, hf.size, hf.defers,
        fun j o ho hj => absurd hj (bit_zero j), fun i j hi => absurd hi.1 (bit_zero i)⟩
    obtain ⟨nm2, hinv2, hsat2⟩ := quietR_ok hd hN ops.toList 0 whole hinv (fun j p hj => absurd hj (Nat.not_lt_zero j)) hq
    refine any_ok hd hN hT hJ (Q := Q) (frF := frF) (fun c' a' w' hp hsl hsz hdf => hQ c' a' w' hp ⟨hsl, hsz, hdf⟩) ops.size (n := n) (fun k hk => hcall k (by omega)) hinv2 (by simp) (Nat.le_trans List.countP_le_length (by simp)) (fun j p hp hj hL => againR_ok ops.toList 0 whole hag j p (Nat.zero_le _) hp hj (fun e => hL (hinv2.set j e))) hsat2 ?_
    exact h
end
end Go.Proofs.YtijiggolphppbaaGreatDoor.Ev
namespace Go.Proofs.YtijiggolphppbaaGreatDoor.Ev
open Go
/-- The tables are the program's. -/
structure PrgR (P : Program) (g : Prg) (J : World → Prop) : Prop where
  tys : TysR P g
  fns : ∀ f F, g.fn f = some F → ∃ fn, P.funcs[f]? = some fn ∧ fn.body = some F.body ∧ fn.ntmps = F.ntmps ∧ fn.results.toList = F.results ∧ (fn.name == "runtime.NumGoroutine") = false ∧ codeOk g F.ntmps F.body = true
  known : ∀ f k, g.known f = some k → ∀ args σ v σ', k args σ = some (v, σ') → CallOut P J f args σ v σ'
  mixed : P.follows .mixedOrders = true
def ofX : X → Exit
  | .normal => .normal
  | .exit id => .exit id
  | .goto l => .goto l
  | .ret => .ret
section
variable {P : Program} {g : Prg} {N : Nat}
def CallsUpTo (P : Program) (g : Prg) (J : World → Prop) (n : Nat) : Prop := ∀ k, k ≤ n → ∀ f args σ v σ', call g k f args σ = some (v, σ') → CallOut P J f args σ v σ'
theorem CallsUpTo.le {J : World → Prop} {n m : Nat} (h : CallsUpTo P g J n) (hm : m ≤ n) : CallsUpTo P g J m := fun k hk => h k (Nat.le_trans hk hm)
theorem seqR_ok {J : World → Prop} (hT : TysR P g) (hN : N < MX) {ops : Array Oper} (hd : dstOk N ops.toList = true) {Q : Exit → Act → World → Prop} {frF : Fr} : ∀ (l : List Oper) (i0 : Nat), (∀ k, l[k]? = ops[i0 + k]?) → ∀ {n : Nat} {t : T AV} {σ : St} {c : Cx} {a : Act} {w : World},
    CallsUpTo P g J n → J c.W → FrR c N t a → Sim c σ w → seqR g n ops.toList l ⟨t, σ⟩ = some frF → (∀ c' a' w', Post c c' σ frF.σ w w' → FrR c' N frF.t a' → Q .normal a' w') → wpOps P ops Q (List.range' i0 l.length) a w
  | [], i0, hl, n, t, σ, c, a, w, hc, hJ, hf, hs, h, hQ => by
    cases n with
    | zero => simp [seqR] at h
    | succ n =>
      simp only [seqR, Option.some.injEq] at h
      subst h
      exact hQ c a w (Post.refl hs) hf
  | o :: l, i0, hl, n, t, σ, c, a, w, hc, hJ, hf, hs, h, hQ => by
    cases n with
    | zero => simp [seqR] at h
    | succ n =>
      simp only [seqR, bnd_eq] at h
      obtain ⟨fr, h1, h2⟩ := h
      obtain ⟨t2, σ2⟩ := fr
      cases n with
      | zero => simp [one] at h1
      | succ n =>
        have ho := head_at hl
        obtain ⟨v, rfl, hone⟩ := one_core (P := P) hT hJ (hc n (by omega)) ho h1 (hf.erel _) (fun b hb => wanted_ok (fun _ _ _ d _ _ _ => hf.slots d) hb) hs
        rw [List.length_cons, List.range'_succ, wpOps_cons]
        refine hone Q _ fun c' v' w' hp hv => ?_
        refine seqR_ok hT hN hd l (i0 + 1) (tail_at hl) (hc.le (by omega)) (by rw [hp.le.2.2.2]; exact hJ) (hf.put hp.le hv hN (fun d hdd => dstOk_ok hd i0 o d (by simpa using ho) hdd)) hp.sim h2 fun c2 a2 w2 hp2 hf2 => hQ c2 a2 w2 (hp.trans hp2) hf2
theorem code_ok {J : World → Prop} (hP : PrgR P g J) (hN : N < MX) : ∀ (n : Nat) {cd : Code} {fr : Fr} {x : X} {frF : Fr} {c : Cx} {a : Act} {w : World} {Q : Exit → Act → World → Prop}, CallsUpTo P g J n → J c.W → code g n cd fr = some (x, frF) → codeOk g N cd = true → FrR c N fr.t a → Sim c fr.σ w →
    (∀ c' a' w', Post c c' fr.σ frF.σ w w' → FrR c' N frF.t a' → Q (ofX x) a' w') → cd.wp P Q a w
  | 0, cd, fr, x, frF, c, a, w, Q, hc, hJ, h, hk, hf, hs, hQ => by simp [code] at h
  | n + 1, cd, fr, x, frF, c, a, w, Q, hc, hJ, h, hk, hf, hs, hQ => by
    have hc' : CallsUpTo P g J n := hc.le (Nat.le_succ n)
    cases cd with
    | skip =>
      simp only [code, Option.some.injEq, Prod.mk.injEq] at h
      obtain ⟨rfl, rfl⟩ := h
      exact wp_skip (hQ c a w (Post.refl hs) hf)
    | label l =>
      simp only [code, Option.some.injEq, Prod.mk.injEq] at h
      obtain ⟨rfl, rfl⟩ := h
      exact wp_label (hQ c a w (Post.refl hs) hf)
    | ret =>
      simp only [code, Option.some.injEq, Prod.mk.injEq] at h
      obtain ⟨rfl, rfl⟩ := h
      exact wp_ret (hQ c a w (Post.refl hs) hf)
    | exit id =>
      simp only [code, Option.some.injEq, Prod.mk.injEq] at h
      obtain ⟨rfl, rfl⟩ := h
      exact wp_exit (hQ c a w (Post.refl hs) hf)
    | goto l => simp [code] at h
    | rangeFunc _ _ _ _ => simp [code] at h
    | scope _ => simp [code] at h
    | refuse _ => simp [code] at h
    | region id ops draw =>
      simp only [code, bnd_eq, Option.some.injEq, Prod.mk.injEq] at h
      obtain ⟨fr2, h1, rfl, rfl⟩ := h
      simp only [codeOk, Bool.and_eq_true] at hk
      cases draw with
      | false =>
        simp only [cond_false] at h1
        refine wp_region ?_
        have := seqR_ok (Q := Q) hP.tys hN hk.1 ops.toList 0 (fun k => by simp) hc' hJ hf hs h1 hQ
        rw [List.range_eq_range']
        simpa using this
      | true =>
        simp only [cond_true] at h1 hk
        exact region_any_ok (draw_ok hk.1 hk.2) hN hP.tys hP.mixed hJ hc' hf hs h1 hQ
    | seq p q =>
      simp only [code, bnd_eq] at h
      obtain ⟨r, h1, h2⟩ := h
      simp only [codeOk, Bool.and_eq_true] at hk
      refine wp_seq (code_ok hP hN n hc' hJ h1 hk.1 hf hs fun c' a' w' hp hf' => ?_)
      obtain ⟨y, fr2⟩ := r
      cases y with
      | normal => exact code_ok hP hN n hc' (by rw [hp.le.2.2.2]; exact hJ) h2 hk.2 hf' hp.sim fun c2 a2 w2 hp2 hf2 => hQ c2 a2 w2 (hp.trans hp2) hf2
      | exit id =>
        simp only [Option.some.injEq, Prod.mk.injEq] at h2
        obtain ⟨rfl, rfl⟩ := h2
        exact hQ c' a' w' hp hf'
      | goto l =>
        simp only [Option.some.injEq, Prod.mk.injEq] at h2
        obtain ⟨rfl, rfl⟩ := h2
        exact hQ c' a' w' hp hf'
      | ret =>
        simp only [Option.some.injEq, Prod.mk.injEq] at h2
        obtain ⟨rfl, rfl⟩ := h2
        exact hQ c' a' w' hp hf'
    | cond k p q =>
      simp only [code] at h
      simp only [codeOk, Bool.and_eq_true] at hk
      have hE := hf.erel [k]
      split at h
      · rename_i e
        have hv := hE k (by simp) _ e
        refine wp_cond_true (by generalize a.eval k = z at hv ⊢; cases hv; rfl) (code_ok hP hN n hc' hJ h hk.1 hf hs hQ)
      · rename_i e
        have hv := hE k (by simp) _ e
        refine wp_cond_false (by generalize a.eval k = z at hv ⊢; cases hv; rfl) (code_ok hP hN n hc' hJ h hk.2 hf hs hQ)
      · cases h
    | block id p =>
      simp only [code, bnd_eq] at h
      obtain ⟨r, h1, h2⟩ := h
      simp only [codeOk] at hk
      refine wp_block (code_ok hP hN n hc' hJ h1 hk hf hs fun c' a' w' hp hf' => ?_)
      obtain ⟨y, fr2⟩ := r
      cases y with
      | exit j =>
        simp only [ofX, Exit.inBlock]
        by_cases e : j = id
        · simp only [e, show Nat.beq id id = true from beq_eq.2 rfl, cond_true, Option.some.injEq, Prod.mk.injEq] at h2
          obtain ⟨rfl, rfl⟩ := h2
          rw [if_pos e]
          exact hQ c' a' w' hp hf'
        · have hb : Nat.beq j id = false := by cases hb : Nat.beq j id with | false => rfl | true => exact absurd (beq_eq.1 hb) e
          simp only [hb, cond_false, Option.some.injEq, Prod.mk.injEq] at h2
          obtain ⟨rfl, rfl⟩ := h2
          rw [if_neg e]
          exact hQ c' a' w' hp hf'
      | normal =>
        simp only [Option.some.injEq, Prod.mk.injEq] at h2
        obtain ⟨rfl, rfl⟩ := h2
        exact hQ c' a' w' hp hf'
      | goto l =>
        simp only [Option.some.injEq, Prod.mk.injEq] at h2
        obtain ⟨rfl, rfl⟩ := h2
        exact hQ c' a' w' hp hf'
      | ret =>
        simp only [Option.some.injEq, Prod.mk.injEq] at h2
        obtain ⟨rfl, rfl⟩ := h2
        exact hQ c' a' w' hp hf'
    | loop p =>
      simp only [codeOk] at hk
      have key : ∀ m, m ≤ n + 1 → ∀ {fr : Fr} {c : Cx} {a : Act} {w : World}, code g m (.loop p) fr = some (x, frF) → J c.W → FrR c N fr.t a → Sim c fr.σ w → (∀ c' a' w', Post c c' fr.σ frF.σ w w' → FrR c' N frF.t a' → Q (ofX x) a' w') → Code.rounds P p Q m a w := by
        intro m
        induction m with
        | zero => intro _ fr c a w h; simp [code] at h
        | succ m ih =>
          intro hm fr c a w h hJ hf hs hQ
          simp only [code, bnd_eq] at h
          obtain ⟨r, h1, h2⟩ := h
          rw [rounds_succ]
          have hcm : CallsUpTo P g J m := hc.le (by omega)
          have : ∀ {Q' : Exit → Act → World → Prop}, (∀ c' a' w', Post c c' fr.σ r.2.σ w w' → FrR c' N r.2.t a' → Q' (ofX r.1) a' w') → p.wp P Q' a w := fun hq => by
            rcases Nat.lt_or_ge m (n + 1) with e | e
            · exact code_ok hP hN m hcm hJ h1 hk hf hs hq
            · omega
          refine this fun c' a' w' hp hf' => ?_
          obtain ⟨y, fr2⟩ := r
          cases y with
          | normal => exact ih (by omega) h2 (by rw [hp.le.2.2.2]; exact hJ) hf' hp.sim fun c2 a2 w2 hp2 hf2 => hQ c2 a2 w2 (hp.trans hp2) hf2
          | exit id =>
            simp only [Option.some.injEq, Prod.mk.injEq] at h2
            obtain ⟨rfl, rfl⟩ := h2
            exact hQ c' a' w' hp hf'
          | goto l =>
            simp only [Option.some.injEq, Prod.mk.injEq] at h2
            obtain ⟨rfl, rfl⟩ := h2
            exact hQ c' a' w' hp hf'
          | ret =>
            simp only [Option.some.injEq, Prod.mk.injEq] at h2
            obtain ⟨rfl, rfl⟩ := h2
            exact hQ c' a' w' hp hf'
      exact wp_loop_rounds (n + 1) (key (n + 1) (Nat.le_refl _) h hJ hf hs hQ)
  termination_by n => n
theorem results_ok (hT : TysR P g) {fr : Fr} {c : Cx} {a : Act} {w : World} (hf : FrR c N fr.t a) (hs : Sim c fr.σ w) {F : ResultVar → Sem Value} (hF1 : ∀ t, F (.tmp t) = pure (a.tmps.getD t undef)) (hF2 : ∀ x t, F (.cell x t) = (do loadVar t (← asAddr (a.tmps.getD x undef)))) :
    ∀ {rs : List ResultVar} {vs : List AV}, resultsA g fr rs = some vs → ∃ vals, (rs.mapM F).run P w = .ok vals w ∧ VRs c vs vals
  | [], vs, h => by
    simp only [resultsA, Option.some.injEq] at h
    subst h
    exact ⟨[], by simp, .nil⟩
  | .tmp t :: rs, vs, h => by
    simp only [resultsA, bnd_eq, Option.some.injEq] at h
    obtain ⟨r, hr, rfl⟩ := h
    obtain ⟨vals, h1, h2⟩ := results_ok hT hf hs hF1 hF2 hr
    exact ⟨a.tmps.getD t undef :: vals, by rw [List.mapM_cons, hF1]; simp only [Sem.run_bind, Sem.run_pure, Result.andThen_ok, h1], .cons (hf.slots t) h2⟩
  | .cell x ty :: rs, vs, h => by
    simp only [resultsA] at h
    split at h
    · rename_i ad e
      simp only [bnd_eq, Option.some.injEq] at h
      obtain ⟨u, hu, v, hv, r, hr, rfl⟩ := h
      obtain ⟨vals, h1, h2⟩ := results_ok hT hf hs hF1 hF2 hr
      have hp := hf.slots x
      rw [e] at hp
      simp only [Option.getD_some] at hp
      generalize hz : a.tmps.getD x undef = z at hp
      cases hp with
      | ptr n i hD =>
        obtain ⟨v', q1, q2⟩ := hs.load (P := P) (hT ty u hu) (a := (n, i)) hD hv
        refine ⟨v' :: vals, ?_, .cons q2 h2⟩
        rw [List.mapM_cons, hF2, hz]
        simp only [asAddr, Sem.run_bind, Sem.run_pure, Result.andThen_ok, q1, h1]
    · cases h
theorem call_ok {J : World → Prop} (hP : PrgR P g J) : ∀ (n : Nat), ∀ f args σ v σ', call g n f args σ = some (v, σ') → CallOut P J f args σ v σ' := by
  intro n
  induction n using Nat.strongRecOn with
  | _ n ih =>
    intro f args σ v σ' h
    cases n with
    | zero => simp [call] at h
    | succ n =>
      have hc : CallsUpTo P g J n := fun k hk => ih k (by omega)
      unfold call at h
      cases hk : g.known f with
      | some k =>
        rw [hk] at h
        exact hP.known f k hk args σ v σ' h
      | none =>
        rw [hk] at h
        simp only [bnd_eq, bif_eq, Bool.and_eq_true, blt_eq] at h
        obtain ⟨F, hF, ⟨hargs, hN⟩, r, h1, h2⟩ := h
        obtain ⟨fn, g1, g2, g3, g4, g5, g6⟩ := hP.fns f F hF
        intro c w as hJ hv hs
        right
        refine ⟨MuLone.run_callFunc_enter g1 g5 g2 as w, ?_⟩
        have hlen := hv.len
        have hmx := MX_FU
        have hfr : FrR c F.ntmps (cellsT FU 0 args .leaf) { tmps := as ++ Array.replicate (fn.ntmps - as.size) undef, defers := [] } := by
          refine ⟨fun d => ?_, by simp; omega, rfl⟩
          rw [cellsT_get args 0 .leaf d (by omega)]
          by_cases e : 0 ≤ d ∧ d < 0 + args.length
          · rw [if_pos e]
            have hd : args[d - 0]? = some (args[d]'(by omega)) := by simp
            rw [hd]
            obtain ⟨x, hx, hxv⟩ := hv.get hd
            simp only [Option.getD_some]
            have hx2 : as[d]? = some x := by simpa using hx
            have : (as ++ Array.replicate (fn.ntmps - as.size) undef).getD d undef = x := by
              rw [Array.getD_eq_getD_getElem?, Array.getElem?_append_left (by simp at hlen; omega), hx2]
              rfl
            simp only [this]
            exact hxv
          · rw [if_neg e, T.get_leaf]
            have : (as ++ Array.replicate (fn.ntmps - as.size) undef).getD d undef = undef := by
              rw [Array.getD_eq_getD_getElem?, Array.getElem?_append_right (by simp at hlen; omega), Array.getElem?_replicate]
              split <;> rfl
            simp only [this]
            exact VR.un c
        refine calls_of_wp g1 g2 (code_ok hP hN n hc hJ h1 g6 hfr hs fun c' a' w' hp hf' => ?_)
        obtain ⟨x, frF⟩ := r
        have fin : (bnd (resultsA g frF F.results) fun vs => match vs with
            | [v] => some (v, frF.σ)
            | vs => some (.tup vs, frF.σ)) = some (v, σ') → bodyPost P fn (fun e w' => ∃ v' c', e = .returned v' ∧ Post c c' σ σ' w w' ∧ VR c' v v') .ret a' w' := by
          intro h2
          rw [bnd_eq] at h2
          obtain ⟨vs, hvs, h2⟩ := h2
          rw [← g4] at hvs
          have hres : ∃ vals : List Value, (results fn a'.tmps).run P w' = .ok (if h : vals.toArray.size = 1 then vals.toArray[0] else .tuple vals.toArray) w' ∧ VRs c' vs vals := by
            have main : ∀ F : ResultVar → Sem Value, (∀ t, F (.tmp t) = pure (a'.tmps.getD t undef)) → (∀ x t, F (.cell x t) = (do loadVar t (← asAddr (a'.tmps.getD x undef)))) → ∃ vals : List Value,
                ((do let vs ← fn.results.mapM F; pure (if h : vs.size = 1 then vs[0] else .tuple vs)) : Sem Value).run P w' = .ok (if h : vals.toArray.size = 1 then vals.toArray[0] else .tuple vals.toArray) w' ∧ VRs c' vs vals := by
              intro F hF1 hF2
              obtain ⟨vals, q1, q2⟩ := results_ok (P := P) hP.tys hf' hp.sim hF1 hF2 hvs
              refine ⟨vals, ?_, q2⟩
              rw [Sem.run_bind, Array.mapM_eq_mapM_toList, Sem.run_map, q1]
              rfl
            exact main _ (fun _ => rfl) (fun _ _ => rfl)
          obtain ⟨vals, hrun, q2⟩ := hres
          refine ⟨hf'.defers, _, hrun, ?_⟩
          split at h2
          · rename_i v1
            simp only [Option.some.injEq, Prod.mk.injEq] at h2
            obtain ⟨rfl, rfl⟩ := h2
            obtain ⟨u, rfl, hu⟩ := q2.inv1
            exact ⟨_, c', rfl, hp, hu⟩
          · rename_i hne
            simp only [Option.some.injEq, Prod.mk.injEq] at h2
            obtain ⟨rfl, rfl⟩ := h2
            have hsz : vals.toArray.size ≠ 1 := by
              intro e
              have hl := q2.len
              simp only [List.size_toArray] at e
              rw [e] at hl
              obtain ⟨y, hy⟩ := List.length_eq_one_iff.1 hl
              exact hne y hy
            rw [dif_neg hsz]
            exact ⟨_, c', rfl, hp, .tup q2⟩
        cases x with
        | normal => exact fin h2
        | ret => exact fin h2
        | exit id => cases h2
        | goto l => cases h2
end
end Go.Proofs.YtijiggolphppbaaGreatDoor.Ev
