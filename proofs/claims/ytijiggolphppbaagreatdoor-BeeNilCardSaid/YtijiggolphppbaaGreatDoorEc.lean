/- The evaluator is sound: new blocks, appends, maps, built-in functions. -/
import Derived.Test.YtijiggolphppbaaGreatDoorEb
import Derived.Great.BuildSlice
import Derived.Laws.OwnMore
import Derived.Lib.ConvBytes
import Derived.Deep.AppendSrc
import Derived.Room.Entries
import Derived.Lib.AppendZeros
import Derived.Deep.Upon
namespace Go.Proofs.YtijiggolphppbaaGreatDoor.Ev
open Go
section
variable {P : Program} {g : Prg} {c : Cx} {w : World} {σ : St} {E : Operand → Option AV} {ρ : Operand → Value}
/-- A built-in's call. -/
theorem run_builtin {b : Builtin} {dst : Option Tmp} {k : Call} {type : TypeId} {pos : String} {after : Array Edge} {guard : Option (Nat × Bool)} (hc : k.callee = .builtin b) :
    (execOp ρ ⟨dst, .call k, type, pos, after, guard⟩).run P w = (builtin b k.argTypes type (k.args.map fun | .const _ => true | _ => false) (k.args.map ρ)).run P w := by
  unfold execOp
  dsimp only
  simp only [resolve, hc, Sem.run_bind, Sem.run_pure, Result.andThen_ok, invoke]
  rfl
theorem args_ok {k : Call} {l : List AV} (hE : ERel c E ρ k.operands.toList) (h : evalOs E k.args.toList = some l) : VRs c l (k.args.map ρ).toList := by
  rw [Array.toList_map]
  exact evalOs_ok (fun y hy => hE y (by simp only [Call.operands]; simp at hy ⊢; exact .inr hy)) h
theorem arr_of {as : Array Value} {l : List Value} (e : as.toList = l) : as = l.toArray := by rw [← e]
theorem read_ok (hT : TysR P g) (h : Sim c σ w) {o : Oper} {v : AV} (hE : ERel c E ρ o.op.operands.toList) (hr : readR g E σ o.op = some v) : ∃ v', (execOp ρ o).run P w = .ok (.value v') w ∧ VR c v v' := by
  obtain ⟨dst, op, type, pos, after, guard⟩ := o
  cases op <;> try (simp only [readR, reduceCtorEq] at hr; done)
  case load ty a =>
    simp only [readR, bnd_eq] at hr
    obtain ⟨u, hu, x, hx, hr⟩ := hr
    have vx := hE a (by simp [Op.operands]) x hx
    unfold execOp
    dsimp only
    generalize ρ a = va at vx ⊢
    cases vx <;> simp only [reduceCtorEq] at hr
    case ptr n i hD =>
      obtain ⟨v', h1, h2⟩ := h.load (P := P) (hT ty u hu) (a := (n, i)) hD hr
      exact ⟨v', run_v (by simpa [Instr.loadAt, Instr.sureAddr] using h1), h2⟩
  case lookup ty m k ok =>
    obtain ⟨v', h1, h2⟩ := lookup_ok (P := P) hT h (E := E) (ρ := ρ) (by simpa [Op.operands] using hE) hr
    exact ⟨v', run_v h1, h2⟩
  case slice ty x lo hi mx =>
    cases mx with
    | some _ => simp only [readR, reduceCtorEq] at hr
    | none =>
      obtain ⟨v', h1, h2⟩ := slice_arr_ok (P := P) hT h (E := E) (ρ := ρ) (by cases lo <;> cases hi <;> simpa [Op.operands] using hE) hr
      exact ⟨v', run_v h1, h2⟩
  case convert src dst x =>
    obtain ⟨v', h1, h2⟩ := convert_ok (P := P) hT h (E := E) (ρ := ρ) (by simpa [Op.operands] using hE) hr
    exact ⟨v', run_v h1, h2⟩
  case call k =>
    simp only [readR] at hr
    cases hc : k.callee <;> rw [hc] at hr <;> try (simp only [reduceCtorEq] at hr; done)
    rename_i b
    cases b <;> try (simp only [reduceCtorEq] at hr; done)
    simp only [bnd_eq] at hr
    obtain ⟨l, hl, t, ht, u, hu, hr⟩ := hr
    have hA := args_ok (by simpa [Op.operands] using hE) hl
    rw [run_builtin hc]
    generalize k.args.map ρ = as at hA ⊢
    have ht0 : k.argTypes[0]? = some t := by simpa [List.head?_eq_getElem?] using ht
    obtain ⟨d, h1, h2, h3⟩ := (hT t u hu).und
    split at hr <;> simp only [reduceCtorEq, bnd_eq, Option.some.injEq] at hr
    · rename_i hd
      rw [hd] at h2
      simp only [DR] at h2
      subst h2 hr
      obtain ⟨v0, hq, hv⟩ := hA.inv1
      rw [arr_of hq]
      cases hv <;> exact ⟨_, run_v (by simp [Builtin.len_, ht0, run_underlying h1, goInt]), .int _ _⟩
    · rename_i hd
      rw [hd] at h2
      simp only [DR] at h2
      subst h2 hr
      obtain ⟨v0, hq, hv⟩ := hA.inv1
      rw [arr_of hq]
      cases hv
      rename_i s _
      refine ⟨_, run_v (w' := w) (v := .int .i64 (bsN s).size) (by simp [Builtin.len_, ht0, run_underlying h1, goInt]), ?_⟩
      rw [bsN_size]
      exact .int _ _
    · rename_i hd
      rw [hd] at h2
      simp only [DR] at h2
      subst h2 hr
      obtain ⟨v0, hq, hv⟩ := hA.inv1
      rw [arr_of hq]
      cases hv
      exact ⟨_, run_v (by simp [Builtin.len_, ht0, run_underlying h1, goInt]), .int _ _⟩
    · rename_i hd
      rw [hd] at h2
      simp only [DR] at h2
      subst h2
      obtain ⟨m, hm, rfl⟩ := hr
      obtain ⟨v0, hq, hv⟩ := hA.inv1
      rw [arr_of hq]
      cases hv
      rename_i hD
      obtain ⟨es, clock, w1, w2, _⟩ := h.getMap hD hm
      have hlen := w2.len
      refine ⟨.int .i64 (es.size : Int), run_v (by simp [Builtin.len_, ht0, run_underlying h1, goInt, get_map w1]), ?_⟩
      rw [show (es.size : Int) = (m.length : Int) by rw [hlen]; simp]
      exact .int _ _
    · rename_i hd
      rw [hd] at h2
      simp only [DR] at h2
      subst h2 hr
      obtain ⟨v0, hq, hv⟩ := hA.inv1
      rw [arr_of hq]
      exact ⟨_, run_v (by simp [Builtin.len_, ht0, run_underlying h1, goInt]), .int _ _⟩
    · rename_i hd
      rw [hd] at h2
      simp only [DR] at h2
      subst h2
      obtain ⟨q, hq2, hr⟩ := hr
      obtain ⟨d2, k1, k2, _⟩ := (hT _ q hq2).und
      split at hr <;> simp only [reduceCtorEq, Option.some.injEq] at hr
      rename_i hd2
      rw [hd2] at k2
      simp only [DR] at k2
      subst k2 hr
      obtain ⟨v0, hq, hv⟩ := hA.inv1
      rw [arr_of hq]
      exact ⟨_, run_v (by simp [Builtin.len_, ht0, run_underlying h1, run_underlying k1, goInt]), .int _ _⟩
end
end Go.Proofs.YtijiggolphppbaaGreatDoor.Ev
namespace Go.Proofs.YtijiggolphppbaaGreatDoor.Ev
open Go
section
variable {P : Program} {g : Prg} {c : Cx} {w : World} {σ : St} {E : Operand → Option AV} {ρ : Operand → Value}
theorem rep_len (n : Nat) (z : List AV) : (rep n z).length = n * z.length := by
  induction n with
  | zero => simp [rep]
  | succ n ih => simp [rep, ih, Nat.succ_mul, Nat.add_comm]
theorem rep_one {n : Nat} {z : List AV} (h : ∀ a ∈ z, a.one = true) : ∀ a ∈ rep n z, a.one = true := by
  induction n with
  | zero => simp [rep]
  | succ n ih =>
    intro a ha
    simp only [rep, List.mem_append] at ha
    exact ha.elim (h a) (ih a)
def repV (n : Nat) (z : List Value) : List Value := match n with | 0 => [] | k + 1 => z ++ repV k z
theorem VRs.rep {z : List AV} {vz : List Value} (h : VRs c z vz) : ∀ n, VRs c (Go.Proofs.YtijiggolphppbaaGreatDoor.Ev.rep n z) (repV n vz)
  | 0 => .nil
  | n + 1 => h.append (VRs.rep h n)
theorem repV_len (n : Nat) (z : List Value) : (repV n z).length = n * z.length := by
  induction n with
  | zero => simp [repV]
  | succ n ih => simp [repV, ih, Nat.succ_mul, Nat.add_comm]
theorem repV_get (z : List Value) (hz : 0 < z.length) : ∀ (n i : Nat), i < n * z.length → (repV n z)[i]? = z[i % z.length]?
  | 0, i, h => by simp at h
  | n + 1, i, h => by
    simp only [repV]
    by_cases hi : i < z.length
    · rw [List.getElem?_append_left hi, Nat.mod_eq_of_lt hi]
    · rw [List.getElem?_append_right (by omega), repV_get z hz n (i - z.length) (by rw [Nat.add_mul, Nat.one_mul] at h; omega)]
      congr 1
      exact (Nat.mod_eq_sub_mod (by omega)).symm
theorem made_rep (z : Array Value) (n : Nat) : ((Array.range (n * z.size)).map (z[· % z.size]!)).toList = repV n z.toList := by
  apply List.ext_getElem?
  intro i
  by_cases hz : z.size = 0
  · have h1 : (repV n z.toList).length = 0 := by rw [repV_len]; simp [hz]
    rw [List.eq_nil_of_length_eq_zero h1]
    simp [hz]
  · by_cases hi : i < n * z.size
    · rw [repV_get z.toList (by simpa using Nat.pos_of_ne_zero hz) n i (by simpa using hi)]
      have hm : i % z.size < z.size := Nat.mod_lt _ (Nat.pos_of_ne_zero hz)
      simp [hi, hm]
    · rw [List.getElem?_eq_none (by simp; omega), List.getElem?_eq_none (by rw [repV_len]; simp; omega)]
theorem elemId_ok (hT : TysR P g) {ty e : TypeId} (h : elemId g ty = some e) : P.underlying ty = some (.slice e) := by
  simp only [elemId, bnd_eq] at h
  obtain ⟨u, hu, h⟩ := h
  obtain ⟨d, h1, h2, _⟩ := (hT ty u hu).und
  cases hd : u.und <;> rw [hd] at h h2 <;> simp only [DR, reduceCtorEq, Option.some.injEq] at h h2
  subst h h2
  exact h1
/-- What it gives, in a context in which the block has its name. -/
def GiveR (w : World) (k : Give) (v : Value) (sz : Nat) : Prop := match k with
  | .ptr => v = .pointer (some ⟨w.heap.size, 0, none⟩)
  | .mp => v = .map (some w.heap.size)
  | .sl n es => ∃ cap, v = .slice (some ⟨w.heap.size, 0, none⟩) n cap ∧ n ≤ cap ∧ cap * es ≤ sz
theorem GiveR.val {k : Give} {v : Value} {sz n : Nat} (h : GiveR w k v sz) {d : Cx} (hd : d.D n) (hρ : d.ρ n = (w.heap.size, 0)) (hL : d.L w.heap.size = sz) : VR d (k.val n) v := by
  cases k with
  | ptr =>
    obtain rfl := h
    have := VR.ptr (c := d) n 0 hd
    rw [hρ] at this
    exact this
  | mp =>
    obtain rfl := h
    have := VR.mp (c := d) n hd
    rw [hρ] at this
    exact this
  | sl m es =>
    obtain ⟨cap, rfl, h1, h2⟩ := h
    have := VR.sl (c := d) n 0 m es cap 0 hd h1 (.inr (by rw [hρ])) (by rw [hρ]; simp only [hL]; omega)
    rw [hρ] at this
    exact this
theorem onesB_ok : ∀ {l : List AV}, onesB l = true → ∀ a ∈ l, a.one = true
  | [], _ => by simp
  | a :: l, h => by
    simp only [onesB, Bool.and_eq_true] at h
    intro x hx
    rcases List.mem_cons.1 hx with rfl | hx
    · exact h.1
    · exact onesB_ok h.2 x hx
theorem fresh_row {l : List AV} {vs : List Value} {ty : TypeId} (hl : VRs c l vs) (h1 : ∀ a ∈ l, a.one = true) : FreshR c (.row l ty) (.cells vs.toArray ty) vs.length :=
  ⟨vs, vs.toArray, 0, 0, rfl, hl, h1, fun j v h => by simpa using h, by simp, fun i _ => by omega, by simp⟩
theorem fresh_ok (hT : TysR P g) {o : Oper} {f : Fresh} {k : Give} (hE : ERel c E ρ o.op.operands.toList) (hr : freshR g E o.op = some (f, k)) :
    ∃ v' w' ob sz, (execOp ρ o).run P w = .ok (.value v') w' ∧ NewW w w' ob ∧ FreshR c f ob sz ∧ GiveR w k v' sz := by
  obtain ⟨dst, op, type, pos, after, guard⟩ := o
  cases op <;> try (simp only [freshR, reduceCtorEq] at hr; done)
  case alloc e =>
    simp only [freshR, bnd_eq, Option.some.injEq, Prod.mk.injEq] at hr
    obtain ⟨u, hu, rfl, rfl⟩ := hr
    obtain ⟨it, z, k1, k2, k3, k4, k5, _⟩ := (hT e u hu).info
    refine ⟨_, w.alloc (.cells z.cells e), _, z.cells.toList.length, run_v (v := .pointer (some ⟨w.heap.size, 0, none⟩)) ?_, NewW.alloc w _, ?_, rfl⟩
    · simp [Instr.alloc, newVar, newRow, zeroValue, typeInfo, k1, k3]
    · have := fresh_row (ty := e) (k5 c) (hT e u hu).zone
      rw [Array.toArray_toList] at this
      exact this
  case box e x =>
    simp only [freshR, bnd_eq, bif_eq, Option.some.injEq, Prod.mk.injEq] at hr
    obtain ⟨a, ha, h1, rfl, rfl⟩ := hr
    have va := hE x (by simp [Op.operands]) a ha
    refine ⟨_, w.alloc (.cells (ρ x).cells e), _, (ρ x).cells.toList.length, run_v (v := .pointer (some ⟨w.heap.size, 0, none⟩)) ?_, NewW.alloc w _, ?_, rfl⟩
    · simp [Instr.box, newVar, newRow]
    · have := fresh_row (ty := e) va.cells (onesB_ok h1)
      rw [Array.toArray_toList] at this
      exact this
  case buildSlice ty n ps =>
    simp only [freshR, bnd_eq, bif_eq, ble_eq, Option.some.injEq, Prod.mk.injEq] at hr
    obtain ⟨e, he, u, hu, qs, hq, hn, l, hf, h1, rfl, rfl⟩ := hr
    have hul := elemId_ok hT he
    obtain ⟨it, z, k1, k2, k3, k4, k5, _⟩ := (hT e u hu).info
    have hp := evalPs_ok (c := c) (ρ := ρ) (xs := ps.toList) (by simpa [Op.operands] using hE) hq
    have hz := (k5 c).len
    have hzs : z.cells.size = it.size := by rw [k2, ← k4, hz]; simp
    have hl : (ps.map fun (i, x) => (i, ρ x)).toList = ps.toList.map fun p => (p.1, ρ p.2) := by simp
    have hrep := VRs.rep (k5 c) n
    obtain ⟨cs', q1, q2⟩ := fill_ok (place' := fun i => some (i * it.size, it.size)) (fun i p h => by simp only [k2]; exact h) hp (cs := (Array.range (n * it.size)).map (z.cells[· % z.cells.size]!)) (by
      rw [← hzs, made_rep]
      exact hrep) hf
    have hfr := fresh_row (ty := e) q2 (onesB_ok h1)
    rw [Array.toArray_toList, Array.length_toList] at hfr
    have hcs : cs'.size = n * it.size := by
      have hA := q2.len
      have hB : ∀ {place : Nat → Option (Nat × Nat)} {ps : List (Nat × AV)} {l l' : List AV}, fillR place l ps = some l' → l'.length = l.length := by
        intro place ps
        induction ps with
        | nil => intro l l' h; simp [fillR] at h; rw [h]
        | cons p ps ih =>
          intro l l' h
          simp only [fillR, bnd_eq, bif_eq] at h
          obtain ⟨_, _, _, h⟩ := h
          rw [ih h, setAt_len]
      have hC := hB hf
      rw [rep_len, k4] at hC
      simp only [Array.length_toList] at hA
      rw [← hA, hC, k2]
    refine ⟨_, w.alloc (.cells cs' e), _, _, run_v (v := .slice (some ⟨w.heap.size, 0, none⟩) n n) ?_, NewW.alloc w _, hfr, n, rfl, Nat.le_refl _, by rw [hcs, k2]; exact Nat.le_refl _⟩
    by_cases h0 : n * it.size = 0
    · have hcs0 : (Array.range (n * it.size)).map (z.cells[· % z.cells.size]!) = #[] := by rw [h0]; simp
      rw [hcs0] at q1
      have hs : ¬ n * it.size > 2 ^ 24 := by omega
      have h00 : n = 0 ∨ it.size = 0 := Nat.mul_eq_zero.1 h0
      rw [← hl] at q1
      rcases h00 with h00 | h00
      · subst h00
        simp at q1
        simp [Instr.buildSlice, run_underlying hul, sizeOf, typeInfo, k1, q1, newRow, Array.range_zero']
      · rw [h00] at q1
        simp at q1
        simp [Instr.buildSlice, run_underlying hul, sizeOf, typeInfo, k1, h00, q1, newRow, Array.range_zero']
    · exact run_buildSlice w ty e n _ cs' it z hul k1 k3 (by rw [k2]; omega) h0 (by rw [hl]; exact q1)
  case makeSlice ty l n =>
    simp only [freshR, bnd_eq, bif_eq, Bool.and_eq_true, ble_eq, Option.some.injEq, Prod.mk.injEq] at hr
    obtain ⟨e, he, u, hu, al, hal, ac, hac, nl, hnl, nc, hnc, ⟨⟨h1, h2⟩, h3⟩, rfl, rfl⟩ := hr
    have hul := elemId_ok hT he
    obtain ⟨it, z, k1, k2, k3, k4, k5, _⟩ := (hT e u hu).info
    obtain ⟨it2, m1, m2⟩ := (hT e u hu).bytes
    rw [k1] at m1
    simp only [Option.some.injEq] at m1
    subst m1
    have va := hE l (by simp [Op.operands]) al hal
    have vb := hE n (by simp [Op.operands]) ac hac
    obtain ⟨kl, el⟩ := asNat_ok va hnl
    obtain ⟨kc, ec⟩ := asNat_ok vb hnc
    have hz := (k5 c).len
    have hzs : z.cells.size = it.size := by rw [k2, ← k4, hz]; simp
    have hb : it.bytes * nc ≤ 1000000 * 1000000 := Nat.mul_le_mul (by rw [m2]; exact h3) h2
    have hrun := run_make (P := P) w ty e it z hul k1 k3 kl kc (nl : Int) (nc : Int) (by omega) (by omega) (by
      rw [← Int.natCast_mul]; omega) (by omega)
    simp only [Int.toNat_natCast] at hrun
    have hmr : (madeCells z.cells (nc * it.size)).toList = repV nc z.cells.toList := by
      rw [← hzs]; exact made_rep z.cells nc
    have hfr := fresh_row (ty := e) (VRs.rep (k5 c) nc) (rep_one (hT e u hu).zone)
    rw [← hmr, Array.toArray_toList, Array.length_toList] at hfr
    refine ⟨_, w.alloc (.cells (madeCells z.cells (nc * it.size)) e), _, _, run_v (v := .slice (some ⟨w.heap.size, 0, none⟩) nl nc) ?_, NewW.alloc w _, hfr, nc, rfl, h1, by rw [size_madeCells, k2]; exact Nat.le_refl _⟩
    rw [el, ec]
    exact hrun
  case makeMap ty r =>
    simp only [freshR, bnd_eq] at hr
    obtain ⟨r', hr', q, hq, hr⟩ := hr
    obtain ⟨kt, et, d, h1, _⟩ := keyTy_ok hT hq
    have hv := opt_ok (c := c) (ρ := ρ) (x := r) (by intro y hy; exact hE y (by simpa [Op.operands] using hy)) hr'
    have hfr : FreshR c .map (.map #[] 0) 0 := ⟨rfl, rfl⟩
    split at hr <;> simp only [reduceCtorEq, Option.some.injEq, Prod.mk.injEq] at hr
    · obtain ⟨rfl, rfl⟩ := hr
      refine ⟨_, w.alloc (.map #[] 0), _, _, run_v (v := .map (some w.heap.size)) ?_, NewW.alloc w _, hfr, rfl⟩
      generalize r.map ρ = rv at hv ⊢
      cases hv
      simp [Instr.makeMap]
    · obtain ⟨rfl, rfl⟩ := hr
      refine ⟨_, w.alloc (.map #[] 0), _, _, run_v (v := .map (some w.heap.size)) ?_, NewW.alloc w _, hfr, rfl⟩
      generalize r.map ρ = rv at hv ⊢
      cases hv with
      | some h => cases h; simp [Instr.makeMap, run_underlying h1, asInt, asIntOf]
  case convert src dst x =>
    simp only [freshR, bnd_eq] at hr
    obtain ⟨a, ha, s, hs, u, hu, hr⟩ := hr
    have va := hE x (by simp [Op.operands]) a ha
    unfold execOp
    dsimp only
    generalize ρ x = vx at va ⊢
    obtain ⟨d, h1, h2, h3⟩ := (hT dst u hu).und
    obtain ⟨d2, h4, h5, h6⟩ := (hT src s hs).und
    split at hr <;> simp only [reduceCtorEq, bnd_eq] at hr
    rename_i e st e1 e2
    rw [e1] at h5
    rw [e2] at h2
    simp only [DR] at h2 h5
    subst h2 h5
    obtain ⟨q, hq, hr⟩ := hr
    obtain ⟨d3, k1, k2, _⟩ := (hT _ q hq).und
    split at hr <;> simp only [reduceCtorEq, bif_eq, beq_eq, Option.some.injEq, Prod.mk.injEq] at hr
    rename_i e3
    rw [e3] at k2
    simp only [DR] at k2
    subst k2
    obtain ⟨hsz, rfl, rfl⟩ := hr
    cases va
    rename_i hst
    have hcl : (Lib.bytesCells w e (bsN st)).size = grownCap w st.length 0 e := by
      have := grownCap_ge w st.length 0 e
      simp [Lib.bytesCells, bsN_size]
      have h5 : (bsN st).data.size = st.length := by simp [bsN]
      omega
    refine ⟨_, Lib.bytesWorld w e (bsN st), .cells (Lib.bytesCells w e (bsN st)) e ((Lib.bytesCells w e (bsN st)).size, (Lib.bytesCells w e (bsN st)).size + 1), (Lib.bytesCells w e (bsN st)).size, run_v (Lib.run_convert_string_bytes w src dst e (bsN st) h4 h1 k1), ⟨?_, rfl, rfl, rfl⟩, ?_, ?_⟩
    · apply Array.ext_getElem?
      intro j
      rw [Array.getElem?_push]
      by_cases e4 : j = w.heap.size
      · subst e4
        rw [if_pos rfl]
        exact Lib.bytesWorld_at_new w e (bsN st)
      · rw [if_neg e4]
        by_cases e5 : j < w.heap.size
        · exact Lib.bytesWorld_at_old w e (bsN st) j e5
        · rw [Array.getElem?_eq_none (by rw [Lib.bytesWorld_size]; omega), Array.getElem?_eq_none (by omega)]
    · have hvs : VRs c (st.map fun b : Nat => AV.int .u8 (b : Int)) (st.map fun b : Nat => Value.int .u8 (b : Int)) := by
        clear hst hcl ha
        induction st with
        | nil => exact .nil
        | cons b st ih => exact .cons (.int _ _) ih
      refine ⟨_, _, _, _, rfl, hvs, fun a ha => ?_, fun j v hj => ?_, ?_, fun i hi => by omega, rfl⟩
      · obtain ⟨b, _, rfl⟩ := List.mem_map.1 ha
        rfl
      · rw [List.getElem?_map] at hj
        cases hb : st[j]? with
        | none => rw [hb] at hj; cases hj
        | some b =>
          rw [hb] at hj
          simp only [Option.map_some, Option.some.injEq] at hj
          subst hj
          have hlt := (List.getElem?_eq_some_iff.1 hb).1
          have hb2 : b < 256 := hst b (List.mem_of_getElem? hb)
          have h7 := Lib.bytesWorld_cell w e (bsN st) j (by rw [bsN_size]; exact hlt)
          simp only [World.cell?, Lib.bytesWorld_at_new] at h7
          simp only [Option.isSome_none, Bool.false_eq_true, if_false] at h7
          rw [h7, bsN_data]
          simp [List.getD_eq_getElem?_getD, hb]
          omega
      · simp only [List.length_map]
        rw [hcl]
        exact grownCap_ge _ _ _ _
    · exact ⟨grownCap w (bsN st).size 0 e, by rw [bsN_size], by have := grownCap_ge w (bsN st).size 0 e; rw [bsN_size] at this ⊢; exact this, by rw [hcl, bsN_size]; omega⟩
end
end Go.Proofs.YtijiggolphppbaaGreatDoor.Ev
namespace Go.Proofs.YtijiggolphppbaaGreatDoor.Ev
open Go
section
variable {P : Program} {g : Prg} {c : Cx} {w w1 : World} {σ σ1 σ2 : St} {E : Operand → Option AV} {ρ : Operand → Value}
theorem oneCell_eq (v : Value) (h : v.oneCell = true) : v.oneCell' = true := by cases v <;> first | rfl | cases h
/-- A row that is appended to where it lies: its elder name is let go. -/
theorem Sim.onto (h : Sim c σ w) {b n : Nat} (hD : c.D b) {k : Nat} {t : T AV} {ty : TypeId} (hg : σ.heap.get b = some (.cells k t ty)) {l : List AV} (hf : newF (Go.Proofs.YtijiggolphppbaaGreatDoor.Ev.kill σ b) (.row l ty) = some (n, σ2))
    {cs : Array Value} {lo hi : Nat} (hb : w1.heap[(c.ρ b).1]? = some (.cells cs ty (lo, hi))) (hsz : c.L (c.ρ b).1 = cs.size) (hfr : ∀ i, i < cs.size → ¬ (lo ≤ i ∧ i < hi)) {vs : List Value} (hl : VRs c l vs) (h1 : ∀ a ∈ l, a.one = true)
    (hvs : ∀ (j : Nat) (v : Value), vs[j]? = some v → cs[j]? = some v) (hle : vs.length ≤ cs.size)
    (hs : w1.heap.size = w.heap.size) (hk : ∀ x, x ≠ (c.ρ b).1 → w1.heap[x]? = w.heap[x]?) (hos : w1.os = w.os) (ht : w1.tape = w.tape) (hout : w1.output = w.output) :
    Post c (c.more n (c.ρ b).1 0 (c.L (c.ρ b).1)) σ σ2 w w1 := by
  have kp := h.killP hD hg rfl hs hk hos ht hout
  have ks := kp.sim
  have kg := kill_get h hD
  obtain ⟨ao, e1, e2, e3, e4, e5, e6⟩ := newF_some hf
  have e2' : n = σ.nx := e2
  have hnD : ¬ c.D n := fun e => by have := h.nx _ e; omega
  have hbl := h.blk hD hg rfl
  have hle2 : c.le (c.more n (c.ρ b).1 0 (c.L (c.ρ b).1)) := c.more_le hnD (Nat.le_refl _)
  have hold : ∀ m, c.D m → m ≠ n := fun m hm e => hnD (e ▸ hm)
  have hρ : ∀ m, c.D m → (c.more n (c.ρ b).1 0 (c.L (c.ρ b).1)).ρ m = c.ρ m := fun m hm => if_neg (hold m hm)
  have hL : ∀ x, (c.more n (c.ρ b).1 0 (c.L (c.ρ b).1)).L x = c.L x := fun x => by
    show (if x = (c.ρ b).1 then c.L (c.ρ b).1 else c.L x) = c.L x
    by_cases e : x = (c.ρ b).1
    · rw [if_pos e, e]
    · rw [if_neg e]
  have hN := c.more_ρ n (c.ρ b).1 0 (c.L (c.ρ b).1)
  have hnx : (Go.Proofs.YtijiggolphppbaaGreatDoor.Ev.kill σ b).nx = σ.nx := rfl
  have alive2 : ∀ m o, m ≠ n → σ2.heap.get m = some o → o.alive = true → m ≠ b ∧ σ.heap.get m = some o := by
    intro m o hmn ho ha
    rw [e6 m hmn, kg] at ho
    by_cases e : m = b
    · rw [if_pos e] at ho; cases ho; cases ha
    · rw [if_neg e] at ho; exact ⟨e, ho⟩
  have sim : Sim (c.more n (c.ρ b).1 0 (c.L (c.ρ b).1)) σ2 w1 := by
    refine ⟨?_, by omega, ?_, ?_, ?_, ?_, ?_, ks.base, ?_⟩
    · rintro m (hm | rfl)
      · have := h.nx m hm; omega
      · omega
    · intro x hx
      rw [hL]
      exact h.top x (by omega)
    · intro m m2 o1 p hm hm2 ho hp ha hpa he
      by_cases q1 : m = n
      · by_cases q2 : m2 = n
        · rw [q1, q2]
        · exfalso
          have hd2 : c.D m2 := hm2.resolve_right q2
          obtain ⟨r1, r2⟩ := alive2 m2 p q2 hp hpa
          rw [q1, hN, hρ m2 hd2] at he
          exact r1 (h.inj b m2 _ p hD hd2 hg r2 rfl hpa he).symm
      · have hd1 : c.D m := hm.resolve_right q1
        obtain ⟨r1, r2⟩ := alive2 m o1 q1 ho ha
        by_cases q2 : m2 = n
        · exfalso
          rw [q2, hN, hρ m hd1] at he
          exact r1 (h.inj m b o1 _ hd1 hD r2 hg ha rfl he)
        · have hd2 : c.D m2 := hm2.resolve_right q2
          obtain ⟨r3, r4⟩ := alive2 m2 p q2 hp hpa
          rw [hρ m hd1, hρ m2 hd2] at he
          exact h.inj m m2 o1 p hd1 hd2 r2 r4 ha hpa he
    · intro m k2 t2 ty2 hm ho
      by_cases q1 : m = n
      · subst q1
        rw [e5] at ho
        simp only [Fresh.obj, bif_eq] at e1
        obtain ⟨hb2, e1⟩ := e1
        simp only [Option.some.injEq] at e1 ho
        subst e1
        simp only [AO.cells.injEq] at ho
        obtain ⟨rfl, rfl, rfl⟩ := ho
        have hb3 := lt_MX hb2
        have hlen := hl.len
        rw [hN]
        refine ⟨cs, lo, hi, hb, by rw [hL]; exact hsz, Nat.le_of_lt hb3.1, by simp only; omega, hfr, fun i a hi => ?_⟩
        rw [cellsT_get l 0 .leaf i (by omega)] at hi
        by_cases h5 : 0 ≤ i ∧ i < 0 + l.length
        · rw [if_pos h5] at hi
          simp only [Nat.sub_zero] at hi
          obtain ⟨v, hv, hav⟩ := hl.get hi
          exact ⟨by omega, v, by simpa using hvs _ _ hv, hav.mono hle2, h1 a (List.mem_of_getElem? hi)⟩
        · rw [if_neg h5, T.get_leaf] at hi
          cases hi
      · have hd1 : c.D m := hm.resolve_right q1
        rw [e6 m q1] at ho
        obtain ⟨cs2, lo2, hi2, g1, g2, gk, g3, g4, g5⟩ := ks.cells _ _ _ _ hd1 ho
        rw [hρ m hd1]
        refine ⟨cs2, lo2, hi2, g1, by rw [hL]; exact g2, gk, g3, g4, fun i a hi => ?_⟩
        obtain ⟨q1, v, q2, q3, q4⟩ := g5 i a hi
        exact ⟨q1, v, q2, q3.mono hle2, q4⟩
    · rintro m (hm | rfl)
      · rw [hρ m hm]; exact h.zero m hm
      · rw [hN]
    · intro m l2 hm ho
      by_cases q1 : m = n
      · subst q1
        rw [e5] at ho
        simp only [Fresh.obj, bif_eq] at e1
        obtain ⟨hb2, e1⟩ := e1
        simp only [Option.some.injEq] at e1 ho
        subst e1
        cases ho
      · have hd1 : c.D m := hm.resolve_right q1
        rw [e6 m q1] at ho
        obtain ⟨es, clock, g1, g2⟩ := ks.maps _ _ hd1 ho
        rw [hρ m hd1]
        exact ⟨es, clock, g1, g2.1.mono hle2, g2.2⟩
    · rintro m (hm | rfl)
      · rw [hρ m hm]; exact h.far m hm
      · rw [hN]; exact h.far b hD
  refine ⟨hle2, sim, by omega, ?_, fun m hm hd => ?_, hos, ht, hout, by omega, kp.block, ?_⟩
  · rintro m (hm | rfl)
    · exact .inl hm
    · exact .inr (by omega)
  · have e : m ≠ b := fun e => hd (by rw [e]; exact hD)
    rw [e6 m (by omega), kg, if_neg e]
  · intro m o hm ho ha
    by_cases q1 : m = n
    · right
      exact ⟨b, _, hD, hg, rfl, by rw [q1, hN]⟩
    · have hd1 : c.D m := hm.resolve_right q1
      obtain ⟨r1, r2⟩ := alive2 m o q1 ho ha
      exact .inr ⟨m, o, hd1, r2, ha, by rw [hρ m hd1]⟩
theorem loadN_len {a : Nat × Nat} {n : Nat} {l : List AV} (hl : loadN σ a n = some l) : l.length = n := by
  unfold loadN at hl
  cases hg : σ.heap.get a.1 with
  | none => rw [hg] at hl; cases hl
  | some o =>
    rw [hg] at hl
    cases o with
    | cells k t ty => exact (readN_some hl).1
    | map _ => cases hl
    | dead => cases hl
theorem str_cells : ∀ {s : List Nat}, (∀ b ∈ s, b < 256) → VRs c (s.map fun b : Nat => AV.int .u8 (b : Int)) (byteCells (bsN s)) := by
  intro s hs
  unfold byteCells
  rw [bsN_data]
  induction s with
  | nil => exact .nil
  | cons b s ih =>
    refine .cons ?_ (ih (fun x hx => hs x (by simp [hx])))
    have : (UInt8.ofNat b).toNat = b := by
      have := hs b (by simp)
      rw [UInt8.toNat_ofNat', Nat.mod_eq_of_lt (by simpa using this)]
    show VR c (AV.int .u8 (b : Int)) (Value.int .u8 ((UInt8.ofNat b).toNat : Int))
    rw [this]
    exact .int _ _
/-- What is appended. -/
theorem firstN_ok (hT : TysR P g) (h : Sim c σ w) {x : AV} {vx : Value} (hx : VR c x vx) {u1 : Ty} {tx : TypeId} (hu1 : g.ty tx = some u1) {m size : Nat} (hm : countOf u1 x = some m) (hni : ∀ k n, x ≠ .int k n) {l : List AV} (hl : firstN σ size m x = some l) (hs : ∀ s, x = .str s → size = 1) :
    ∃ vs, VRs c l vs ∧ (∀ a ∈ l, a.one = true) ∧ Src P size tx vx m vs w := by
  obtain ⟨d, h1, h2, h3⟩ := (hT tx u1 hu1).und
  unfold countOf at hm
  cases hx <;> simp only [firstN, reduceCtorEq] at hl
  case sl0 es =>
    cases hd : u1.und <;> rw [hd] at hm h2 <;> simp only [reduceCtorEq, DR, Option.some.injEq] at hm h2
    subst hm h2
    simp only [Option.some.injEq] at hl
    subst hl
    exact ⟨[], .nil, by simp, Src.ofNil w h1 _⟩
  case sl n i len es cap off hD hc ho hL =>
    cases hd : u1.und <;> rw [hd] at hm h2 <;> simp only [reduceCtorEq, DR, Option.some.injEq] at hm h2
    subst hm h2
    obtain ⟨vs, g1, g2, g3⟩ := h.range hD hl
    have hlen := loadN_len hl
    refine ⟨vs, g1, g3, Src.ofSlice w h1 _ _ _ vs (by rw [← g1.len]; exact hlen) (fun j u hj => ?_) (fun u hu => oneCell_eq u (g1.ones g3 u hu))⟩
    have hj2 := (List.getElem?_eq_some_iff.1 hj).1
    rw [← g1.len, hlen] at hj2
    rcases VR.off0 hc ho with e0 | rfl
    · rw [e0, Nat.zero_mul] at hj2; omega
    · rw [add_spot]
      exact g2 j u hj
  case str s hb =>
    cases hd : u1.und <;> rw [hd] at hm h2 <;> simp only [reduceCtorEq, DR, Option.some.injEq] at hm h2
    subst hm h2
    simp only [Option.some.injEq, List.take_length] at hl
    subst hl
    obtain rfl := hs _ rfl
    have hsz := bsN_size s
    refine ⟨byteCells (bsN s), str_cells hb, fun a ha => ?_, by rw [← hsz]; exact Src.ofString w h1 (bsN s)⟩
    obtain ⟨b, _, rfl⟩ := List.mem_map.1 ha
    rfl
end
end Go.Proofs.YtijiggolphppbaaGreatDoor.Ev
namespace Go.Proofs.YtijiggolphppbaaGreatDoor.Ev
open Go
section
variable {P : Program} {g : Prg} {c : Cx} {w w1 : World} {σ σ1 σ2 : St} {E : Operand → Option AV} {ρ : Operand → Value}
theorem append_types {A : Array TypeId} {t t1 ty : TypeId} {args : Array Value} (h0 : A[0]? = some t) (h1 : A[1]? = some t1) : Builtin.append_ A ty args = Builtin.append_ #[t, t1] ty args := by
  simp only [Builtin.append_, h0, h1]
  rfl
theorem zeroCells_size (z : Array Value) (n : Nat) : (Builtin.zeroCells z n).size = n * z.size := by simp [Builtin.zeroCells]
/-- A grown row. -/
theorem grown_ok (h : Sim c σ w) {l : List AV} {e : TypeId} {nm : Nat} (hf : newF σ (.row l e) = some (nm, σ2)) {vs : List Value} (hl : VRs c l vs) (h1 : ∀ a ∈ l, a.one = true) (rest : Array Value) (need cap es : Nat) (hn : need ≤ cap) (hsz : cap * es ≤ vs.length + rest.size) :
    ∃ c', Post c c' σ σ2 w (w.drew.alloc (.cells (vs.toArray ++ rest) e)) ∧ VR c' (.sl (some (nm, 0)) need es) (.slice (some ⟨w.heap.size, 0, none⟩) need cap) := by
  have hr : FreshR c (.row l e) (.cells (vs.toArray ++ rest) e) (vs.toArray ++ rest).size :=
    ⟨vs, vs.toArray ++ rest, 0, 0, rfl, hl, h1, fun j v hj => by
      have hj2 := (List.getElem?_eq_some_iff.1 hj).1
      rw [Array.getElem?_append_left (by simpa using hj2)]
      simpa using hj, by simp, fun i _ => by omega, rfl⟩
  have hw : NewW w (w.drew.alloc (.cells (vs.toArray ++ rest) e)) (.cells (vs.toArray ++ rest) e) := ⟨rfl, rfl, rfl, rfl⟩
  have hp := h.fresh hf hr hw
  have hg : GiveR w (.sl need es) (.slice (some ⟨w.heap.size, 0, none⟩) need cap) (vs.toArray ++ rest).size := ⟨cap, rfl, hn, by simpa using hsz⟩
  exact ⟨_, hp, hg.val (Cx.more_D _ _ _ _ _) (Cx.more_ρ _ _ _ _ _) (Cx.more_L _ _ _ _ _)⟩
theorem append_ok (hT : TysR P g) (h : Sim c σ w) {A : Array TypeId} {ty : TypeId} {x : AV} {v0 v1 : Value} {a : Option (Nat × Nat)} {n es : Nat} {r : R} (hv0 : VR c (.sl a n es) v0) (hv1 : VR c x v1) (hr : builtinR g σ .append A.toList [.sl a n es, x] = some r) :
    ∃ v σ' v' w' c', r = .val v σ' ∧ (Builtin.append_ A ty #[v0, v1]).run P w = .ok v' w' ∧ Post c c' σ σ' w w' ∧ VR c' v v' := by
  simp only [builtinR, bnd_eq, bif_eq, Bool.and_eq_true, ble_eq] at hr
  obtain ⟨t, ht, e, he, u, hu, t1, ht1, u1, hu1, m, hm, ⟨⟨hes, hnm⟩, hby⟩, old, hold, new, hnew, hr⟩ := hr
  have hA0 : A[0]? = some t := by simpa [List.head?_eq_getElem?] using ht
  have hA1 : A[1]? = some t1 := by simpa using ht1
  rw [append_types hA0 hA1]
  have hul := elemId_ok hT he
  obtain ⟨it, z, k1, k2, k3, k4, k5, _⟩ := (hT e u hu).info
  obtain ⟨it2, m1, m2⟩ := (hT e u hu).bytes
  rw [k1] at m1
  simp only [Option.some.injEq] at m1
  subst m1
  have hz := (k5 c).len
  have hzs : z.cells.size = it.size := by rw [k2, ← k4, hz]; simp
  have hfit : ∀ cap, cap < n + m → Builtin.nextslicecap (n + m) cap * it.bytes ≤ 281474976710656 := by
    intro cap hc
    have h1 := Room.nextslicecap_le' hc
    have h2 : Builtin.nextslicecap (n + m) cap * it.bytes ≤ (2 * (n + m)) * 1000000 := Nat.mul_le_mul h1 (by rw [m2]; exact hby)
    omega
  by_cases hint : ∃ k i, x = .int k i
  · obtain ⟨k, i, rfl⟩ := hint
    cases hv1
    cases a with
    | some b => simp only [newN, reduceCtorEq] at hnew
    | none =>
      cases hv0
      simp only [newN, bif_eq', Bool.or_eq_false_iff, Option.some.injEq] at hnew
      obtain ⟨⟨hm0, hs0⟩, rfl⟩ := hnew
      have hm1 : 0 < m := by
        rcases Nat.eq_zero_or_pos m with e0 | e0
        · rw [e0] at hm0; cases hm0
        · exact e0
      have hs1 : 0 < it.size := by
        rw [k2]
        rcases Nat.eq_zero_or_pos u.size with e0 | e0
        · rw [e0] at hs0; cases hs0
        · exact e0
      unfold countOf at hm
      obtain ⟨d1, q1, q2, _⟩ := (hT t1 u1 hu1).und
      cases hd : u1.und <;> rw [hd] at hm q2 <;> simp only [reduceCtorEq, DR, bif_eq', Option.some.injEq, Bool.or_eq_false_iff, decide_eq_false_iff_not] at hm q2
      subst q2
      obtain ⟨⟨i1, i2⟩, rfl⟩ := hm
      have hi : (i.toNat : Int) = i := by omega
      have hrun := Lib.run_append_nil_zeros (P := P) w t t1 ty e it z k _ hul q1 k1 k3 i.toNat hm1 hs1 (by omega) (by
        have : i.toNat * it.bytes ≤ 1000000 * 1000000 := Nat.mul_le_mul (by omega) (by rw [m2]; exact hby)
        omega)
      rw [hi] at hrun
      cases hq : i.toNat with
      | zero => omega
      | succ j =>
        rw [hq] at hr hrun
        simp only [appendR, bnd_eq] at hr
        obtain ⟨p, hp, hr⟩ := hr
        simp only [V, Option.some.injEq] at hr
        have hrep := VRs.rep (k5 c) (j + 1)
        have hmr : (Builtin.zeroCells z.cells (j + 1)).toList = repV (j + 1) z.cells.toList := made_rep z.cells (j + 1)
        obtain ⟨c', g1, g2⟩ := grown_ok h (w := w) (σ2 := p.2) (nm := p.1) (by exact hp) hrep (rep_one (hT e u hu).zone) (Builtin.zeroCells z.cells (grownCap w (j + 1) 0 e - (j + 1))) (j + 1) (grownCap w (j + 1) 0 e) u.size (grownCap_ge _ _ _ _) (by
          rw [repV_len, zeroCells_size, hzs, Array.length_toList, hzs, k2, ← Nat.add_mul]
          have := grownCap_ge w (j + 1) 0 e
          rw [show j + 1 + (grownCap w (j + 1) 0 e - (j + 1)) = grownCap w (j + 1) 0 e by omega]
          exact Nat.le_refl _)
        rw [← hmr, Array.toArray_toList] at g1
        refine ⟨_, p.2, _, _, c', hr.symm, hrun, g1, ?_⟩
        rw [Nat.zero_add]
        exact g2
  · have hni : ∀ k i, x ≠ .int k i := fun k i e => hint ⟨k, i, e⟩
    have hstr : ∀ s, x = .str s → u.size = 1 := by
      rintro s rfl
      simp only [newN, bif_eq, beq_eq] at hnew
      exact hnew.1
    have hnew2 : firstN σ u.size m x = some new := by
      cases x <;> first | exact hnew | exact absurd rfl (hni _ _) | (rw [hstr _ rfl]; simp only [newN, bif_eq] at hnew; exact hnew.2)
    clear hnew
    have hsrc := fun hsz => firstN_ok (P := P) hT h hv1 hu1 hm hni hnew2 hsz
    obtain ⟨vn, n1, n2, n3⟩ := hsrc hstr
    rw [← k2] at n3
    have hvnl := n3.newsLen
    cases a with
    | none =>
      cases hv0
      simp only [firstN, Option.some.injEq] at hold
      subst hold
      simp only [Nat.zero_add] at hnm hfit
      cases m with
      | zero =>
        simp only [appendR, V, Option.some.injEq] at hr
        have hvn : vn = [] := List.eq_nil_of_length_eq_zero (by rw [hvnl]; simp)
        subst hvn
        exact ⟨_, σ, _, w, c, hr.symm, run_append_nothing w t t1 ty e it hul k1 none 0 0 (Nat.le_refl _) v1 n3, Post.refl h, .sl0 _⟩
      | succ j =>
        simp only [appendR, bnd_eq] at hr
        obtain ⟨p, hp, hr⟩ := hr
        simp only [V, Option.some.injEq] at hr
        have hrun := run_append_grow_src w t t1 ty e it z hul k1 k3 none 0 0 [] (by simp [Builtin.firstCells]) v1 (j + 1) vn n3 (by omega) (by omega) (by simpa using hfit 0 (by omega))
        obtain ⟨c', g1, g2⟩ := grown_ok h (w := w) (σ2 := p.2) (nm := p.1) (by exact hp) n1 n2 (Builtin.zeroCells z.cells (grownCap w (j + 1) 0 e - (j + 1))) (j + 1) (grownCap w (j + 1) 0 e) u.size (grownCap_ge _ _ _ _) (by
          rw [hvnl, zeroCells_size, hzs, k2, ← Nat.add_mul]
          have := grownCap_ge w (j + 1) 0 e
          rw [show j + 1 + (grownCap w (j + 1) 0 e - (j + 1)) = grownCap w (j + 1) 0 e by omega]
          exact Nat.le_refl _)
        simp only [Nat.zero_add, List.nil_append] at hrun
        refine ⟨_, p.2, _, _, c', hr.symm, hrun, g1, ?_⟩
        rw [Nat.zero_add]
        exact g2
    | some b =>
      obtain ⟨bn, bi⟩ := b
      simp only [appendR] at hr
      cases hg : σ.heap.get bn with
      | none => rw [hg] at hr; cases hr
      | some o =>
        rw [hg] at hr
        cases o with
        | map _ => cases hr
        | dead => cases hr
        | cells k0 tr ty2 =>
          simp only [bif_eq, Bool.and_eq_true, beq_eq, bnd_eq] at hr
          obtain ⟨⟨rfl, rfl⟩, p, hp, hr⟩ := hr
          simp only [V, Option.some.injEq] at hr
          simp only [beq_eq] at hes
          subst hes
          cases hv0 with
          | sl _ _ _ _ cap off hD hc ho hL =>
            obtain ⟨vo, o1, o2, o3⟩ := h.range hD hold
            have hol := loadN_len hold
            have hvol : vo.length = n * u.size := by rw [← o1.len, hol]
            have h0 := h.zero bn hD
            simp only at o2
            have hcells : ∀ (j : Nat) (v : Value), vo[j]? = some v → w.cell? ((⟨(c.ρ bn).1, off, none⟩ : Addr).add j) = some v := by
              intro j v hj
              have hj2 := (List.getElem?_eq_some_iff.1 hj).1
              rcases VR.off0 hc ho with e0 | rfl
              · rw [hvol, e0, Nat.zero_mul] at hj2; omega
              · rw [add_spot]
                exact o2 j v hj
            have hl := o1.append n1
            have hones : ∀ a ∈ old ++ new, a.one = true := fun a ha => (List.mem_append.1 ha).elim (o3 a) (n2 a)
            by_cases hroom : n + m ≤ cap
            · obtain ⟨cs, lo, hi, g1, g2, g3, g4, g5, g6⟩ := h.cells _ _ _ _ hD hg
              have hoff : cap = 0 ∨ off = 0 := by rcases ho with ho | ho; exact .inl ho; exact .inr (by omega)
              have hfits : (n + m) * u.size ≤ cs.size := by
                have := Nat.mul_le_mul_right u.size hroom
                omega
              have hvl : vo.length + vn.length = (n + m) * u.size := by rw [hvol, hvnl, k2, Nat.add_mul]
              rcases hoff with hc0 | hc0
              · subst hc0
                have e1 : n = 0 := by omega
                have e2 : m = 0 := by omega
                subst e1 e2
                have hvn : vn = [] := List.eq_nil_of_length_eq_zero (by rw [hvnl]; simp)
                have hvo : vo = [] := List.eq_nil_of_length_eq_zero (by rw [hvol]; simp)
                subst hvn hvo
                have hrun := run_append_nothing w t t1 ty ty2 it hul k1 (some ⟨(c.ρ bn).1, off, none⟩) 0 0 (Nat.le_refl _) v1 n3
                have hpost := h.onto hD hg (n := p.1) (σ2 := p.2) hp g1 g2 g5 hl hones (fun j v hj => by simp at hj) (by simp) rfl (fun _ _ => rfl) rfl rfl rfl
                refine ⟨_, p.2, _, w, _, hr.symm, hrun, hpost, ?_⟩
                have := VR.sl (c := c.more p.1 (c.ρ bn).1 0 (c.L (c.ρ bn).1)) p.1 0 0 u.size 0 off (Cx.more_D _ _ _ _ _) (Nat.le_refl _) (.inl rfl) (by rw [Cx.more_ρ]; simp)
                rw [Cx.more_ρ] at this
                exact this
              · subst hc0
                obtain ⟨w', cs', r1, r2, r3, r4, r5, r6, r7, r8, r9⟩ := run_storeCells_over (P := P) (c.ρ bn).1 (n * u.size) ty2 lo hi vn 0 w cs g1 (by omega) (fun j _ hj => g5 _ (by omega)) (n1.ones n2)
                have hrun : (Builtin.append_ #[t, t1] ty #[.slice (some ⟨(c.ρ bn).1, 0, none⟩) n cap, v1]).run P w = .ok (.slice (some ⟨(c.ρ bn).1, 0, none⟩) (n + m) cap) w' := by
                  have n3c := n3.cells
                  rw [k2] at n3c
                  rcases n3.kind with ⟨e', hk⟩ | hk <;> simp [Builtin.append_, run_underlying hul, run_underlying hk, sizeOf, typeInfo, k1, n3.len, hroom, n3c, add_spot, k2, r1]
                have hpost := h.onto hD hg (n := p.1) (σ2 := p.2) hp r2 (by rw [r3]; exact g2) (by rw [r3]; exact g5) hl hones (fun j v hj => by
                  rw [r4 j]
                  by_cases q1 : j < vo.length
                  · rw [List.getElem?_append_left q1] at hj
                    rw [if_neg (by omega)]
                    have := o2 j v hj
                    simp only [World.cell?, g1] at this
                    simpa [h0] using this
                  · rw [List.getElem?_append_right (by omega)] at hj
                    have hj2 := (List.getElem?_eq_some_iff.1 hj).1
                    rw [if_pos (by omega), show j - (n * u.size + 0) = j - vo.length by omega]
                    exact hj) (by rw [List.length_append, hvl, r3]; exact hfits) (by omega) r6 r7 r8 r9
                refine ⟨_, p.2, _, w', _, hr.symm, hrun, hpost, ?_⟩
                have := VR.sl (c := c.more p.1 (c.ρ bn).1 0 (c.L (c.ρ bn).1)) p.1 0 (n + m) u.size cap 0 (Cx.more_D _ _ _ _ _) hroom (.inr (by rw [Cx.more_ρ])) (by rw [Cx.more_ρ, Cx.more_L]; simp only; omega)
                rw [Cx.more_ρ] at this
                exact this
            · have hold2 : (Builtin.firstCells it.size n (.slice (some ⟨(c.ρ bn).1, off, none⟩) n cap)).run P w.drew = .ok vo.toArray w.drew :=
                run_firstCells_some w.drew it.size n _ n cap vo (by rw [hvol, k2]) (by simpa using hcells)
              have hrun := run_append_grow_src w t t1 ty ty2 it z hul k1 k3 (some ⟨(c.ρ bn).1, off, none⟩) n cap vo hold2 v1 m vn n3 (by omega) (by omega) (hfit cap (by omega))
              have kp : Post c c σ (Go.Proofs.YtijiggolphppbaaGreatDoor.Ev.kill σ bn) w w := h.killP hD hg rfl rfl (fun _ _ => rfl) rfl rfl rfl
              obtain ⟨c', g1, g2⟩ := grown_ok kp.sim (w := w) (σ2 := p.2) (nm := p.1) (by exact hp) hl hones (Builtin.zeroCells z.cells (grownCap w (n + m) cap ty2 - (n + m))) (n + m) (grownCap w (n + m) cap ty2) u.size (grownCap_ge _ _ _ _) (by
                rw [List.length_append, hvol, hvnl, zeroCells_size, hzs, k2, ← Nat.add_mul, ← Nat.add_mul]
                have := grownCap_ge w (n + m) cap ty2
                rw [show n + m + (grownCap w (n + m) cap ty2 - (n + m)) = grownCap w (n + m) cap ty2 by omega]
                exact Nat.le_refl _)
              exact ⟨_, p.2, _, _, c', hr.symm, hrun, kp.trans g1, g2⟩
end
end Go.Proofs.YtijiggolphppbaaGreatDoor.Ev
namespace Go.Proofs.YtijiggolphppbaaGreatDoor.Ev
open Go
section
variable {P : Program} {g : Prg} {c : Cx} {w w1 : World} {σ σ1 σ2 : St} {E : Operand → Option AV} {ρ : Operand → Value}
/-- Where a key lies. -/
def idxK (u : Ty) (k : AV) : List (AV × AV) → Option (Option Nat)
  | [] => some none
  | (a, _) :: l => bnd (eqKey u k a) fun r => bif r then some (some 0) else bnd (idxK u k l) fun i => some (i.map (· + 1))
theorem putK_idx {u : Ty} {k v : AV} : ∀ {l m : List (AV × AV)}, putK u k v l = some m → ∃ i, idxK u k l = some i ∧ m = match i with | none => l ++ [(k, v)] | some j => l.set j (k, v)
  | [], m, h => by
    simp only [putK, Option.some.injEq] at h
    subst h
    exact ⟨none, rfl, rfl⟩
  | (a, x) :: l, m, h => by
    simp only [putK, bnd_eq] at h
    obtain ⟨b, hb, h⟩ := h
    cases b with
    | true =>
      simp only [cond_true, Option.some.injEq] at h
      subst h
      exact ⟨some 0, by simp [idxK, hb, bnd], rfl⟩
    | false =>
      simp only [cond_false, bnd_eq, Option.some.injEq] at h
      obtain ⟨m', hm, rfl⟩ := h
      obtain ⟨i, h1, h2⟩ := putK_idx hm
      refine ⟨i.map (· + 1), by simp [idxK, hb, bnd, h1], ?_⟩
      cases i <;> simp [h2]
theorem delK_idx {u : Ty} {k : AV} : ∀ {l m : List (AV × AV)}, delK u k l = some m → ∃ i, idxK u k l = some i ∧ m = match i with | none => l | some j => l.eraseIdx j
  | [], m, h => by
    simp only [delK, Option.some.injEq] at h
    subst h
    exact ⟨none, rfl, rfl⟩
  | (a, x) :: l, m, h => by
    simp only [delK, bnd_eq] at h
    obtain ⟨b, hb, h⟩ := h
    cases b with
    | true =>
      simp only [cond_true, Option.some.injEq] at h
      subst h
      exact ⟨some 0, by simp [idxK, hb, bnd], rfl⟩
    | false =>
      simp only [cond_false, bnd_eq, Option.some.injEq] at h
      obtain ⟨m', hm, rfl⟩ := h
      obtain ⟨i, h1, h2⟩ := delK_idx hm
      refine ⟨i.map (· + 1), by simp [idxK, hb, bnd, h1], ?_⟩
      cases i <;> simp [h2]
/-- Keys of like cells are the same value. -/
theorem fits_det : ∀ {ks : List Lk} {a : List AV} {m n : List Value}, fits ks a = true → VRs c a m → VRs c a n → m = n
  | [], [], _, _, _, .nil, .nil => rfl
  | .bool :: l, .bool _ :: a, _, _, h, .cons v t, .cons u s => by
    cases v; cases u
    rw [fits_det (by simpa [fits] using h) t s]
  | .int k :: l, .int j n :: a, _, _, h, .cons v t, .cons u s => by
    cases v; cases u
    simp only [fits, Bool.and_eq_true] at h
    rw [fits_det h.2 t s]
  | .str :: l, .str x :: a, _, _, h, .cons v t, .cons u s => by
    cases v; cases u
    simp only [fits, Bool.and_eq_true] at h
    rw [fits_det h.2 t s]
theorem key_det {ks : List Lk} {q : Ty} {a b : AV} {v u : Value} (ha : keyOk q ks a = true) (hb : keyOk q ks b = true) (he : eqAs a.cells b.cells = true) (hv : VR c a v) (hu : VR c b u) : v = u := by
  have e := eqAs_sound he
  unfold keyOk at ha hb
  rw [Bool.and_eq_true] at ha hb
  have hc : v.cells.toList = u.cells.toList := fits_det ha.2 hv.cells (by rw [e]; exact hu.cells)
  have hagg : (∃ l, a = .agg l) ↔ ∃ l, b = .agg l := by
    constructor
    · rintro ⟨l, rfl⟩
      cases b <;> first | exact ⟨_, rfl⟩ | (exfalso; simp_all)
    · rintro ⟨l, rfl⟩
      cases a <;> first | exact ⟨_, rfl⟩ | (exfalso; simp_all)
  by_cases hA : ∃ l, a = .agg l
  · obtain ⟨l, rfl⟩ := hA
    obtain ⟨m, rfl⟩ := hagg.1 ⟨l, rfl⟩
    cases hv; cases hu
    simp only [Value.cells] at hc
    rw [show (_ : List Value) = _ from hc]
  · have hB : ¬ ∃ l, b = .agg l := fun h => hA (hagg.2 h)
    have ca : a.cells = [a] := by cases a <;> first | rfl | exact absurd ⟨_, rfl⟩ hA
    have cb : b.cells = [b] := by cases b <;> first | rfl | exact absurd ⟨_, rfl⟩ hB
    rw [ca, cb] at e
    simp only [List.cons.injEq, and_true] at e
    subst e
    have h1 := ha.2
    rw [ca] at h1
    have := fits_det h1 (.cons hv .nil) (.cons hu .nil)
    simpa using this
theorem same_self : ∀ {ks : List Lk} {l : List Value} (n : Nat), FitV ks l → ((l.zip l).all fun (x, y) => Instr.sameBits n x y) = true
  | _, _, _, .nil => rfl
  | _, _, n, .bool t => by simp only [List.zip_cons_cons, List.all_cons, same_self n t, Bool.and_true]; cases n <;> simp [Instr.sameBits]
  | _, _, n, .int _ t => by simp only [List.zip_cons_cons, List.all_cons, same_self n t, Bool.and_true]; cases n <;> simp [Instr.sameBits]
  | _, _, n, .str _ t => by simp only [List.zip_cons_cons, List.all_cons, same_self n t, Bool.and_true]; cases n <;> simp [Instr.sameBits, ba_beq]
theorem key_stays {q : Ty} {ks : List Lk} {a : AV} {v : Value} (ha : keyOk q ks a = true) (hv : VR c a v) : (Instr.keyThatStays v v).run P w = .ok v w := by
  unfold keyOk at ha
  rw [Bool.and_eq_true] at ha
  have hs : Instr.sameBits 10000 v v = true := by
    by_cases hA : ∃ l, a = .agg l
    · obtain ⟨l, rfl⟩ := hA
      cases hv with
      | agg hl =>
        have := same_self 9999 (FitV.of ha.2 hl)
        show Instr.sameBits (9999 + 1) _ _ = true
        simp only [Instr.sameBits, beq_self_eq_true, Bool.true_and]
        exact this
    · have ca : a.cells = [a] := by cases a <;> first | rfl | exact absurd ⟨_, rfl⟩ hA
      have h1 := ha.2
      rw [ca] at h1
      have := same_self 10000 (FitV.of h1 (.cons hv .nil))
      simpa using this
  simp [Instr.keyThatStays, hs]
theorem ER.get : ∀ {l : List (AV × AV)} {es : List MapEntry}, ER c l es → ∀ {j : Nat} {a : AV × AV}, l[j]? = some a → ∃ e, es[j]? = some e ∧ VR c a.1 e.key ∧ VR c a.2 e.val
  | _, _, .nil, j, a, h => by simp at h
  | _, _, .cons (e := e) hk hv t, 0, a, h => by
    simp at h
    subst h
    exact ⟨e, rfl, hk, hv⟩
  | _, _, .cons hk hv t, j + 1, a, h => by
    simp at h
    obtain ⟨e, h1, h2⟩ := ER.get t h
    exact ⟨e, by simpa using h1, h2⟩
theorem ER.append : ∀ {l : List (AV × AV)} {es : List MapEntry}, ER c l es → ∀ {m : List (AV × AV)} {fs : List MapEntry}, ER c m fs → ER c (l ++ m) (es ++ fs)
  | _, _, .nil, _, _, h => h
  | _, _, .cons hk hv t, _, _, h => .cons hk hv (ER.append t h)
theorem ER.set {k v : AV} {f : MapEntry → MapEntry} (hf : ∀ e, VR c k (f e).key ∧ VR c v (f e).val) : ∀ {l : List (AV × AV)} {es : List MapEntry}, ER c l es → ∀ (j : Nat), ER c (l.set j (k, v)) (es.modify j f)
  | _, _, .nil, j => by simp; exact .nil
  | _, _, .cons (e := e) _ _ t, 0 => by simpa using .cons (hf e).1 (hf e).2 t
  | _, _, .cons hk hv t, j + 1 => by simpa using .cons hk hv (ER.set hf t j)
theorem ER.erase : ∀ {l : List (AV × AV)} {es : List MapEntry}, ER c l es → ∀ (j : Nat), ER c (l.eraseIdx j) (es.eraseIdx j)
  | _, _, .nil, j => .nil
  | _, _, .cons _ _ t, 0 => by simpa using t
  | _, _, .cons hk hv t, j + 1 => by simpa using .cons hk hv (ER.erase t j)
theorem idx_ok {t : TypeId} {u : Ty} {ks : List Lk} {d : TypeDesc} (hk : KeyR P t ks) (hks : u.key = some ks) (hu : P.underlying t = some d) (hr : d.isRow = !u.one) {k : AV} {vk : Value} (kx : KV P c t ks k vk) :
    ∀ {l : List (AV × AV)} {es : List MapEntry} (i : Nat) {r : Option Nat}, ER c l es → idxK u k l = some r →
      ∃ R, (Instr.findAsking t vk es i).run P w = .ok R w ∧ (Instr.findNow d vk es i = none ∨ Instr.findNow d vk es i = some R) ∧
        (match r with | none => R = none ∧ ∀ e ∈ es, e.key ≠ vk | some j => ∃ e a, R = some (i + j, e.val) ∧ es[j]? = some e ∧ l[j]? = some a ∧ keyOk u ks a.1 = true ∧ eqAs k.cells a.1.cells = true ∧ VR c a.1 e.key)
  | [], _, i, r, .nil, h => by
    simp only [idxK, Option.some.injEq] at h
    subst h
    exact ⟨none, rfl, .inr rfl, rfl, by simp⟩
  | (a, v) :: l, e :: es, i, r, .cons he hv t, h => by
    simp only [idxK, bnd_eq, eqKey, bif_eq, Bool.and_eq_true, Option.some.injEq] at h
    obtain ⟨b, ⟨ks', hks', ⟨_, f2⟩, hb⟩, h⟩ := h
    rw [hks] at hks'
    simp only [Option.some.injEq] at hks'
    subst hks'
    have ke := keyOk_kv hk hu hr he f2
    have heq := kx.equal (w := w) hk ke
    have hsm := same_ok d kx ke
    rw [hb] at heq hsm
    cases b with
    | true =>
      simp only [cond_true, Option.some.injEq] at h
      subst h
      refine ⟨some (i, e.val), by simp [Instr.findAsking, heq], ?_, e, (a, v), by simp, rfl, rfl, f2, hb, he⟩
      rcases hsm with h1 | h1
      · exact .inl (by simp [Instr.findNow, h1])
      · exact .inr (by simp [Instr.findNow, h1])
    | false =>
      simp only [cond_false, bnd_eq, Option.some.injEq] at h
      obtain ⟨r', h, rfl⟩ := h
      obtain ⟨R, g1, g2, g3⟩ := idx_ok hk hks hu hr kx (i + 1) t h
      refine ⟨R, by simp [Instr.findAsking, heq, g1], ?_, ?_⟩
      · rcases hsm with h1 | h1
        · exact .inl (by simp [Instr.findNow, h1])
        · rcases g2 with g2 | g2
          · exact .inl (by simp [Instr.findNow, h1, g2])
          · exact .inr (by simp [Instr.findNow, h1, g2])
      · cases r' with
        | none =>
          refine ⟨g3.1, fun x hx => ?_⟩
          rcases List.mem_cons.1 hx with rfl | hx
          · intro ee
            have := (lits_eq kx.fits ke.fits kx.rel.cells ke.rel.cells).1 (by rw [ee])
            rw [hb] at this
            cases this
          · exact g3.2 x hx
        | some j =>
          obtain ⟨e2, a2, q1, q2, q3, q4⟩ := g3
          exact ⟨e2, a2, by
            rw [q1]
            show some (i + 1 + j, e2.val) = some (i + (j + 1), e2.val)
            rw [show i + 1 + j = i + (j + 1) by omega], by simpa using q2, by simpa using q3, q4⟩
theorem idxKey_ok {t : TypeId} {u : Ty} {ks : List Lk} {d : TypeDesc} (hk : KeyR P t ks) (hks : u.key = some ks) (hu : P.underlying t = some d) (hr : d.isRow = !u.one) {k : AV} {vk : Value} (kx : KV P c t ks k vk)
    {l : List (AV × AV)} {es : List MapEntry} {r : Option Nat} (he : ER c l es) (h : idxK u k l = some r) :
    ∃ R, (Instr.findKey t vk es).run P w = .ok R w ∧ (match r with | none => R = none ∧ ∀ e ∈ es, e.key ≠ vk | some j => ∃ e a, R = some (j, e.val) ∧ es[j]? = some e ∧ l[j]? = some a ∧ keyOk u ks a.1 = true ∧ eqAs k.cells a.1.cells = true ∧ VR c a.1 e.key) := by
  obtain ⟨R, g1, g2, g3⟩ := idx_ok (P := P) (w := w) hk hks hu hr kx 0 he h
  refine ⟨R, ?_, by cases r <;> simpa using g3⟩
  unfold Instr.findKey
  rw [Sem.run_bind, run_underlying hu]
  rcases g2 with g2 | g2
  · simp only [Result.andThen_ok, g2]
    exact g1
  · simp only [Result.andThen_ok, g2]
    rfl
/-- A map's entries set. -/
theorem Sim.mapSet (h : Sim c σ w) {r : Nat} (hD : c.D r) {l : List (AV × AV)} (hg : σ.heap.get r = some (.map l)) {l' : List (AV × AV)} {es : Array MapEntry} {clock : Nat} (he : ER c l' es.toList) (hst : MapKept.Stamped es clock)
    (hs : w1.heap.size = w.heap.size) (hb : w1.heap[(c.ρ r).1]? = some (.map es clock)) (hk : ∀ x, x ≠ (c.ρ r).1 → w1.heap[x]? = w.heap[x]?) (hos : w1.os = w.os) (ht : w1.tape = w.tape) (hout : w1.output = w.output) :
    Post c c σ (setMap σ r l') w w1 := by
  have h1 := h.nx r hD
  have h2 := h.mx
  have h3 := MX_FU
  have hget : ∀ m, (setMap σ r l').heap.get m = if m = r then some (.map l') else σ.heap.get m := fun m => T.get_set FU σ.heap r (some (.map l')) m (by omega)
  have hne : ∀ m p, c.D m → m ≠ r → σ.heap.get m = some p → p.alive = true → (c.ρ m).1 ≠ (c.ρ r).1 := fun m p hm hn hp hpa e => hn (h.inj m r p _ hm hD hp hg hpa rfl e)
  refine ⟨.refl c, ⟨h.nx, h.mx, by rw [hs]; exact h.top, ?_, ?_, h.zero, ?_, ⟨by rw [hs]; exact h.base.1, fun x hx => by rw [hk x (fun e => by have := h.far r hD; omega)]; exact h.base.2 x hx⟩, h.far⟩, Nat.le_refl _, fun _ h => .inl h, fun n _ hn => ?_, hos, ht, hout, Nat.le_of_eq hs.symm, fun b _ hno => hk b (fun e => hno r _ hD hg rfl e.symm), fun n p hn hp hpa => .inr ?_⟩
  · intro m n p q hm hn hp hq hpa hqa he
    rw [hget] at hp hq
    have alive : ∀ x y, (if x = r then some (AO.map l') else σ.heap.get x) = some y → y.alive = true → ∃ z, σ.heap.get x = some z ∧ z.alive = true := by
      intro x y hx hy
      by_cases e : x = r
      · rw [e]; exact ⟨_, hg, rfl⟩
      · rw [if_neg e] at hx; exact ⟨y, hx, hy⟩
    obtain ⟨y, hy, hya⟩ := alive m p hp hpa
    obtain ⟨z, hz, hza⟩ := alive n q hq hqa
    exact h.inj m n y z hm hn hy hz hya hza he
  · intro m k t ty hm hp
    rw [hget] at hp
    by_cases e1 : m = r
    · rw [if_pos e1] at hp; cases hp
    · rw [if_neg e1] at hp
      obtain ⟨cs, lo, hi, q1, q2⟩ := h.cells _ _ _ _ hm hp
      exact ⟨cs, lo, hi, by rw [hk _ (hne m _ hm e1 hp rfl)]; exact q1, q2⟩
  · intro m l2 hm hp
    rw [hget] at hp
    by_cases e1 : m = r
    · subst e1
      rw [if_pos rfl] at hp
      simp only [Option.some.injEq, AO.map.injEq] at hp
      subst hp
      exact ⟨es, clock, hb, he, hst⟩
    · rw [if_neg e1] at hp
      obtain ⟨es2, clock2, q1, q2⟩ := h.maps _ _ hm hp
      exact ⟨es2, clock2, by rw [hk _ (hne m _ hm e1 hp rfl)]; exact q1, q2⟩
  · rw [hget, if_neg (fun e => hn (by rw [e]; exact hD))]
  · rw [hget] at hp
    by_cases e : n = r
    · subst e
      exact ⟨n, _, hn, hg, rfl, rfl⟩
    · rw [if_neg e] at hp
      exact ⟨n, p, hn, hp, hpa, rfl⟩
theorem set_map {r : Nat} {es : Array MapEntry} {clock : Nat} {o : Obj} (h : w.heap[r]? = some (.map es clock)) : (setObj r o).run P w = .ok () { w with heap := w.heap.setIfInBounds r o } := by
  simp [setObj, Sem.run, h]
theorem put_map {r : Nat} {es es' : Array MapEntry} {clock clock' : Nat} (h : w.heap[r]? = some (.map es clock)) : ({ w with heap := w.heap.setIfInBounds r (.map es' clock') } : World).heap.size = w.heap.size ∧
    ({ w with heap := w.heap.setIfInBounds r (.map es' clock') } : World).heap[r]? = some (.map es' clock') ∧ ∀ x, x ≠ r → ({ w with heap := w.heap.setIfInBounds r (.map es' clock') } : World).heap[x]? = w.heap[x]? := by
  have hlt := (Array.getElem?_eq_some_iff.1 h).1
  exact ⟨by simp, by simp [hlt], fun x hx => by simp [Array.getElem?_setIfInBounds_ne (Ne.symm hx)]⟩
theorem update_ok (hT : TysR P g) (h : Sim c σ w) {ty : TypeId} {r : Nat} {k x : AV} {vk vx : Value} {q : Ty} {ks : List Lk} (hD : c.D r) (hvk : VR c k vk) (hvx : VR c x vx) (hq : keyTy g ty = some q) (hks : q.key = some ks) (hf : keyOk q ks k = true)
    {l l' : List (AV × AV)} (hl : getMap σ r = some l) (hp : putK q k x l = some l') : ∃ w', (Instr.mapUpdate ty (.map (some (c.ρ r).1)) vk vx).run P w = .ok () w' ∧ Post c c σ (setMap σ r l') w w' := by
  obtain ⟨kt, et, d, h1, h2, h3, h4⟩ := keyTy_ok hT hq
  have hk := (hT kt q h2).key ks hks
  have kx := keyOk_kv hk h3 h4 hvk hf
  obtain ⟨es, clock, w1, w2, w3⟩ := h.getMap hD hl
  obtain ⟨i, e1, e2⟩ := putK_idx hp
  obtain ⟨R, g1, g2⟩ := idxKey_ok (P := P) (w := w) hk hks h3 h4 kx w2 e1
  cases i with
  | none =>
    obtain ⟨rfl, g3⟩ := g2
    have pm := put_map (es' := es.push { key := vk, val := vx, born := clock }) (clock' := clock + 1) w1
    refine ⟨_, ?_, h.mapSet hD w3.1 (l' := l') (es := es.push { key := vk, val := vx, born := clock }) (clock := clock + 1) ?_ (MapKept.stamped_push w3.2 g3) pm.1 pm.2.1 pm.2.2 rfl rfl rfl⟩
    · simp [Instr.mapUpdate, run_underlying h1, get_map w1, kx.check hk false, g1, set_map w1]
    · rw [e2, Array.toList_push]
      exact w2.append (.cons hvk hvx .nil)
  | some j =>
    obtain ⟨e, a, rfl, q2, q3, q4, q5, q6⟩ := g2
    have hdet := key_det hf q4 q5 hvk q6
    have hst : (Instr.keyThatStays e.key vk).run P w = .ok vk w := by
      rw [← hdet]
      exact key_stays hf hvk
    have q2' : es[j]? = some e := by simpa using q2
    have pm := put_map (es' := es.modify j fun e => { e with key := vk, val := vx }) (clock' := clock) w1
    refine ⟨_, ?_, h.mapSet hD w3.1 (l' := l') (es := es.modify j fun e => { e with key := vk, val := vx }) (clock := clock) ?_ (MapKept.stamped_modify w3.2 j _ (fun _ _ => rfl) (fun x _ hx => by
      rw [q2'] at hx
      simp only [Option.some.injEq] at hx
      rw [← hx]
      exact hdet)) pm.1 pm.2.1 pm.2.2 rfl rfl rfl⟩
    · simp [Instr.mapUpdate, run_underlying h1, get_map w1, kx.check hk false, g1, set_map w1, q2', hst]
    · rw [e2, Array.toList_modify]
      exact w2.set (fun e => ⟨hvk, hvx⟩) j
end
end Go.Proofs.YtijiggolphppbaaGreatDoor.Ev
namespace Go.Proofs.YtijiggolphppbaaGreatDoor.Ev
open Go
section
variable {P : Program} {g : Prg} {c : Cx} {w w1 : World} {σ σ1 σ2 : St} {E : Operand → Option AV} {ρ : Operand → Value}
/-- An operation is done. -/
def DoneR (P : Program) (c : Cx) (σ σ' : St) (w : World) (s : Sem Next) (v : AV) : Prop :=
  ∃ v' w' nx c', s.run P w = .ok nx w' ∧ (nx = .value v' ∨ (nx = .skip ∧ v' = undef)) ∧ Post c c' σ σ' w w' ∧ VR c' v v'
theorem DoneR.v {s : Sem Value} {v : AV} {v' : Value} {w' : World} {c' : Cx} (h : s.run P w = .ok v' w') (hp : Post c c' σ σ1 w w') (hv : VR c' v v') : DoneR P c σ σ1 w (do pure (Next.value (← s))) v :=
  ⟨v', w', _, c', run_v h, .inl rfl, hp, hv⟩
theorem DoneR.u {s : Sem Unit} {w' : World} {c' : Cx} (h : s.run P w = .ok () w') (hp : Post c c' σ σ1 w w') : DoneR P c σ σ1 w (do s; pure Next.skip) un :=
  ⟨undef, w', .skip, c', by rw [Sem.run_bind, h]; rfl, .inr ⟨rfl, rfl⟩, hp, VR.un c'⟩
theorem store_ok (hT : TysR P g) (h : Sim c σ w) {ty : TypeId} {x : AV} {vx : Value} {nm i : Nat} {u : Ty} (hu : g.ty ty = some u) (hD : c.D nm) (hx : VR c x vx) (hsz : x.cells.length = u.size) (h1 : onesB x.cells = true) (hs : storeN σ (nm, i) x.cells = some σ1) :
    ∃ w', (Instr.storeAt ty (.pointer (some ⟨(c.ρ nm).1, (c.ρ nm).2 + i, none⟩)) vx).run P w = .ok () w' ∧ Post c c σ σ1 w w' := by
  obtain ⟨it, z, k1, k2, _⟩ := (hT ty u hu).info
  obtain ⟨w', r1, r2⟩ := h.storeP (P := P) (a := (nm, i)) hD hx.cells (onesB_ok h1) hs
  have hc : vx.cells.size = it.size := by
    have := hx.cells.len
    simp only [Array.length_toList] at this
    omega
  refine ⟨w', ?_, r2⟩
  simp [Instr.storeAt, Instr.sureAddr, storeVar, sizeOf, typeInfo, k1, hc]
  exact r1
theorem storeCells_nil (a : Addr) : (storeCells a []).run P w = .ok () w := rfl
theorem copy_ok (hT : TysR P g) (h : Sim c σ w) {A : Array TypeId} {ty : TypeId} {x : AV} {v0 v1 : Value} {a : Option (Nat × Nat)} {n es : Nat} {r : R} (hv0 : VR c (.sl a n es) v0) (hv1 : VR c x v1) (hr : builtinR g σ .copy A.toList [.sl a n es, x] = some r) :
    ∃ v σ', r = .val v σ' ∧ DoneR P c σ σ' w (do pure (Next.value (← Builtin.copy_ A ty #[v0, v1]))) v := by
  simp only [builtinR, bnd_eq] at hr
  obtain ⟨t, ht, e, he, u, hu, m, hm, new, hnew, hr⟩ := hr
  have hA0 : A[0]? = some t := by simpa [List.head?_eq_getElem?] using ht
  have hul := elemId_ok hT he
  obtain ⟨it, z, k1, k2, k3, k4, k5, _⟩ := (hT e u hu).info
  have hlen : ∀ w' : World, (Builtin.lenOf v1).run P w' = .ok m w' := by
    intro w'
    cases hv1 <;> simp only [lenOf, reduceCtorEq, Option.some.injEq] at hm <;> subst hm
    · simp [Builtin.lenOf, bsN_size]
    · rfl
    · rfl
  have hfirst : ∃ vs, VRs c new vs ∧ (∀ b ∈ new, b.one = true) ∧ (Builtin.firstCells it.size (Nat.min m n) v1).run P w = .ok vs.toArray w := by
    cases hv1 <;> simp only [firstN, reduceCtorEq, Option.some.injEq] at hnew
    case str s hs =>
      subst hnew
      have hb : ∀ b ∈ s.take (Nat.min m n), b < 256 := fun b hb => hs b (List.mem_of_mem_take hb)
      refine ⟨byteCells (bsN (s.take (Nat.min m n))), str_cells hb, fun a ha => ?_, ?_⟩
      · obtain ⟨b, _, rfl⟩ := List.mem_map.1 ha
        rfl
      · have : (bsN s).extract 0 (Nat.min m n) = bsN (s.take (Nat.min m n)) := by rw [bsN_extract]; simp
        simp only [Builtin.firstCells, this, byteCells]
        simp only [Sem.run_pure]
        congr 1
        apply Array.ext'
        simp
    case sl0 es2 =>
      subst hnew
      exact ⟨[], .nil, by simp, run_firstCells_none w _ _ _ _⟩
    case sl nm i len es2 cap off hD hc ho hL =>
      obtain ⟨vs, g1, g2, g3⟩ := h.range hD hnew
      have hl := loadN_len hnew
      simp only [lenOf, Option.some.injEq] at hm
      refine ⟨vs, g1, g3, run_firstCells_some w _ _ _ _ _ vs (by rw [← g1.len, hl, k2]) (fun j v hj => ?_)⟩
      have hj2 := (List.getElem?_eq_some_iff.1 hj).1
      rw [← g1.len, hl] at hj2
      rcases VR.off0 hc ho with e0 | rfl
      · have : Nat.min m n = 0 := by rw [← hm, e0]; simp
        rw [this, Nat.zero_mul] at hj2
        omega
      · rw [add_spot]
        exact g2 j v hj
  obtain ⟨vs, g1, g2, g3⟩ := hfirst
  cases a with
  | none =>
    cases hv0
    simp only [V, Option.some.injEq] at hr
    refine ⟨_, σ, hr.symm, DoneR.v (w' := w) (v' := .int .i64 ((Nat.min m 0 : Nat) : Int)) ?_ (Post.refl h) (.int _ _)⟩
    simp [Builtin.copy_, hA0, run_underlying hul, hlen, sizeOf, typeInfo, k1, goInt]
    simp at g3
    simp [g3]
  | some b =>
    simp only [bnd_eq] at hr
    obtain ⟨σ', hst, hr⟩ := hr
    simp only [V, Option.some.injEq] at hr
    cases hv0 with
    | sl nm i _ _ cap off hD hc ho hL =>
      obtain ⟨w', r1, r2⟩ := h.storeP (P := P) (a := (nm, i)) hD g1 g2 hst
      refine ⟨_, σ', hr.symm, DoneR.v (w' := w') (v' := .int .i64 ((Nat.min m n : Nat) : Int)) ?_ r2 (.int _ _)⟩
      have r1' : (storeCells ⟨(c.ρ nm).1, off, none⟩ vs).run P w = .ok () w' := by
        rcases VR.off0 hc ho with e0 | rfl
        · have hv : vs = [] := by
            apply List.eq_nil_of_length_eq_zero
            rw [← g1.len]
            have hmn : Nat.min m n = 0 := by rw [e0]; simp
            rw [hmn] at hnew
            cases hv1 <;> simp only [firstN, reduceCtorEq, Option.some.injEq] at hnew
            · rw [← hnew]; simp
            · rw [← hnew]; simp
            · rw [loadN_len hnew]; simp
          subst hv
          have : w' = w := by
            rw [storeCells_nil] at r1
            simp only [Result.ok.injEq, true_and] at r1
            exact r1.symm
          rw [this]
          rfl
        · exact r1
      simp [Builtin.copy_, hA0, run_underlying hul, hlen, sizeOf, typeInfo, k1, g3, goInt, r1']
theorem clear_ok (hT : TysR P g) (h : Sim c σ w) {A : Array TypeId} {ty : TypeId} {x : AV} {v0 : Value} {r : R} (hv0 : VR c x v0) (hr : builtinR g σ .clear A.toList [x] = some r) :
    ∃ v σ', r = .val v σ' ∧ DoneR P c σ σ' w (do pure (Next.value (← Builtin.clear_ A ty #[v0]))) v := by
  cases hv0 <;> simp only [builtinR, reduceCtorEq, bnd_eq] at hr
  case mp0 =>
    obtain ⟨t, ht, u, hu, hr⟩ := hr
    simp only [V, Option.some.injEq] at hr
    have hA0 : A[0]? = some t := by simpa [List.head?_eq_getElem?] using ht
    obtain ⟨d, h1, _⟩ := (hT t u hu).und
    exact ⟨_, σ, hr.symm, DoneR.v (w' := w) (v' := .tuple #[]) (by simp [Builtin.clear_, hA0, run_underlying h1]) (Post.refl h) (VR.un c)⟩
  case mp rr hD =>
    obtain ⟨t, ht, q, hq, l, hl, hr⟩ := hr
    simp only [V, Option.some.injEq] at hr
    have hA0 : A[0]? = some t := by simpa [List.head?_eq_getElem?] using ht
    obtain ⟨kt, et, d, h1, _⟩ := keyTy_ok hT hq
    obtain ⟨es, clock, w1, w2, w3⟩ := h.getMap hD hl
    have pm := put_map (es' := #[]) (clock' := clock) w1
    exact ⟨_, _, hr.symm, DoneR.v (v' := .tuple #[]) (by simp [Builtin.clear_, hA0, run_underlying h1, get_map w1, set_map w1]) (h.mapSet hD w3.1 (l' := []) (es := #[]) (clock := clock) .nil (MapKept.stamped_empty clock) pm.1 pm.2.1 pm.2.2 rfl rfl rfl) (VR.un c)⟩
  case sl0 es =>
    obtain ⟨t, ht, e, he, u, hu, hr⟩ := hr
    simp only [V, Option.some.injEq] at hr
    have hA0 : A[0]? = some t := by simpa [List.head?_eq_getElem?] using ht
    have hul := elemId_ok hT he
    exact ⟨_, σ, hr.symm, DoneR.v (w' := w) (v' := .tuple #[]) (by simp [Builtin.clear_, hA0, run_underlying hul]) (Post.refl h) (VR.un c)⟩
  case sl nm i len es cap off hD hc ho hL =>
    obtain ⟨t, ht, e, he, u, hu, hr⟩ := hr
    have hA0 : A[0]? = some t := by simpa [List.head?_eq_getElem?] using ht
    have hul := elemId_ok hT he
    obtain ⟨it, z, k1, k2, k3, k4, k5, _⟩ := (hT e u hu).info
    cases len with
    | zero =>
      simp only [V, Option.some.injEq] at hr
      exact ⟨_, σ, hr.symm, DoneR.v (w' := w) (v' := .tuple #[]) (by simp [Builtin.clear_, hA0, run_underlying hul]) (Post.refl h) (VR.un c)⟩
    | succ n =>
      simp only [bnd_eq] at hr
      obtain ⟨σ', hst, hr⟩ := hr
      simp only [V, Option.some.injEq] at hr
      have hoff : off = (c.ρ nm).2 + i := by rcases ho with ho | ho; omega; exact ho
      subst hoff
      obtain ⟨w', r1, r2⟩ := h.storeP (P := P) (a := (nm, i)) hD (VRs.rep (k5 c) (n + 1)) (rep_one (hT e u hu).zone) hst
      rw [← made_rep z.cells (n + 1)] at r1
      refine ⟨_, σ', hr.symm, DoneR.v (w' := w') (v' := .tuple #[]) ?_ r2 (VR.un c)⟩
      have hz : (Builtin.zeroCells z.cells (n + 1)).toList = ((Array.range ((n + 1) * z.cells.size)).map (z.cells[· % z.cells.size]!)).toList := rfl
      rw [← hz] at r1
      simp only [Builtin.clear_, List.getElem?_toArray, hA0]
      simp [run_underlying hul, zeroValue, typeInfo, k1, k3, r1]
theorem delete_ok (hT : TysR P g) (h : Sim c σ w) {A : Array TypeId} {ty : TypeId} {x k : AV} {v0 v1 : Value} {r : R} (hv0 : VR c x v0) (hv1 : VR c k v1) (hr : builtinR g σ .delete A.toList [x, k] = some r) :
    ∃ v σ', r = .val v σ' ∧ DoneR P c σ σ' w (do pure (Next.value (← Builtin.delete_ A ty #[v0, v1]))) v := by
  cases hv0 <;> simp only [builtinR, reduceCtorEq, bnd_eq, bif_eq] at hr
  case mp0 =>
    obtain ⟨t, ht, q, hq, ks, hks, hf, hr⟩ := hr
    simp only [V, Option.some.injEq] at hr
    have hA0 : A[0]? = some t := by simpa [List.head?_eq_getElem?] using ht
    obtain ⟨kt, et, d, h1, h2, h3, h4⟩ := keyTy_ok hT hq
    have hk := (hT kt q h2).key ks hks
    have kx := keyOk_kv hk h3 h4 hv1 hf
    exact ⟨_, σ, hr.symm, DoneR.v (w' := w) (v' := .tuple #[]) (by simp [Builtin.delete_, hA0, run_underlying h1, kx.check hk true]) (Post.refl h) (VR.un c)⟩
  case mp rr hD =>
    obtain ⟨t, ht, q, hq, ks, hks, hf, l, hl, l', hdel, hr⟩ := hr
    simp only [V, Option.some.injEq] at hr
    have hA0 : A[0]? = some t := by simpa [List.head?_eq_getElem?] using ht
    obtain ⟨kt, et, d, h1, h2, h3, h4⟩ := keyTy_ok hT hq
    have hk := (hT kt q h2).key ks hks
    have kx := keyOk_kv hk h3 h4 hv1 hf
    obtain ⟨es, clock, w1, w2, w3⟩ := h.getMap hD hl
    obtain ⟨i, e1, e2⟩ := delK_idx hdel
    obtain ⟨R, g1, g2⟩ := idxKey_ok (P := P) (w := w) hk hks h3 h4 kx w2 e1
    cases i with
    | none =>
      obtain ⟨rfl, _⟩ := g2
      have pm := put_map (es' := es) (clock' := clock) w1
      refine ⟨_, _, hr.symm, DoneR.v (v' := .tuple #[]) ?_ (h.mapSet hD w3.1 (l' := l') (es := es) (clock := clock) (by rw [e2]; exact w2) w3.2 pm.1 pm.2.1 pm.2.2 rfl rfl rfl) (VR.un c)⟩
      simp [Builtin.delete_, hA0, run_underlying h1, get_map w1, kx.check hk es.isEmpty, g1, set_map w1]
    | some j =>
      obtain ⟨e, a, rfl, q2, _⟩ := g2
      have pm := put_map (es' := es.eraseIdxIfInBounds j) (clock' := clock) w1
      refine ⟨_, _, hr.symm, DoneR.v (v' := .tuple #[]) ?_ (h.mapSet hD w3.1 (l' := l') (es := es.eraseIdxIfInBounds j) (clock := clock) (by rw [e2, Array.toList_eraseIdxIfInBounds]; exact w2.erase j) (MapKept.stamped_erase w3.2 j) pm.1 pm.2.1 pm.2.2 rfl rfl rfl) (VR.un c)⟩
      simp [Builtin.delete_, hA0, run_underlying h1, get_map w1, kx.check hk es.isEmpty, g1, set_map w1]
theorem elemP_ok (hT : TysR P g) {t e : TypeId} (h : elemP g t = some e) : P.underlying t = some (.pointer e) ∧ P.cellsOf e = 1 := by
  simp only [elemP, bnd_eq] at h
  obtain ⟨u, hu, h⟩ := h
  obtain ⟨d, h1, h2, _⟩ := (hT t u hu).und
  cases hd : u.und <;> rw [hd] at h h2 <;> simp only [DR, reduceCtorEq, bnd_eq] at h h2
  obtain ⟨w, hw, h⟩ := h
  split at h <;> simp only [reduceCtorEq, bif_eq, beq_eq, Option.some.injEq] at h
  obtain ⟨h3, rfl⟩ := h
  subst h2
  obtain ⟨it, z, k1, k2, _⟩ := (hT _ w hw).info
  exact ⟨h1, by simp [Program.cellsOf, k1, k2, h3]⟩
theorem head2_ok {A : Array TypeId} {t : TypeId} (h : head2 A.toList = some t) : ∃ t2, A = #[t, t2] := by
  unfold head2 at h
  split at h
  · rename_i t0 t2 e
    simp only [Option.some.injEq] at h
    subst h
    exact ⟨t2, by rw [← Array.toArray_toList (xs := A), e]⟩
  · cases h
theorem unsafeString_ok (hT : TysR P g) (h : Sim c σ w) {A : Array TypeId} {ty : TypeId} {x k : AV} {v0 v1 : Value} {r : R} (hv0 : VR c x v0) (hv1 : VR c k v1) (hr : builtinR g σ .unsafeString A.toList [x, k] = some r) :
    ∃ v σ', r = .val v σ' ∧ DoneR P c σ σ' w (do pure (Next.value (← Builtin.unsafeString_ A ty #[v0, v1]))) v := by
  cases hv0 <;> cases hv1 <;> simp only [builtinR, reduceCtorEq] at hr
  case ptr0.int ki n =>
    cases ki <;> simp only [reduceCtorEq, bnd_eq, bif_eq, eqI_eq] at hr
    obtain ⟨rfl, t, ht, hr⟩ := hr
    simp only [V, Option.some.injEq] at hr
    obtain ⟨t2, rfl⟩ := head2_ok ht
    exact ⟨_, σ, hr.symm, DoneR.v (w' := w) (v' := .string (bsN [])) (Lib.run_unsafeString_none (P := P) w t t2 ty none) (Post.refl h) (.str [] (by simp))⟩
  case ptr.int nm i hD ki n =>
    cases ki <;> simp only [reduceCtorEq, bnd_eq, bif_eq'] at hr
    obtain ⟨hn, t, ht, e, he, hr⟩ := hr
    obtain ⟨t2, rfl⟩ := head2_ok ht
    simp only [Bool.or_eq_false_iff, decide_eq_false_iff_not] at hn
    obtain ⟨hn0, hn1⟩ := hn
    obtain ⟨he1, he2⟩ := elemP_ok hT he
    cases hg : σ.heap.get nm with
    | none => rw [hg] at hr; cases hr
    | some o =>
      rw [hg] at hr
      cases o with
      | map _ => cases hr
      | dead => cases hr
      | cells k0 tr ty2 =>
        simp only [bif_eq, Bool.and_eq_true, beq_eq, ble_eq, bnd_eq] at hr
        obtain ⟨⟨⟨rfl, rfl⟩, hk⟩, l, hl, s, hs, hr⟩ := hr
        simp only [V, Option.some.injEq] at hr
        obtain ⟨cs, lo, hi, g1, g2, g3, g4, g5, g6⟩ := h.cells _ _ _ _ hD hg
        obtain ⟨vs, q1, q2, q3⟩ := h.range hD hl
        obtain ⟨s1, s2, s3⟩ := strOf_ok hs q1
        have hll := loadN_len hl
        have h0 := h.zero nm hD
        have hn2 : n.toNat ≠ 0 := fun e0 => by rw [e0] at hn1; cases hn1
        have hlen : (s.map UInt8.ofNat).length = n.toNat := by simp [s2, hll]
        have hmx : MX = 16000000 := rfl
        have hrun := Lib.run_unsafeString_row (P := P) w t t2 ty ty2 he1 he2 (c.ρ nm).1 cs.size (by simp [World.shape?, g1]) (s.map UInt8.ofNat) (fun e0 => by rw [e0] at hlen; simp at hlen; omega) (by omega) (by omega) (fun j x hj => by
          have hj2 := (List.getElem?_eq_some_iff.1 hj).1
          simp only [List.length_map] at hj2
          rw [List.getElem?_map] at hj
          have hsj : s[j]? = some (s[j]'hj2) := List.getElem?_eq_getElem hj2
          rw [hsj] at hj
          simp only [Option.map_some, Option.some.injEq] at hj
          have hv : vs[j]? = some (.int .u8 ((s[j]'hj2 : Nat) : Int)) := by rw [s3]; simp [hj2]
          have := q2 j _ hv
          simp only [h0] at this
          rw [add_spot]
          rw [this, ← hj, UInt8.toNat_ofNat']
          have hb := s1 _ (List.getElem_mem hj2)
          rw [Nat.mod_eq_of_lt (by simpa using hb)])
        rw [hlen] at hrun
        rw [show ((n.toNat : Nat) : Int) = n by omega] at hrun
        refine ⟨_, _, hr.symm, DoneR.v (v' := .string (bsN s)) ?_ (h.killP hD hg rfl (w1 := w.freeze ⟨(c.ρ nm).1, 0, none⟩ n.toNat) ?_ (fun x hx => ?_) ?_ ?_ ?_) (.str s s1)⟩
        · rw [h0]
          exact hrun
        · simp [World.freeze, hn2]
        · simp [World.freeze, hn2, Array.getElem?_modify, Ne.symm hx]
        · simp [World.freeze, hn2]
        · simp [World.freeze, hn2]
        · simp [World.freeze, hn2]
end
end Go.Proofs.YtijiggolphppbaaGreatDoor.Ev
