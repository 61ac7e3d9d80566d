/- Maps as lists of pairs: what a map's block holds, and the operations on it. -/
import Derived.Test.YtafdcmhckpdnbaaDoorBase
import Derived.Maps.OwnSet
namespace Go.Proofs.YtafdcmhckpdnbaaDoor
open Go.RowKit

theorem ba_beq (a b : ByteArray) : (a == b) = decide (a = b) := by
  rcases a with ⟨a⟩; rcases b with ⟨b⟩
  show (a == b) = _
  by_cases h : a = b <;> simp [h]
theorem int_beq (a b : Int) : (a == b) = decide (a = b) := by
  by_cases h : a = b <;> simp [h]

theorem map_erase {α β : Type} (f : α → β) : ∀ (l : List α) (j : Nat), (l.eraseIdx j).map f = (l.map f).eraseIdx j
  | [], _ => by simp
  | _ :: _, 0 => by simp
  | _ :: l, j + 1 => by simp [map_erase f l j]

def lfind {κ ν : Type} [DecidableEq κ] (k : κ) : List (κ × ν) → Nat → Option (Nat × ν)
  | [], _ => none
  | p :: r, i => if k = p.1 then some (i, p.2) else lfind k r (i + 1)

/-- How a key's type is compared. -/
structure KeyT (P : Program) (kt : TypeId) {κ : Type} [DecidableEq κ] (enc : κ → Value) : Prop where
  find : ∀ {ν : Type} (encv : ν → Value) (es : List MapEntry) (l : List (κ × ν)) (k : κ) (w : World), es.map (fun e => (e.key, e.val)) = l.map (fun p => (enc p.1, encv p.2)) →
    (Instr.findKey kt (enc k) es).run P w = .ok ((lfind k l 0).map fun x => (x.1, encv x.2)) w
  check : ∀ b k w, (Instr.checkKey b 10000 kt (enc k)).run P w = .ok () w
  same : ∀ k, Instr.sameBits 10000 (enc k) (enc k) = true

theorem findAsking_run {P : Program} {kt : TypeId} {κ ν : Type} [DecidableEq κ] (enc : κ → Value) (encv : ν → Value) (k : κ) (w : World)
    (heq : ∀ k', (Op.equal kt (enc k) (enc k')).run P w = .ok (decide (k = k')) w) : ∀ (es : List MapEntry) (l : List (κ × ν)) (i : Nat), es.map (fun e => (e.key, e.val)) = l.map (fun p => (enc p.1, encv p.2)) →
    (Instr.findAsking kt (enc k) es i).run P w = .ok ((lfind k l i).map fun x => (x.1, encv x.2)) w
  | [], [], i, _ => by simp [Instr.findAsking, lfind]
  | [], _ :: _, _, h => by simp at h
  | _ :: _, [], _, h => by simp at h
  | e :: es, p :: l, i, h => by
    simp only [List.map_cons, List.cons.injEq, Prod.mk.injEq] at h
    have ih := findAsking_run enc encv k w heq es l (i + 1) h.2
    unfold Instr.findAsking lfind
    rw [h.1.1]
    by_cases hk : k = p.1
    · subst hk; simp [heq, h.1.2]
    · simp [heq, hk, ih]

theorem findNow_run {κ ν : Type} [DecidableEq κ] (d : TypeDesc) (enc : κ → Value) (encv : ν → Value) (k : κ)
    (heq : ∀ k', Instr.sameNow d (enc k) (enc k') = some (decide (k = k'))) : ∀ (es : List MapEntry) (l : List (κ × ν)) (i : Nat), es.map (fun e => (e.key, e.val)) = l.map (fun p => (enc p.1, encv p.2)) →
    Instr.findNow d (enc k) es i = some ((lfind k l i).map fun x => (x.1, encv x.2))
  | [], [], i, _ => by simp [Instr.findNow, lfind]
  | [], _ :: _, _, h => by simp at h
  | _ :: _, [], _, h => by simp at h
  | e :: es, p :: l, i, h => by
    simp only [List.map_cons, List.cons.injEq, Prod.mk.injEq] at h
    have ih := findNow_run d enc encv k heq es l (i + 1) h.2
    unfold Instr.findNow lfind
    rw [h.1.1, heq]
    by_cases hk : k = p.1
    · simp [hk, h.1.2]
    · simp [hk, ih]

theorem findKey_asking {P : Program} {kt : TypeId} {d : TypeDesc} (hk : P.underlying kt = some d) (hs : ∀ a b, Instr.sameNow d a b = none) {κ ν : Type} [DecidableEq κ] (enc : κ → Value) (encv : ν → Value)
    (heq : ∀ k k' w, (Op.equal kt (enc k) (enc k')).run P w = .ok (decide (k = k')) w) (es : List MapEntry) (l : List (κ × ν)) (k : κ) (w : World) (h : es.map (fun e => (e.key, e.val)) = l.map (fun p => (enc p.1, encv p.2))) :
    (Instr.findKey kt (enc k) es).run P w = .ok ((lfind k l 0).map fun x => (x.1, encv x.2)) w := by
  have ha := findAsking_run enc encv k w (fun k' => heq k k' w) es l 0 h
  cases es with
  | nil => cases l with
    | nil => simp [Instr.findKey, run_underlying hk, Instr.findNow, lfind]
    | cons p l => simp at h
  | cons e es => simp [Instr.findKey, run_underlying hk, Instr.findNow, hs, ha]

theorem keyT_string {P : Program} {kt : TypeId} (hk : P.underlying kt = some .string) : KeyT P kt (fun s : ByteArray => .string s) where
  find encv es l k w h := by
    have h0 := findNow_run .string (fun s : ByteArray => Value.string s) encv k (fun k' => by simp only [Instr.sameNow]; rw [ba_beq]) es l 0 h
    simp [Instr.findKey, run_underlying hk, h0]
  check b k w := by show (Instr.checkKey b (9999 + 1) kt _).run P w = _; unfold Instr.checkKey; simp [run_underlying hk]
  same k := by show Instr.sameBits (9999 + 1) _ _ = _; unfold Instr.sameBits; simp [ba_beq]

theorem keyT_int {P : Program} {kt : TypeId} {q : IntKind} (hk : P.underlying kt = some (.int q)) : KeyT P kt (fun n : Int => .int q n) where
  find encv es l k w h := by
    have h0 := findNow_run (.int q) (fun n : Int => Value.int q n) encv k (fun k' => by simp only [Instr.sameNow, if_true]; rw [int_beq]) es l 0 h
    simp [Instr.findKey, run_underlying hk, h0]
  check b k w := by show (Instr.checkKey b (9999 + 1) kt _).run P w = _; unfold Instr.checkKey; simp [run_underlying hk]
  same k := by show Instr.sameBits (9999 + 1) _ _ = _; unfold Instr.sameBits; simp

/-- Block r is a map; its entries, in the order in which they were born, are l. -/
def MapL (w : World) (r : Nat) {κ ν : Type} (enc : κ → Value) (encv : ν → Value) (l : List (κ × ν)) : Prop :=
  ∃ es clock, w.heap[r]? = some (.map es clock) ∧ es.toList.map (fun e => (e.key, e.val)) = l.map (fun p => (enc p.1, encv p.2))

def lput {κ ν : Type} [DecidableEq κ] (k : κ) (x : ν) (l : List (κ × ν)) : List (κ × ν) :=
  match lfind k l 0 with
  | some (i, _) => l.set i (k, x)
  | none => l ++ [(k, x)]
def ldel {κ ν : Type} [DecidableEq κ] (k : κ) (l : List (κ × ν)) : List (κ × ν) :=
  match lfind k l 0 with
  | some (i, _) => l.eraseIdx i
  | none => l

theorem setBlock_chg (w : World) (r : Nat) (o : Obj) : Chg (fun k => k = r) w (Go.ChangeMaps.setBlock w r o) :=
  ⟨rfl, rfl, rfl, by simp [Go.ChangeMaps.setBlock], fun k _ hn => by simp only [Go.ChangeMaps.setBlock]; rw [Array.getElem?_setIfInBounds, if_neg (fun e => hn e.symm)]⟩

section
variable {κ ν : Type} {enc : κ → Value} {encv : ν → Value} {l : List (κ × ν)} {P : Program} {w : World} {r : Nat}

theorem MapL.lt (h : MapL w r enc encv l) : r < w.heap.size := by obtain ⟨_, _, h, _⟩ := h; exact heap_lt h
theorem MapL.chg {F : Nat → Prop} {w' : World} (h : MapL w r enc encv l) (hc : Chg F w w') (hF : ¬ F r) : MapL w' r enc encv l := by
  obtain ⟨es, clock, h1, h2⟩ := h
  exact ⟨es, clock, hc.obj h1 hF, h2⟩
theorem MapL.fresh (w : World) : MapL (w.alloc (.map #[] 0)) w.heap.size enc encv ([] : List (κ × ν)) := ⟨#[], 0, heap_alloc_new w _, rfl⟩

theorem MapL.len (h : MapL w r enc encv l) {kt t e : TypeId} (ht : P.underlying t = some (.map kt e)) (ty : TypeId) :
    (Builtin.len_ #[t] ty #[.map (some r)]).run P w = .ok (.int .i64 l.length) w := by
  obtain ⟨es, clock, h1, h2⟩ := h
  have hs : es.size = l.length := by have := congrArg List.length h2; simpa using this
  simp [Builtin.len_, run_underlying ht, MapKept.run_getObj_map h1, hs]
  rfl

variable [DecidableEq κ]
theorem lfind_bound {k : κ} : ∀ {l : List (κ × ν)} {i j : Nat} {x : ν}, lfind k l i = some (j, x) → i ≤ j ∧ j < i + l.length ∧ l[j - i]? = some (k, x)
  | [], _, _, _, h => by simp [lfind] at h
  | p :: l, i, j, x, h => by
    unfold lfind at h
    split at h
    · rename_i hk
      simp only [Option.some.injEq, Prod.mk.injEq] at h
      obtain ⟨rfl, rfl⟩ := h
      refine ⟨Nat.le_refl _, by simp, by simp [hk]⟩
    · obtain ⟨h1, h2, h3⟩ := lfind_bound h
      refine ⟨by omega, by simp; omega, ?_⟩
      rw [show j - i = (j - (i + 1)) + 1 from by omega, List.getElem?_cons_succ]
      exact h3
theorem lfind_none {k : κ} : ∀ {l : List (κ × ν)} {i : Nat}, lfind k l i = none ↔ ∀ p ∈ l, p.1 ≠ k
  | [], _ => by simp [lfind]
  | p :: l, i => by
    unfold lfind
    split
    · rename_i hk; simp [hk]
    · rename_i hk
      rw [lfind_none]
      simp only [List.mem_cons, forall_eq_or_imp]
      exact ⟨fun h => ⟨fun e => hk e.symm, h⟩, fun h => h.2⟩

theorem MapL.look (h : MapL w r enc encv l) {kt t e : TypeId} (K : KeyT P kt enc) (ht : P.underlying t = some (.map kt e)) {z : Value} (hz : (zeroValue e).run P w = .ok z w) (k : κ) (c : Bool) :
    (Instr.lookup t (.map (some r)) (enc k) c).run P w = .ok (if c then .tuple #[((lfind k l 0).map fun x => encv x.2).getD z, .bool (lfind k l 0).isSome] else ((lfind k l 0).map fun x => encv x.2).getD z) w := by
  obtain ⟨es, clock, h1, h2⟩ := h
  have hf := K.find encv es.toList l k w h2
  cases hl : lfind k l 0 with
  | none =>
    rw [hl] at hf
    simp [Instr.lookup, run_underlying ht, MapKept.run_getObj_map h1, K.check, hf, hz]
  | some x =>
    rw [hl] at hf
    simp [Instr.lookup, run_underlying ht, MapKept.run_getObj_map h1, K.check, hf]

theorem MapL.put (h : MapL w r enc encv l) {kt t e : TypeId} (K : KeyT P kt enc) (ht : P.underlying t = some (.map kt e)) (k : κ) (x : ν) :
    ∃ w', (Instr.mapUpdate t (.map (some r)) (enc k) (encv x)).run P w = .ok () w' ∧ MapL w' r enc encv (lput k x l) ∧ Chg (fun i => i = r) w w' := by
  obtain ⟨es, clock, h1, h2⟩ := h
  have hf := K.find encv es.toList l k w h2
  cases hl : lfind k l 0 with
  | none =>
    rw [hl] at hf
    refine ⟨Go.ChangeMaps.setBlock w r (.map (es.push { key := enc k, val := encv x, born := clock }) (clock + 1)), ?_, ⟨es.push { key := enc k, val := encv x, born := clock }, clock + 1, ?_, ?_⟩, setBlock_chg _ _ _⟩
    · simp [Instr.mapUpdate, run_underlying ht, MapKept.run_getObj_map h1, K.check, hf, MapKept.run_setObj_map _ h1, Go.ChangeMaps.setBlock]
    · simp only [Go.ChangeMaps.setBlock]; rw [Array.getElem?_setIfInBounds_self_of_lt (heap_lt h1)]
    · simp [lput, hl, h2]
  | some j =>
    obtain ⟨j, y⟩ := j
    rw [hl] at hf
    obtain ⟨_, hj, hg⟩ := lfind_bound hl
    simp only [Nat.sub_zero, Nat.zero_add] at hj hg
    have hes : (es.toList.map (fun e => (e.key, e.val)))[j]? = some (enc k, encv y) := by rw [h2]; simp [hg]
    obtain ⟨e', he', hkv⟩ : ∃ e', es[j]? = some e' ∧ (e'.key, e'.val) = (enc k, encv y) := by simpa using hes
    simp only [Prod.mk.injEq] at hkv
    refine ⟨Go.ChangeMaps.setBlock w r (.map (es.modify j fun e => { e with key := enc k, val := encv x }) clock), ?_, ⟨es.modify j fun e => { e with key := enc k, val := encv x }, clock, ?_, ?_⟩, setBlock_chg _ _ _⟩
    · simp [Instr.mapUpdate, run_underlying ht, MapKept.run_getObj_map h1, K.check, hf, he', hkv.1, Instr.keyThatStays, K.same, MapKept.run_setObj_map _ h1, Go.ChangeMaps.setBlock]
    · simp only [Go.ChangeMaps.setBlock]; rw [Array.getElem?_setIfInBounds_self_of_lt (heap_lt h1)]
    · simp only [lput, hl]
      apply List.ext_getElem?
      intro m
      have hm : (es.toList.map (fun e => (e.key, e.val)))[m]? = (l.map (fun p => (enc p.1, encv p.2)))[m]? := by rw [h2]
      simp only [List.getElem?_map, Array.getElem?_toList] at hm ⊢
      rw [Array.getElem?_modify, List.getElem?_set]
      by_cases hjm : j = m
      · subst hjm
        simp [he', hj]
      · simp only [hjm, if_false]; exact hm

theorem MapL.del (h : MapL w r enc encv l) {kt t e : TypeId} (K : KeyT P kt enc) (ht : P.underlying t = some (.map kt e)) (k : κ) (ty : TypeId) :
    ∃ w', (Builtin.delete_ #[t, kt] ty #[.map (some r), enc k]).run P w = .ok (.tuple #[]) w' ∧ MapL w' r enc encv (ldel k l) ∧ Chg (fun i => i = r) w w' := by
  obtain ⟨es, clock, h1, h2⟩ := h
  have hf := K.find encv es.toList l k w h2
  cases hl : lfind k l 0 with
  | none =>
    rw [hl] at hf
    refine ⟨Go.ChangeMaps.setBlock w r (.map es clock), ?_, ⟨es, clock, ?_, ?_⟩, setBlock_chg _ _ _⟩
    · simp [Builtin.delete_, run_underlying ht, MapKept.run_getObj_map h1, K.check, hf, MapKept.run_setObj_map _ h1, Go.ChangeMaps.setBlock]
    · simp only [Go.ChangeMaps.setBlock]; rw [Array.getElem?_setIfInBounds_self_of_lt (heap_lt h1)]
    · simp [ldel, hl, h2]
  | some j =>
    obtain ⟨j, y⟩ := j
    rw [hl] at hf
    refine ⟨Go.ChangeMaps.setBlock w r (.map (es.eraseIdxIfInBounds j) clock), ?_, ⟨es.eraseIdxIfInBounds j, clock, ?_, ?_⟩, setBlock_chg _ _ _⟩
    · simp [Builtin.delete_, run_underlying ht, MapKept.run_getObj_map h1, K.check, hf, MapKept.run_setObj_map _ h1, Go.ChangeMaps.setBlock]
    · simp only [Go.ChangeMaps.setBlock]; rw [Array.getElem?_setIfInBounds_self_of_lt (heap_lt h1)]
    · simp only [ldel, hl]
      have hE : (es.eraseIdxIfInBounds j).toList = es.toList.eraseIdx j := by simp
      rw [hE, map_erase, h2, map_erase]

variable {ops : Array Oper} {rest : List Oper} {o : Oper} {a : Act} {Q : Exit → Act → World → Prop}
theorem wpList_lookup_l (hg : o.guard = none) (m x : Operand) (t : TypeId) (c : Bool) (hop : o.op = Op.lookup t m x c) {kt e : TypeId} (K : KeyT P kt enc) (ht : P.underlying t = some (.map kt e))
    {z : Value} (hz : (zeroValue e).run P w = .ok z w) (hown : MapL w r enc encv l) (hm : a.eval m = .map (some r)) (k : κ) (hx : a.eval x = enc k)
    (hK : wpList P ops Q rest (a.put o.dst (if c then .tuple #[((lfind k l 0).map fun x => encv x.2).getD z, .bool (lfind k l 0).isSome] else ((lfind k l 0).map fun x => encv x.2).getD z)) w) :
    wpList P ops Q (o :: rest) a w := by
  refine wpList_plain hg fun K' hK' => ?_
  have hrun := hown.look K ht hz k c
  unfold Oper.wp
  simp only [execOp, hop, hm, hx, hrun, Sem.run_bind, Result.andThen, Oper.upon, Sem.run_pure]
  exact hK' _ _ hK
theorem wpList_mapUpdate_l (hg : o.guard = none) (m x v : Operand) (t : TypeId) (hop : o.op = Op.mapUpdate t m x v) {kt e : TypeId} (K : KeyT P kt enc) (ht : P.underlying t = some (.map kt e))
    (hown : MapL w r enc encv l) (hm : a.eval m = .map (some r)) (k : κ) (hx : a.eval x = enc k) (y : ν) (hv : a.eval v = encv y)
    (hK : ∀ w', MapL w' r enc encv (lput k y l) → Chg (fun i => i = r) w w' → wpList P ops Q rest (a.put o.dst undef) w') :
    wpList P ops Q (o :: rest) a w := by
  refine wpList_plain hg fun K' hK' => ?_
  obtain ⟨w', hrun, r1, r2⟩ := hown.put K ht k y
  unfold Oper.wp
  simp [execOp, hop, hm, hx, hv, hrun, Result.andThen]
  exact hK' _ _ (hK w' r1 r2)
theorem wpList_delete_l (hg : o.guard = none) (m x : Operand) (t kt : TypeId) (hop : o.op = Op.call { callee := Callee.builtin Builtin.delete, args := #[m, x], argTypes := #[t, kt] })
    {e : TypeId} (K : KeyT P kt enc) (ht : P.underlying t = some (.map kt e))
    (hown : MapL w r enc encv l) (hm : a.eval m = .map (some r)) (k : κ) (hx : a.eval x = enc k)
    (hK : ∀ w', MapL w' r enc encv (ldel k l) → Chg (fun i => i = r) w w' → wpList P ops Q rest (a.put o.dst (.tuple #[])) w') :
    wpList P ops Q (o :: rest) a w := by
  refine wpList_plain hg fun K' hK' => ?_
  obtain ⟨w', hrun, r1, r2⟩ := hown.del K ht k o.type
  unfold Oper.wp
  simp [execOp, hop, resolve, invoke, builtin, hm, hx, hrun, Result.andThen]
  exact hK' _ _ (hK w' r1 r2)
end
end Go.Proofs.YtafdcmhckpdnbaaDoor
