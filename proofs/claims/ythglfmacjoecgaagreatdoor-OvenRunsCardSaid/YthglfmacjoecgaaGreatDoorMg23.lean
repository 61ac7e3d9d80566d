/- Texts of the proof, one behind the other: Maps as lists of pairs: what a map's block holds, and the operations on it; What is read of a map behind a store and a delete; A build by its names: the map of places, in plain words; the block that holds it; What a build comes to, in plain words, whatever makes an action's result of its code and its inputs' results. No program in sight; trellis.woven walked. -/
import Derived.Test.YthglfmacjoecgaaGreatDoorMg01
import Derived.Maps.OwnSet
import Derived.Deep.QuietTactic
import Derived.Test.YthglfmacjoecgaaGreatDoorMg22
import Derived.StillTailTactics
import Derived.BigQuiet
namespace Go.Proofs.YthglfmacjoecgaaGreatDoor
open Go.RowKit

theorem ba_beq (a b : ByteArray) : (a == b) = decide (a = b) := by
  rcases a with ⟨a⟩; rcases b with ⟨b⟩
  show (a == b) = _
  by_cases h : a = b <;> simp [h]
theorem int_beq (a b : Int) : (a == b) = decide (a = b) := by
  by_cases h : a = b <;> simp [h]

theorem map_erase {α β : Type} (f : α → β) : ∀ (l : List α) (j : Nat), (l.eraseIdx j).map f = (l.map f).eraseIdx j
  | [], _ => by simp
  | _ :: _, 0 => by simp
  | _ :: l, j + 1 => by simp [map_erase f l j]

def lfind {κ ν : Type} [DecidableEq κ] (k : κ) : List (κ × ν) → Nat → Option (Nat × ν)
  | [], _ => none
  | p :: r, i => if k = p.1 then some (i, p.2) else lfind k r (i + 1)

/-- How a key's type is compared. -/
structure KeyT (P : Program) (kt : TypeId) {κ : Type} [DecidableEq κ] (enc : κ → Value) : Prop where
  find : ∀ {ν : Type} (encv : ν → Value) (es : List MapEntry) (l : List (κ × ν)) (k : κ) (w : World), es.map (fun e => (e.key, e.val)) = l.map (fun p => (enc p.1, encv p.2)) →
    (Instr.findKey kt (enc k) es).run P w = .ok ((lfind k l 0).map fun x => (x.1, encv x.2)) w
  check : ∀ b k w, (Instr.checkKey b 10000 kt (enc k)).run P w = .ok () w
  same : ∀ k, Instr.sameBits 10000 (enc k) (enc k) = true

theorem findAsking_run {P : Program} {kt : TypeId} {κ ν : Type} [DecidableEq κ] (enc : κ → Value) (encv : ν → Value) (k : κ) (w : World)
    (heq : ∀ k', (Op.equal kt (enc k) (enc k')).run P w = .ok (decide (k = k')) w) : ∀ (es : List MapEntry) (l : List (κ × ν)) (i : Nat), es.map (fun e => (e.key, e.val)) = l.map (fun p => (enc p.1, encv p.2)) →
    (Instr.findAsking kt (enc k) es i).run P w = .ok ((lfind k l i).map fun x => (x.1, encv x.2)) w
  | [], [], i, _ => by simp [Instr.findAsking, lfind]
  | [], _ :: _, _, h => by simp at h
  | _ :: _, [], _, h => by simp at h
  | e :: es, p :: l, i, h => by
    simp only [List.map_cons, List.cons.injEq, Prod.mk.injEq] at h
    have ih := findAsking_run enc encv k w heq es l (i + 1) h.2
    unfold Instr.findAsking lfind
    rw [h.1.1]
    by_cases hk : k = p.1
    · subst hk; simp [heq, h.1.2]
    · simp [heq, hk, ih]

theorem findNow_run {κ ν : Type} [DecidableEq κ] (d : TypeDesc) (enc : κ → Value) (encv : ν → Value) (k : κ)
    (heq : ∀ k', Instr.sameNow d (enc k) (enc k') = some (decide (k = k'))) : ∀ (es : List MapEntry) (l : List (κ × ν)) (i : Nat), es.map (fun e => (e.key, e.val)) = l.map (fun p => (enc p.1, encv p.2)) →
    Instr.findNow d (enc k) es i = some ((lfind k l i).map fun x => (x.1, encv x.2))
  | [], [], i, _ => by simp [Instr.findNow, lfind]
  | [], _ :: _, _, h => by simp at h
  | _ :: _, [], _, h => by simp at h
  | e :: es, p :: l, i, h => by
    simp only [List.map_cons, List.cons.injEq, Prod.mk.injEq] at h
    have ih := findNow_run d enc encv k heq es l (i + 1) h.2
    unfold Instr.findNow lfind
    rw [h.1.1, heq]
    by_cases hk : k = p.1
    · simp [hk, h.1.2]
    · simp [hk, ih]

theorem findKey_asking {P : Program} {kt : TypeId} {d : TypeDesc} (hk : P.underlying kt = some d) (hs : ∀ a b, Instr.sameNow d a b = none) {κ ν : Type} [DecidableEq κ] (enc : κ → Value) (encv : ν → Value)
    (heq : ∀ k k' w, (Op.equal kt (enc k) (enc k')).run P w = .ok (decide (k = k')) w) (es : List MapEntry) (l : List (κ × ν)) (k : κ) (w : World) (h : es.map (fun e => (e.key, e.val)) = l.map (fun p => (enc p.1, encv p.2))) :
    (Instr.findKey kt (enc k) es).run P w = .ok ((lfind k l 0).map fun x => (x.1, encv x.2)) w := by
  have ha := findAsking_run enc encv k w (fun k' => heq k k' w) es l 0 h
  cases es with
  | nil => cases l with
    | nil => simp [Instr.findKey, run_underlying hk, Instr.findNow, lfind]
    | cons p l => simp at h
  | cons e es => simp [Instr.findKey, run_underlying hk, Instr.findNow, hs, ha]

theorem keyT_string {P : Program} {kt : TypeId} (hk : P.underlying kt = some .string) : KeyT P kt (fun s : ByteArray => .string s) where
  find encv es l k w h := by
    have h0 := findNow_run .string (fun s : ByteArray => Value.string s) encv k (fun k' => by simp only [Instr.sameNow]; rw [ba_beq]) es l 0 h
    simp [Instr.findKey, run_underlying hk, h0]
  check b k w := by show (Instr.checkKey b (9999 + 1) kt _).run P w = _; unfold Instr.checkKey; simp [run_underlying hk]
  same k := by show Instr.sameBits (9999 + 1) _ _ = _; unfold Instr.sameBits; simp [ba_beq]

theorem keyT_int {P : Program} {kt : TypeId} {q : IntKind} (hk : P.underlying kt = some (.int q)) : KeyT P kt (fun n : Int => .int q n) where
  find encv es l k w h := by
    have h0 := findNow_run (.int q) (fun n : Int => Value.int q n) encv k (fun k' => by simp only [Instr.sameNow, if_true]; rw [int_beq]) es l 0 h
    simp [Instr.findKey, run_underlying hk, h0]
  check b k w := by show (Instr.checkKey b (9999 + 1) kt _).run P w = _; unfold Instr.checkKey; simp [run_underlying hk]
  same k := by show Instr.sameBits (9999 + 1) _ _ = _; unfold Instr.sameBits; simp

/-- Block r is a map; its entries, in the order in which they were born, are l. -/
def MapL (w : World) (r : Nat) {κ ν : Type} (enc : κ → Value) (encv : ν → Value) (l : List (κ × ν)) : Prop :=
  ∃ es clock, w.heap[r]? = some (.map es clock) ∧ es.toList.map (fun e => (e.key, e.val)) = l.map (fun p => (enc p.1, encv p.2))

def lput {κ ν : Type} [DecidableEq κ] (k : κ) (x : ν) (l : List (κ × ν)) : List (κ × ν) :=
  match lfind k l 0 with
  | some (i, _) => l.set i (k, x)
  | none => l ++ [(k, x)]
def ldel {κ ν : Type} [DecidableEq κ] (k : κ) (l : List (κ × ν)) : List (κ × ν) :=
  match lfind k l 0 with
  | some (i, _) => l.eraseIdx i
  | none => l

theorem setBlock_chg (w : World) (r : Nat) (o : Obj) : Chg (fun k => k = r) w (Go.ChangeMaps.setBlock w r o) :=
  ⟨rfl, rfl, rfl, by simp [Go.ChangeMaps.setBlock], fun k _ hn => by simp only [Go.ChangeMaps.setBlock]; rw [Array.getElem?_setIfInBounds, if_neg (fun e => hn e.symm)]⟩

section
variable {κ ν : Type} {enc : κ → Value} {encv : ν → Value} {l : List (κ × ν)} {P : Program} {w : World} {r : Nat}

theorem MapL.lt (h : MapL w r enc encv l) : r < w.heap.size := by obtain ⟨_, _, h, _⟩ := h; exact heap_lt h
theorem MapL.chg {F : Nat → Prop} {w' : World} (h : MapL w r enc encv l) (hc : Chg F w w') (hF : ¬ F r) : MapL w' r enc encv l := by
  obtain ⟨es, clock, h1, h2⟩ := h
  exact ⟨es, clock, hc.obj h1 hF, h2⟩
theorem MapL.fresh (w : World) : MapL (w.alloc (.map #[] 0)) w.heap.size enc encv ([] : List (κ × ν)) := ⟨#[], 0, heap_alloc_new w _, rfl⟩

theorem MapL.len (h : MapL w r enc encv l) {kt t e : TypeId} (ht : P.underlying t = some (.map kt e)) (ty : TypeId) :
    (Builtin.len_ #[t] ty #[.map (some r)]).run P w = .ok (.int .i64 l.length) w := by
  obtain ⟨es, clock, h1, h2⟩ := h
  have hs : es.size = l.length := by have := congrArg List.length h2; simpa using this
  simp [Builtin.len_, run_underlying ht, MapKept.run_getObj_map h1, hs]
  rfl

variable [DecidableEq κ]
theorem lfind_bound {k : κ} : ∀ {l : List (κ × ν)} {i j : Nat} {x : ν}, lfind k l i = some (j, x) → i ≤ j ∧ j < i + l.length ∧ l[j - i]? = some (k, x)
  | [], _, _, _, h => by simp [lfind] at h
  | p :: l, i, j, x, h => by
    unfold lfind at h
    split at h
    · rename_i hk
      simp only [Option.some.injEq, Prod.mk.injEq] at h
      obtain ⟨rfl, rfl⟩ := h
      refine ⟨Nat.le_refl _, by simp, by simp [hk]⟩
    · obtain ⟨h1, h2, h3⟩ := lfind_bound h
      refine ⟨by omega, by simp; omega, ?_⟩
      rw [show j - i = (j - (i + 1)) + 1 from by omega, List.getElem?_cons_succ]
      exact h3
theorem lfind_none {k : κ} : ∀ {l : List (κ × ν)} {i : Nat}, lfind k l i = none ↔ ∀ p ∈ l, p.1 ≠ k
  | [], _ => by simp [lfind]
  | p :: l, i => by
    unfold lfind
    split
    · rename_i hk; simp [hk]
    · rename_i hk
      rw [lfind_none]
      simp only [List.mem_cons, forall_eq_or_imp]
      exact ⟨fun h => ⟨fun e => hk e.symm, h⟩, fun h => h.2⟩

theorem MapL.look (h : MapL w r enc encv l) {kt t e : TypeId} (K : KeyT P kt enc) (ht : P.underlying t = some (.map kt e)) {z : Value} (hz : (zeroValue e).run P w = .ok z w) (k : κ) (c : Bool) :
    (Instr.lookup t (.map (some r)) (enc k) c).run P w = .ok (if c then .tuple #[((lfind k l 0).map fun x => encv x.2).getD z, .bool (lfind k l 0).isSome] else ((lfind k l 0).map fun x => encv x.2).getD z) w := by
  obtain ⟨es, clock, h1, h2⟩ := h
  have hf := K.find encv es.toList l k w h2
  cases hl : lfind k l 0 with
  | none =>
    rw [hl] at hf
    simp [Instr.lookup, run_underlying ht, MapKept.run_getObj_map h1, K.check, hf, hz]
  | some x =>
    rw [hl] at hf
    simp [Instr.lookup, run_underlying ht, MapKept.run_getObj_map h1, K.check, hf]

theorem MapL.put (h : MapL w r enc encv l) {kt t e : TypeId} (K : KeyT P kt enc) (ht : P.underlying t = some (.map kt e)) (k : κ) (x : ν) :
    ∃ w', (Instr.mapUpdate t (.map (some r)) (enc k) (encv x)).run P w = .ok () w' ∧ MapL w' r enc encv (lput k x l) ∧ Chg (fun i => i = r) w w' := by
  obtain ⟨es, clock, h1, h2⟩ := h
  have hf := K.find encv es.toList l k w h2
  cases hl : lfind k l 0 with
  | none =>
    rw [hl] at hf
    refine ⟨Go.ChangeMaps.setBlock w r (.map (es.push { key := enc k, val := encv x, born := clock }) (clock + 1)), ?_, ⟨es.push { key := enc k, val := encv x, born := clock }, clock + 1, ?_, ?_⟩, setBlock_chg _ _ _⟩
    · simp [Instr.mapUpdate, run_underlying ht, MapKept.run_getObj_map h1, K.check, hf, MapKept.run_setObj_map _ h1, Go.ChangeMaps.setBlock]
    · simp only [Go.ChangeMaps.setBlock]; rw [Array.getElem?_setIfInBounds_self_of_lt (heap_lt h1)]
    · simp [lput, hl, h2]
  | some j =>
    obtain ⟨j, y⟩ := j
    rw [hl] at hf
    obtain ⟨_, hj, hg⟩ := lfind_bound hl
    simp only [Nat.sub_zero, Nat.zero_add] at hj hg
    have hes : (es.toList.map (fun e => (e.key, e.val)))[j]? = some (enc k, encv y) := by rw [h2]; simp [hg]
    obtain ⟨e', he', hkv⟩ : ∃ e', es[j]? = some e' ∧ (e'.key, e'.val) = (enc k, encv y) := by simpa using hes
    simp only [Prod.mk.injEq] at hkv
    refine ⟨Go.ChangeMaps.setBlock w r (.map (es.modify j fun e => { e with key := enc k, val := encv x }) clock), ?_, ⟨es.modify j fun e => { e with key := enc k, val := encv x }, clock, ?_, ?_⟩, setBlock_chg _ _ _⟩
    · simp [Instr.mapUpdate, run_underlying ht, MapKept.run_getObj_map h1, K.check, hf, he', hkv.1, Instr.keyThatStays, K.same, MapKept.run_setObj_map _ h1, Go.ChangeMaps.setBlock]
    · simp only [Go.ChangeMaps.setBlock]; rw [Array.getElem?_setIfInBounds_self_of_lt (heap_lt h1)]
    · simp only [lput, hl]
      apply List.ext_getElem?
      intro m
      have hm : (es.toList.map (fun e => (e.key, e.val)))[m]? = (l.map (fun p => (enc p.1, encv p.2)))[m]? := by rw [h2]
      simp only [List.getElem?_map, Array.getElem?_toList] at hm ⊢
      rw [Array.getElem?_modify, List.getElem?_set]
      by_cases hjm : j = m
      · subst hjm
        simp [he', hj]
      · simp only [hjm, if_false]; exact hm

theorem MapL.del (h : MapL w r enc encv l) {kt t e : TypeId} (K : KeyT P kt enc) (ht : P.underlying t = some (.map kt e)) (k : κ) (ty : TypeId) :
    ∃ w', (Builtin.delete_ #[t, kt] ty #[.map (some r), enc k]).run P w = .ok (.tuple #[]) w' ∧ MapL w' r enc encv (ldel k l) ∧ Chg (fun i => i = r) w w' := by
  obtain ⟨es, clock, h1, h2⟩ := h
  have hf := K.find encv es.toList l k w h2
  cases hl : lfind k l 0 with
  | none =>
    rw [hl] at hf
    refine ⟨Go.ChangeMaps.setBlock w r (.map es clock), ?_, ⟨es, clock, ?_, ?_⟩, setBlock_chg _ _ _⟩
    · simp [Builtin.delete_, run_underlying ht, MapKept.run_getObj_map h1, K.check, hf, MapKept.run_setObj_map _ h1, Go.ChangeMaps.setBlock]
    · simp only [Go.ChangeMaps.setBlock]; rw [Array.getElem?_setIfInBounds_self_of_lt (heap_lt h1)]
    · simp [ldel, hl, h2]
  | some j =>
    obtain ⟨j, y⟩ := j
    rw [hl] at hf
    refine ⟨Go.ChangeMaps.setBlock w r (.map (es.eraseIdxIfInBounds j) clock), ?_, ⟨es.eraseIdxIfInBounds j, clock, ?_, ?_⟩, setBlock_chg _ _ _⟩
    · simp [Builtin.delete_, run_underlying ht, MapKept.run_getObj_map h1, K.check, hf, MapKept.run_setObj_map _ h1, Go.ChangeMaps.setBlock]
    · simp only [Go.ChangeMaps.setBlock]; rw [Array.getElem?_setIfInBounds_self_of_lt (heap_lt h1)]
    · simp only [ldel, hl]
      have hE : (es.eraseIdxIfInBounds j).toList = es.toList.eraseIdx j := by simp
      rw [hE, map_erase, h2, map_erase]

variable {ops : Array Oper} {rest : List Oper} {o : Oper} {a : Act} {Q : Exit → Act → World → Prop}
theorem wpList_lookup_l (hg : o.guard = none) (m x : Operand) (t : TypeId) (c : Bool) (hop : o.op = Op.lookup t m x c) {kt e : TypeId} (K : KeyT P kt enc) (ht : P.underlying t = some (.map kt e))
    {z : Value} (hz : (zeroValue e).run P w = .ok z w) (hown : MapL w r enc encv l) (hm : a.eval m = .map (some r)) (k : κ) (hx : a.eval x = enc k)
    (hK : wpList P ops Q rest (a.put o.dst (if c then .tuple #[((lfind k l 0).map fun x => encv x.2).getD z, .bool (lfind k l 0).isSome] else ((lfind k l 0).map fun x => encv x.2).getD z)) w) :
    wpList P ops Q (o :: rest) a w := by
  refine wpList_plain hg fun K' hK' => ?_
  have hrun := hown.look K ht hz k c
  unfold Oper.wp
  simp only [execOp, hop, hm, hx, hrun, Sem.run_bind, Result.andThen, Oper.upon, Sem.run_pure]
  exact hK' _ _ hK
theorem wpList_mapUpdate_l (hg : o.guard = none) (m x v : Operand) (t : TypeId) (hop : o.op = Op.mapUpdate t m x v) {kt e : TypeId} (K : KeyT P kt enc) (ht : P.underlying t = some (.map kt e))
    (hown : MapL w r enc encv l) (hm : a.eval m = .map (some r)) (k : κ) (hx : a.eval x = enc k) (y : ν) (hv : a.eval v = encv y)
    (hK : ∀ w', MapL w' r enc encv (lput k y l) → Chg (fun i => i = r) w w' → wpList P ops Q rest (a.put o.dst undef) w') :
    wpList P ops Q (o :: rest) a w := by
  refine wpList_plain hg fun K' hK' => ?_
  obtain ⟨w', hrun, r1, r2⟩ := hown.put K ht k y
  unfold Oper.wp
  simp [execOp, hop, hm, hx, hv, hrun, Result.andThen]
  exact hK' _ _ (hK w' r1 r2)
theorem wpList_delete_l (hg : o.guard = none) (m x : Operand) (t kt : TypeId) (hop : o.op = Op.call { callee := Callee.builtin Builtin.delete, args := #[m, x], argTypes := #[t, kt] })
    {e : TypeId} (K : KeyT P kt enc) (ht : P.underlying t = some (.map kt e))
    (hown : MapL w r enc encv l) (hm : a.eval m = .map (some r)) (k : κ) (hx : a.eval x = enc k)
    (hK : ∀ w', MapL w' r enc encv (ldel k l) → Chg (fun i => i = r) w w' → wpList P ops Q rest (a.put o.dst (.tuple #[])) w') :
    wpList P ops Q (o :: rest) a w := by
  refine wpList_plain hg fun K' hK' => ?_
  obtain ⟨w', hrun, r1, r2⟩ := hown.del K ht k o.type
  unfold Oper.wp
  simp [execOp, hop, resolve, invoke, builtin, hm, hx, hrun, Result.andThen]
  exact hK' _ _ (hK w' r1 r2)
end
end Go.Proofs.YthglfmacjoecgaaGreatDoor
namespace Go.Proofs.YthglfmacjoecgaaGreatDoor
open Go.RowKit

section
variable {κ ν : Type} [DecidableEq κ]
def lval (k : κ) (l : List (κ × ν)) : Option ν := (lfind k l 0).map (·.2)
theorem lfind_shift (k : κ) : ∀ (l : List (κ × ν)) (i : Nat), lfind k l i = (lfind k l 0).map fun x => (x.1 + i, x.2)
  | [], _ => rfl
  | p :: l, i => by
    unfold lfind
    by_cases h : k = p.1
    · simp [h]
    · rw [if_neg h, if_neg h, lfind_shift k l (i + 1), lfind_shift k l 1]
      cases lfind k l 0 <;> simp; omega
theorem lval_nil (k : κ) : lval k ([] : List (κ × ν)) = none := rfl
theorem lval_cons (k : κ) (p : κ × ν) (l : List (κ × ν)) : lval k (p :: l) = if k = p.1 then some p.2 else lval k l := by
  unfold lval
  rw [lfind]
  by_cases h : k = p.1
  · simp [h]
  · rw [if_neg h, if_neg h, lfind_shift k l 1]
    cases lfind k l 0 <;> rfl
theorem lval_none {k : κ} {l : List (κ × ν)} : lval k l = none ↔ ∀ p ∈ l, p.1 ≠ k := by
  unfold lval
  rw [Option.map_eq_none_iff]
  exact lfind_none
theorem lput_cons (k : κ) (x : ν) (p : κ × ν) (l : List (κ × ν)) : lput k x (p :: l) = if k = p.1 then (k, x) :: l else p :: lput k x l := by
  unfold lput
  rw [lfind]
  by_cases h : k = p.1
  · simp [h]
  · rw [if_neg h, if_neg h, lfind_shift k l 1]
    cases lfind k l 0 <;> rfl
theorem ldel_cons (k : κ) (p : κ × ν) (l : List (κ × ν)) : ldel k (p :: l) = if k = p.1 then l else p :: ldel k l := by
  unfold ldel
  rw [lfind]
  by_cases h : k = p.1
  · simp [h]
  · rw [if_neg h, if_neg h, lfind_shift k l 1]
    cases lfind k l 0 <;> rfl
theorem lval_put (k k' : κ) (x : ν) : ∀ (l : List (κ × ν)), lval k (lput k' x l) = if k = k' then some x else lval k l
  | [] => by
    have : lput k' x ([] : List (κ × ν)) = [(k', x)] := rfl
    rw [this, lval_cons]
  | p :: l => by
    rw [lput_cons]
    by_cases h : k' = p.1
    · rw [if_pos h, lval_cons, lval_cons]
      by_cases h2 : k = k'
      · rw [if_pos h2, if_pos h2]
      · rw [if_neg h2, if_neg h2, if_neg (by rw [← h]; exact h2)]
    · rw [if_neg h, lval_cons, lval_cons, lval_put k k' x l]
      by_cases h2 : k = k'
      · subst h2; simp [h]
      · simp [h2]
theorem keys_put (k' : κ) (x : ν) : ∀ (l : List (κ × ν)) (k : κ), k ∈ (lput k' x l).map Prod.fst ↔ k = k' ∨ k ∈ l.map Prod.fst
  | [], k => by
    have : lput k' x ([] : List (κ × ν)) = [(k', x)] := rfl
    rw [this]; simp
  | p :: l, k => by
    rw [lput_cons]
    by_cases h : k' = p.1
    · rw [if_pos h]
      simp only [List.map_cons, List.mem_cons]
      rw [← h]
      constructor
      · rintro (h | h)
        · exact .inl h
        · exact .inr (.inr h)
      · rintro (h | h | h)
        · exact .inl h
        · exact .inl h
        · exact .inr h
    · rw [if_neg h]
      simp only [List.map_cons, List.mem_cons]
      rw [keys_put k' x l k]
      constructor
      · rintro (h | h | h)
        · exact .inr (.inl h)
        · exact .inl h
        · exact .inr (.inr h)
      · rintro (h | h | h)
        · exact .inr (.inl h)
        · exact .inl h
        · exact .inr (.inr h)
theorem nodup_put (k' : κ) (x : ν) : ∀ (l : List (κ × ν)), (l.map Prod.fst).Nodup → ((lput k' x l).map Prod.fst).Nodup
  | [], _ => by
    have : lput k' x ([] : List (κ × ν)) = [(k', x)] := rfl
    rw [this]; simp
  | p :: l, h => by
    rw [lput_cons]
    simp only [List.map_cons, List.nodup_cons] at h
    by_cases hk : k' = p.1
    · rw [if_pos hk]
      simp only [List.map_cons, List.nodup_cons]
      rw [hk]
      exact h
    · rw [if_neg hk]
      simp only [List.map_cons, List.nodup_cons]
      refine ⟨fun hm => ?_, nodup_put k' x l h.2⟩
      rcases (keys_put k' x l p.1).1 hm with h1 | h1
      · exact hk h1.symm
      · exact h.1 h1
theorem ldel_sub (k' : κ) : ∀ (l : List (κ × ν)) (k : κ), k ∈ (ldel k' l).map Prod.fst → k ∈ l.map Prod.fst
  | [], _, h => h
  | p :: l, k, h => by
    rw [ldel_cons] at h
    by_cases hk : k' = p.1
    · rw [if_pos hk] at h
      exact List.mem_cons_of_mem _ h
    · rw [if_neg hk] at h
      simp only [List.map_cons, List.mem_cons] at h ⊢
      exact h.imp id (ldel_sub k' l k)
theorem nodup_del (k' : κ) : ∀ (l : List (κ × ν)), (l.map Prod.fst).Nodup → ((ldel k' l).map Prod.fst).Nodup
  | [], h => h
  | p :: l, h => by
    simp only [List.map_cons, List.nodup_cons] at h
    rw [ldel_cons]
    by_cases hk : k' = p.1
    · rw [if_pos hk]; exact h.2
    · rw [if_neg hk]
      simp only [List.map_cons, List.nodup_cons]
      exact ⟨fun hm => h.1 (ldel_sub k' l p.1 hm), nodup_del k' l h.2⟩
theorem lval_del (k k' : κ) : ∀ (l : List (κ × ν)), (l.map Prod.fst).Nodup → lval k (ldel k' l) = if k = k' then none else lval k l
  | [], _ => by
    have : ldel k' ([] : List (κ × ν)) = [] := rfl
    rw [this, lval_nil]; split <;> rfl
  | p :: l, h => by
    simp only [List.map_cons, List.nodup_cons] at h
    rw [ldel_cons]
    by_cases hk : k' = p.1
    · rw [if_pos hk, lval_cons]
      by_cases h2 : k = k'
      · rw [if_pos h2, lval_none]
        intro q hq e
        exact h.1 (List.mem_map.2 ⟨q, hq, by rw [e, h2, hk]⟩)
      · rw [if_neg h2, if_neg (by rw [← hk]; exact h2)]
    · rw [if_neg hk, lval_cons, lval_cons, lval_del k k' l h.2]
      by_cases h2 : k = k'
      · subst h2; simp [hk]
      · simp [h2]
end

/-- A callee that leaves the world alone, inside a region that only reads. -/
theorem quietR {P : Program} {f : FuncId} {args : Array Value} {w : World} {n : Nat} {v : Value}
    (h : Calls P f args (w.drewN n) (Rets v (fun w' => w.drewN n = w'))) : Calls P f args (w.drewN n) fun e w'' => e = .returned v ∧ ∃ m, w'' = w.drewN m :=
  h.mono fun _ _ ⟨he, hm⟩ => ⟨he, n, hm.symm⟩
end Go.Proofs.YthglfmacjoecgaaGreatDoor
namespace Go.Proofs.YthglfmacjoecgaaGreatDoor
open Go.RowKit

abbrev nmV : Nm → Value := fun s => .string (bs s)
abbrev intV : Int → Value := fun n => .int .i64 n
abbrev boolV : Bool → Value := fun b => .bool b
theorem keyT_nm {P : Program} {kt : TypeId} (hk : P.underlying kt = some .string) : KeyT P kt nmV where
  find encv es l k w h := by
    have h0 := findNow_run .string nmV encv k (fun k' => by
      simp only [Instr.sameNow]
      rw [ba_beq]
      by_cases e : k = k'
      · subst e; simp
      · have : ¬ bs k = bs k' := fun h => e (bs_inj h)
        simp [e, this]) es l 0 h
    simp [Instr.findKey, run_underlying hk, h0]
  check b k w := by show (Instr.checkKey b (9999 + 1) kt _).run P w = _; unfold Instr.checkKey; simp [run_underlying hk]
  same k := by show Instr.sameBits (9999 + 1) _ _ = _; unfold Instr.sameBits; simp [ba_beq]
theorem keyNm : KeyT Tryz.prog 9 nmV := keyT_nm Tryz.underlying9

section
variable {κ ν : Type} {enc : κ → Value} {encv : ν → Value} {l : List (κ × ν)} {P : Program} {w : World} {r : Nat} [DecidableEq κ]
theorem getD_lval (k : κ) (l : List (κ × ν)) (z : Value) : ((lfind k l 0).map fun x => encv x.2).getD z = ((lval k l).map encv).getD z := by
  unfold lval
  cases lfind k l 0 <;> rfl
theorem isSome_lval (k : κ) (l : List (κ × ν)) : (lfind k l 0).isSome = (lval k l).isSome := by
  unfold lval
  cases lfind k l 0 <;> rfl
variable {ops : Array Oper} {rest : List Oper} {o : Oper} {a : Act} {Q : Exit → Act → World → Prop}
/-- A look-up, its answer given. -/
theorem wpList_lookup_v (hg : o.guard = none) (m x : Operand) (t : TypeId) (hop : o.op = Op.lookup t m x false) {kt e : TypeId} (K : KeyT P kt enc) (ht : P.underlying t = some (.map kt e))
    {z : Value} (hz : (zeroValue e).run P w = .ok z w) (hown : MapL w r enc encv l) (hm : a.eval m = .map (some r)) (k : κ) (hx : a.eval x = enc k) (v : Value) (hv : ((lval k l).map encv).getD z = v)
    (hK : wpList P ops Q rest (a.put o.dst v) w) : wpList P ops Q (o :: rest) a w :=
  wpList_lookup_l hg m x t false hop K ht hz hown hm k hx (by rw [getD_lval, hv]; exact hK)
/-- The same where a guard stands ahead that is met. -/
theorem wpList_plainW (hw : Region.wanted o (yielded ops a.tmps) = true)
    (h : ∀ K : Act → World → Prop, (∀ a w, wpList P ops Q rest a w → K a w) → o.wp P a w K Q) : wpList P ops Q (o :: rest) a w :=
  wpList_step fun K hK => by rw [hw]; exact h K hK
theorem wpList_lookup_w (hw : Region.wanted o (yielded ops a.tmps) = true) (m x : Operand) (t : TypeId) (hop : o.op = Op.lookup t m x false) {kt e : TypeId} (K : KeyT P kt enc) (ht : P.underlying t = some (.map kt e))
    {z : Value} (hz : (zeroValue e).run P w = .ok z w) (hown : MapL w r enc encv l) (hm : a.eval m = .map (some r)) (k : κ) (hx : a.eval x = enc k) (v : Value) (hv : ((lval k l).map encv).getD z = v)
    (hK : wpList P ops Q rest (a.put o.dst v) w) : wpList P ops Q (o :: rest) a w := by
  refine wpList_plainW hw fun K' hK' => ?_
  have hrun := hown.look K ht hz k false
  rw [getD_lval, hv] at hrun
  unfold Oper.wp
  simp only [execOp, hop, hm, hx, hrun, Sem.run_bind, Result.andThen, Oper.upon, Sem.run_pure]
  exact hK' _ _ hK
theorem wpList_lookup_ok (hg : o.guard = none) (m x : Operand) (t : TypeId) (hop : o.op = Op.lookup t m x true) {kt e : TypeId} (K : KeyT P kt enc) (ht : P.underlying t = some (.map kt e))
    {z : Value} (hz : (zeroValue e).run P w = .ok z w) (hown : MapL w r enc encv l) (hm : a.eval m = .map (some r)) (k : κ) (hx : a.eval x = enc k) (v : Value) (hv : ((lval k l).map encv).getD z = v) (b : Bool) (hb : (lval k l).isSome = b)
    (hK : wpList P ops Q rest (a.put o.dst (.tuple #[v, .bool b])) w) : wpList P ops Q (o :: rest) a w :=
  wpList_lookup_l hg m x t true hop K ht hz hown hm k hx (by rw [getD_lval, isSome_lval, hv, hb]; exact hK)
theorem MapL.run_lookup (hown : MapL w r enc encv l) {t kt e : TypeId} (K : KeyT P kt enc) (ht : P.underlying t = some (.map kt e)) {z : Value} (hz : ∀ w, (zeroValue e).run P w = .ok z w) (k : κ) (v : Value) (hv : ((lval k l).map encv).getD z = v) (n : Nat) :
    (Instr.lookup t (.map (some r)) (enc k) false).run P (w.drewN n) = .ok v (w.drewN n) := by
  have h : MapL (w.drewN n) r enc encv l := hown
  rw [h.look K ht (hz _) k false, getD_lval, hv]
  rfl

def atL (ps : List (κ × ν)) : List (κ × ν) := ps.foldl (fun l p => lput p.1 p.2 l) []
theorem atL_snoc (ps : List (κ × ν)) (p : κ × ν) : atL (ps ++ [p]) = lput p.1 p.2 (atL ps) := by
  unfold atL; rw [List.foldl_append]; rfl
theorem atL_take (ps : List (κ × ν)) (n : Nat) (h : n < ps.length) : atL (ps.take (n + 1)) = lput ps[n].1 ps[n].2 (atL (ps.take n)) := by
  rw [List.take_succ_eq_append_getElem h, atL_snoc]
theorem lput_new {k : κ} {x : ν} {l : List (κ × ν)} (h : k ∉ l.map Prod.fst) : lput k x l = l ++ [(k, x)] := by
  unfold lput
  have : lfind k l 0 = none := by
    rw [lfind_none]
    intro p hp e
    exact h (List.mem_map.2 ⟨p, hp, e⟩)
  rw [this]
theorem lput_old {k : κ} {x : ν} {l : List (κ × ν)} (h : k ∈ l.map Prod.fst) : (lput k x l).length = l.length := by
  unfold lput
  cases hf : lfind k l 0 with
  | none =>
    obtain ⟨p, hp, e⟩ := List.mem_map.1 h
    exact absurd e (lfind_none.1 hf p hp)
  | some q => simp
theorem keys_foldl : ∀ (ps : List (κ × ν)) (l : List (κ × ν)) (k : κ), k ∈ (ps.foldl (fun l p => lput p.1 p.2 l) l).map Prod.fst ↔ k ∈ l.map Prod.fst ∨ k ∈ ps.map Prod.fst
  | [], l, k => by simp
  | p :: ps, l, k => by
    rw [List.foldl_cons, keys_foldl ps, keys_put]
    simp only [List.map_cons, List.mem_cons]
    constructor
    · rintro ((h | h) | h)
      · exact .inr (.inl h)
      · exact .inl h
      · exact .inr (.inr h)
    · rintro (h | h | h)
      · exact .inl (.inr h)
      · exact .inl (.inl h)
      · exact .inr h
theorem foldl_length : ∀ (ps : List (κ × ν)) (l : List (κ × ν)), (l.map Prod.fst).Nodup → (ps.foldl (fun l p => lput p.1 p.2 l) l).length ≤ l.length + ps.length ∧
    ((ps.foldl (fun l p => lput p.1 p.2 l) l).length = l.length + ps.length → ((l ++ ps).map Prod.fst).Nodup) ∧ (((l ++ ps).map Prod.fst).Nodup → ps.foldl (fun l p => lput p.1 p.2 l) l = l ++ ps)
  | [], l, h => by simp [h]
  | p :: ps, l, h => by
    rw [List.foldl_cons]
    have ih := foldl_length ps (lput p.1 p.2 l) (nodup_put _ _ l h)
    by_cases hk : p.1 ∈ l.map Prod.fst
    · have hl := lput_old (x := p.2) hk
      refine ⟨by have := ih.1; rw [hl] at this; simp; omega, fun e => ?_, fun e => ?_⟩
      · have := ih.1; rw [hl] at this; simp at e; omega
      · rw [List.map_append, List.nodup_append] at e
        exact absurd rfl (e.2.2 _ hk p.1 (by simp))
    · have hl : (lput p.1 p.2 l) = l ++ [p] := lput_new hk
      rw [hl] at ih ⊢
      rw [List.append_assoc] at ih
      refine ⟨by have := ih.1; simp at this ⊢; omega, fun e => ih.2.1 (by simp at e ⊢; omega), fun e => ih.2.2 e⟩
theorem atL_length (ps : List (κ × ν)) : (atL ps).length ≤ ps.length ∧ ((atL ps).length = ps.length ↔ (ps.map Prod.fst).Nodup) ∧ ((ps.map Prod.fst).Nodup → atL ps = ps) := by
  have h := foldl_length ps [] (by simp)
  simp only [List.length_nil, Nat.zero_add, List.nil_append] at h
  exact ⟨h.1, ⟨h.2.1, fun e => by unfold atL; rw [h.2.2 e]⟩, h.2.2⟩
theorem lval_mem {k : κ} {x : ν} : ∀ {l : List (κ × ν)}, (l.map Prod.fst).Nodup → (k, x) ∈ l → lval k l = some x
  | p :: l, hn, h => by
    rw [List.map_cons, List.nodup_cons] at hn
    rw [lval_cons]
    rcases List.mem_cons.1 h with rfl | h
    · simp
    · rw [if_neg]
      · exact lval_mem hn.2 h
      · intro e
        exact hn.1 (List.mem_map.2 ⟨_, h, by rw [← e]⟩)
end

/-- The places by names: -1 of sources. -/
def atPs (g : GrR) : List (Nm × Int) := g.srcs.map (fun s => (s, (-1 : Int))) ++ (List.range g.acts.length).map (fun i => (nameAt g i, (i : Int)))
theorem atPs_keys (g : GrR) : (atPs g).map Prod.fst = namesL g := by
  unfold atPs namesL
  rw [List.map_append, List.map_map, List.map_map]
  congr 1
  · calc g.srcs.map (Prod.fst ∘ fun s => (s, (-1 : Int))) = g.srcs.map id := List.map_congr_left (fun _ _ => rfl)
      _ = g.srcs := List.map_id _
  · apply List.ext_getElem
    · simp
    · intro i h1 h2
      simp only [List.length_map, List.length_range] at h1
      simp only [List.getElem_map, List.getElem_range, Function.comp]
      exact nameAt_lt g i h1
theorem atPs_length (g : GrR) : (atPs g).length = g.srcs.length + g.acts.length := by unfold atPs; simp
theorem atPs_src (g : GrR) (k : Nat) (h : k < g.srcs.length) : (atPs g)[k]'(by rw [atPs_length]; omega) = (g.srcs[k], -1) := by
  unfold atPs
  rw [List.getElem_append_left (by simpa using h)]
  simp
theorem atPs_act (g : GrR) (k : Nat) (h : k < g.acts.length) : (atPs g)[g.srcs.length + k]'(by rw [atPs_length]; omega) = (nameAt g k, (k : Int)) := by
  unfold atPs
  rw [List.getElem_append_right (by simp)]
  simp
/-- What the map of places holds. -/
def atV (g : GrR) (s : Nm) : Option Int := match placeOf g s with
  | some i => some (i : Int)
  | none => if s ∈ g.srcs then some (-1) else none
theorem Wov.at {g : GrR} (h : Wov g) (s : Nm) : lval s (atL (atPs g)) = atV g s := by
  have hn : ((atPs g).map Prod.fst).Nodup := by rw [atPs_keys]; exact h.nd
  rw [(atL_length (atPs g)).2.2 hn]
  unfold atV
  cases hp : placeOf g s with
  | some i =>
    obtain ⟨hi, e⟩ := placeOf_some hp
    refine lval_mem hn ?_
    have := List.getElem_mem (l := atPs g) (n := g.srcs.length + i) (by rw [atPs_length]; omega)
    rwa [atPs_act g i hi, e] at this
  | none =>
    by_cases hs : s ∈ g.srcs
    · simp only [hs, if_true]
      refine lval_mem hn ?_
      obtain ⟨k, hk, rfl⟩ := List.mem_iff_getElem.1 hs
      have := List.getElem_mem (l := atPs g) (n := k) (by rw [atPs_length]; omega)
      rwa [atPs_src g k hk] at this
    · simp only [hs, if_false]
      rw [lval_none]
      intro p hp2 e
      have : s ∈ namesL g := by rw [← atPs_keys]; exact List.mem_map.2 ⟨p, hp2, e⟩
      rcases mem_names.1 this with h1 | ⟨i, hi, e2⟩
      · exact hs h1
      · exact placeOf_none hp i hi e2
theorem atV_isSome (g : GrR) (s : Nm) : (atV g s).isSome = (namesL g).contains s := by
  unfold atV
  cases hp : placeOf g s with
  | some i =>
    obtain ⟨hi, e⟩ := placeOf_some hp
    have : s ∈ namesL g := mem_names.2 (.inr ⟨i, hi, e⟩)
    simp [this]
  | none =>
    by_cases hs : s ∈ g.srcs
    · have : s ∈ namesL g := mem_names.2 (.inl hs)
      simp [hs, this]
    · have : s ∉ namesL g := by
        intro h
        rcases mem_names.1 h with h1 | ⟨i, hi, e2⟩
        · exact hs h1
        · exact placeOf_none hp i hi e2
      simp [hs, this]
theorem dup_length (g : GrR) : (atL (atPs g)).length = g.srcs.length + g.acts.length ↔ dupB g = false := by
  have h := atL_length (atPs g)
  rw [← atPs_length, h.2.1, atPs_keys]
  unfold dupB
  simp

theorem at_isSome (g : GrR) (s : Nm) : (lval s (atL (atPs g))).isSome = (namesL g).contains s := by
  have h := keys_foldl (atPs g) [] s
  rw [atPs_keys] at h
  simp only [List.map_nil, List.not_mem_nil, false_or] at h
  cases hl : lval s (atL (atPs g)) with
  | none =>
    rw [lval_none] at hl
    have : s ∉ namesL g := fun hs => by
      obtain ⟨p, hp, e⟩ := List.mem_map.1 (h.2 hs)
      exact hl p hp e
    simp [this]
  | some x =>
    have : s ∈ namesL g := by
      apply h.1
      by_cases hc : s ∈ (List.foldl (fun l p => lput p.1 p.2 l) [] (atPs g)).map Prod.fst
      · exact hc
      · exfalso
        have h2 : lval s (atL (atPs g)) = none := lval_none.2 (fun p hp e => hc (List.mem_map.2 ⟨p, hp, e⟩))
        rw [hl] at h2; cases h2
    simp [this]

/-- Block b holds the build g by its names. -/
structure WebAt (w : World) (b : Nat) (g : GrR) (sv av : Value) (iv : Nat → Value) (r : Nat) (l : List (Nm × Int)) : Prop where
  blk : w.heap[b]? = some (.cells #[sv, av, .map (some r)] 150 (0, 0))
  srcs : NamesAt w sv g.srcs
  acts : ActsAt w av g.acts iv
  map : MapL w r nmV intV l
  look : ∀ s, lval s l = atV g s
theorem WebAt.chg {F : Nat → Prop} {w w' : World} {b : Nat} {g : GrR} {sv av : Value} {iv : Nat → Value} {r : Nat} {l : List (Nm × Int)} (h : WebAt w b g sv av iv r l) (hc : Chg F w w') (hF : ∀ k, k < w.heap.size → ¬ F k) : WebAt w' b g sv av iv r l :=
  ⟨hc.obj h.blk (hF _ (heap_lt h.blk)), h.srcs.chg hc hF, h.acts.chg hc hF, h.map.chg hc (hF _ h.map.lt), h.look⟩
def IsWeb (w : World) (b : Nat) (g : GrR) : Prop := ∃ sv av iv r l, WebAt w b g sv av iv r l
theorem IsWeb.chg {F : Nat → Prop} {w w' : World} {b : Nat} {g : GrR} (h : IsWeb w b g) (hc : Chg F w w') (hF : ∀ k, k < w.heap.size → ¬ F k) : IsWeb w' b g := by
  obtain ⟨sv, av, iv, r, l, h⟩ := h
  exact ⟨sv, av, iv, r, l, h.chg hc hF⟩
end Go.Proofs.YthglfmacjoecgaaGreatDoor
namespace Go.Proofs.YthglfmacjoecgaaGreatDoor
open Go

abbrev ResR := Int × ByteArray
abbrev SrcR := Nm × ByteArray
def noRes : ResR := (0, ByteArray.empty)
def codeAt (g : GrR) (i : Nat) : List UInt8 := (g.acts.getD i noAct).code
theorem codeAt_lt (g : GrR) (i : Nat) (h : i < g.acts.length) : codeAt g i = g.acts[i].code := by unfold codeAt; rw [getD_of_lt _ _ _ h]

section
variable (F : List UInt8 → List ResR → ResR) (g : GrR)
/-- What lies under a name. -/
def valT (t : List (Nm × ResR)) (s : Nm) : ResR := (lval s t).getD noRes
def insT2 (t : List (Nm × ResR)) (i : Nat) : List ResR := (insAt g i).map (valT t)
def stepT (t : List (Nm × ResR)) (i : Nat) : List (Nm × ResR) := lput (nameAt g i) (F (codeAt g i) (insT2 g t i)) t
def srcT (srcs : List SrcR) : List (Nm × ResR) := atL (srcs.map fun s => (s.1, ((0 : Int), s.2)))
def foldT (srcs : List SrcR) (l : List Nat) : List (Nm × ResR) := l.foldl (stepT F g) (srcT srcs)
/-- All that is there in the end. -/
def madeT (srcs : List SrcR) : List (Nm × ResR) := foldT F g srcs (orderR g)

theorem foldT_snoc (srcs : List SrcR) (l : List Nat) (i : Nat) : foldT F g srcs (l ++ [i]) = stepT F g (foldT F g srcs l) i := by unfold foldT; rw [List.foldl_append]; rfl
theorem stepT_val (t : List (Nm × ResR)) (i : Nat) (s : Nm) : lval s (stepT F g t i) = if s = nameAt g i then some (F (codeAt g i) (insT2 g t i)) else lval s t := by
  unfold stepT
  rw [lval_put]
/-- What is not made by these places is as it was. -/
theorem foldl_other : ∀ (l : List Nat) (t : List (Nm × ResR)) (s : Nm), (∀ j ∈ l, nameAt g j ≠ s) → lval s (l.foldl (stepT F g) t) = lval s t
  | [], _, _, _ => rfl
  | i :: l, t, s, h => by
    rw [List.foldl_cons, foldl_other l _ s (fun j hj => h j (by simp [hj])), stepT_val, if_neg (fun e => h i (by simp) e.symm)]
/-- The sources fit the build: just those that it names, each once. -/
structure Fit (srcs : List SrcR) : Prop where
  nd : (srcs.map Prod.fst).Nodup
  mem : ∀ s, s ∈ srcs.map Prod.fst ↔ s ∈ g.srcs
variable {F g}
theorem srcT_eq {srcs : List SrcR} (h : (srcs.map Prod.fst).Nodup) : srcT srcs = srcs.map fun s => (s.1, ((0 : Int), s.2)) := by
  unfold srcT
  refine (atL_length _).2.2 ?_
  rw [List.map_map]
  exact h
theorem srcT_mem {srcs : List SrcR} (h : (srcs.map Prod.fst).Nodup) {s : SrcR} (hs : s ∈ srcs) : lval s.1 (srcT srcs) = some (0, s.2) := by
  rw [srcT_eq h]
  refine lval_mem ?_ (List.mem_map.2 ⟨s, hs, rfl⟩)
  rw [List.map_map]
  exact h
theorem srcT_none {srcs : List SrcR} (h : (srcs.map Prod.fst).Nodup) {s : Nm} (hs : s ∉ srcs.map Prod.fst) : lval s (srcT srcs) = none := by
  rw [srcT_eq h, lval_none]
  intro p hp
  obtain ⟨x, hx, rfl⟩ := List.mem_map.1 hp
  exact fun e => hs (List.mem_map.2 ⟨x, hx, e⟩)
theorem names_inj {l : List Nat} (hw : Wov g) (ho : Ordd g l) {i j : Nat} (hi : i ∈ l) (hj : j ∈ l) (h : nameAt g i = nameAt g j) : i = j := hw.inj (ho.lt i hi) (ho.lt j hj) h
/-- A source's value never changes. -/
theorem fold_src (hw : Wov g) {srcs : List SrcR} {l : List Nat} (ho : Ordd g l) {s : Nm} (hs : s ∈ g.srcs) : lval s (foldT F g srcs l) = lval s (srcT srcs) :=
  foldl_other F g l _ s (fun j hj e => hw.apart (ho.lt j hj) (e ▸ hs))
theorem Ordd.left {l : List Nat} {i : Nat} (h : Ordd g (l ++ [i])) : Ordd g l ∧ i ∉ l ∧ i < g.acts.length ∧ ∀ s ∈ insAt g i, s ∈ g.srcs ∨ ∃ j ∈ l, nameAt g j = s := by
  have hn := List.nodup_append.1 h.nd
  refine ⟨⟨hn.1, fun j hj => h.lt j (by simp [hj]), fun k hk s hs => ?_⟩, fun hi => hn.2.2 i hi i (by simp) rfl, h.lt i (by simp), fun s hs => ?_⟩
  · rcases h.sup k (by simp; omega) s (by rw [List.getElem_append_left hk]; exact hs) with h1 | ⟨j, hj, h1⟩
    · exact .inl h1
    · exact .inr ⟨j, hj, by rw [List.getElem_append_left (by omega)] at h1; exact h1⟩
  · rcases h.sup l.length (by simp) s (by rw [List.getElem_append_right (Nat.le_refl _)]; simpa using hs) with h1 | ⟨j, hj, h1⟩
    · exact .inl h1
    · exact .inr ⟨l[j], List.getElem_mem hj, by rw [List.getElem_append_left hj] at h1; exact h1⟩
/-- Each action that has been made is what its code makes of what its inputs came to. -/
theorem fold_made (hw : Wov g) {srcs : List SrcR} : ∀ (n : Nat) (l : List Nat), l.length = n → Ordd g l → ∀ i ∈ l, lval (nameAt g i) (foldT F g srcs l) = some (F (codeAt g i) (insT2 g (foldT F g srcs l) i))
  | 0, l, hl, _, i, hi => by rw [List.length_eq_zero_iff.1 hl] at hi; cases hi
  | n + 1, l, hl, ho, i, hi => by
    obtain ⟨l', k, rfl⟩ : ∃ l' k, l = l' ++ [k] := by
      rcases List.eq_nil_or_concat l with h | ⟨l', k, h⟩
      · rw [h] at hl; cases hl
      · exact ⟨l', k, by rw [h]; simp⟩
    obtain ⟨ho', hk, hkn, hkin⟩ := ho.left
    have hkeep : ∀ s, s ≠ nameAt g k → lval s (foldT F g srcs (l' ++ [k])) = lval s (foldT F g srcs l') := fun s hs => by
      rw [foldT_snoc, stepT_val, if_neg hs]
    have hins : ∀ j, (∀ s ∈ insAt g j, s ∈ g.srcs ∨ ∃ q ∈ l', nameAt g q = s) → insT2 g (foldT F g srcs (l' ++ [k])) j = insT2 g (foldT F g srcs l') j := fun j hj => by
      unfold insT2
      refine List.map_congr_left (fun s hs => ?_)
      unfold valT
      rw [hkeep s]
      intro e
      rcases hj s hs with h1 | ⟨q, hq, h1⟩
      · exact hw.apart hkn (e ▸ h1)
      · exact hk (hw.inj (ho'.lt q hq) hkn (h1.trans e) ▸ hq)
    rcases List.mem_append.1 hi with hi | hi
    · have hne : nameAt g i ≠ nameAt g k := fun e => hk (hw.inj (ho'.lt i hi) hkn e ▸ hi)
      rw [hkeep _ hne, fold_made hw n l' (by simpa using hl) ho' i hi, hins i]
      intro s hs
      obtain ⟨q, hq, rfl⟩ := List.mem_iff_getElem.1 hi
      rcases ho'.sup q hq s hs with h1 | ⟨j, hj, h1⟩
      · exact .inl h1
      · exact .inr ⟨l'[j], List.getElem_mem (by omega), h1⟩
    · simp only [List.mem_singleton] at hi
      subst hi
      rw [hins i hkin, foldT_snoc, stepT_val, if_pos rfl]
/-- What an action of a build that can be comes to. -/
theorem made_at (hc : Can g) (srcs : List SrcR) {i : Nat} (hi : i < g.acts.length) : lval (nameAt g i) (madeT F g srcs) = some (F (codeAt g i) (insT2 g (madeT F g srcs) i)) :=
  fold_made hc.w _ _ rfl (orderR_ordd g) i ((orderR_ordd g).full hc.full i hi)
theorem made_src (hw : Wov g) (srcs : List SrcR) {s : Nm} (hs : s ∈ g.srcs) : lval s (madeT F g srcs) = lval s (srcT srcs) := fold_src hw (orderR_ordd g) hs
/-- What lies under the names of a prefix of the order is there in the end. -/
theorem foldl_keep (hw : Wov g) {l m : List Nat} (ho : Ordd g (l ++ m)) (srcs : List SrcR) {s : Nm} (hs : s ∈ g.srcs ∨ ∃ j ∈ l, nameAt g j = s) : lval s (foldT F g srcs (l ++ m)) = lval s (foldT F g srcs l) := by
  unfold foldT
  rw [List.foldl_append]
  refine foldl_other F g m _ s (fun j hj e => ?_)
  have hj2 := ho.lt j (by simp [hj])
  rcases hs with h | ⟨q, hq, h⟩
  · exact hw.apart hj2 (e ▸ h)
  · have := hw.inj (ho.lt q (by simp [hq])) hj2 (h.trans e.symm)
    subst this
    exact (List.nodup_append.1 ho.nd).2.2 q hq q hj rfl
/-- The same for two ways of naming: whatever f makes of names, so long as it tells them apart. -/
theorem made_unique {g h : GrR} {F : List UInt8 → List ResR → ResR} (hg : Can g) (hh : Can h) (hn : h.acts.length = g.acts.length) (hc : ∀ i, i < g.acts.length → codeAt h i = codeAt g i) (f : Nm → Nm) (hf : ∀ i, i < g.acts.length → nameAt h i = f (nameAt g i)) (hins : ∀ i, i < g.acts.length → insAt h i = (insAt g i).map f)
    (s1 s2 : List SrcR) (hs : ∀ s ∈ g.srcs, f s ∈ h.srcs ∧ valT (srcT s2) (f s) = valT (srcT s1) s) : ∀ i, i < g.acts.length → valT (madeT F h s2) (nameAt h i) = valT (madeT F g s1) (nameAt g i) := by
  have key : ∀ (k : Nat) (hk : k < (orderR g).length), valT (madeT F h s2) (nameAt h (orderR g)[k]) = valT (madeT F g s1) (nameAt g (orderR g)[k]) := by
    intro k
    induction k using Nat.strongRecOn with
    | _ k ih =>
      intro hk
      have hi := (orderR_ordd g).lt _ (List.getElem_mem hk)
      unfold valT
      rw [made_at hh s2 (by omega), made_at hg s1 hi]
      simp only [Option.getD_some]
      rw [hc _ hi]
      congr 1
      unfold insT2
      rw [hins _ hi, List.map_map]
      refine List.map_congr_left (fun s hsm => ?_)
      rcases (orderR_ordd g).sup k hk s hsm with h1 | ⟨j, hj, h1⟩
      · have := hs s h1
        show valT _ (f s) = valT _ s
        unfold valT at this ⊢
        rw [made_src hh.w s2 this.1, made_src hg.w s1 h1]
        exact this.2
      · have := ih j hj (by omega)
        have hj2 := (orderR_ordd g).lt _ (List.getElem_mem (show j < (orderR g).length by omega))
        rw [hf _ hj2, h1] at this
        exact this
  intro i hi
  obtain ⟨k, hk, rfl⟩ := hg.pos hi
  exact key k hk
/-- What isn't dirty by the names whose sources are others comes to the same, of the same. -/
theorem made_clean {g : GrR} {F : List UInt8 → List ResR → ResR} (hg : Can g) (s1 s2 : List SrcR) (names : List Nm) (hs : ∀ s ∈ g.srcs, s ∉ names → valT (srcT s2) s = valT (srcT s1) s) : ∀ i, i < g.acts.length → dirtyB g names i = false →
    insT2 g (madeT F g s2) i = insT2 g (madeT F g s1) i ∧ valT (madeT F g s2) (nameAt g i) = valT (madeT F g s1) (nameAt g i) := by
  have hval : ∀ i, i < g.acts.length → insT2 g (madeT F g s2) i = insT2 g (madeT F g s1) i → valT (madeT F g s2) (nameAt g i) = valT (madeT F g s1) (nameAt g i) := fun i hi h => by
    unfold valT
    rw [made_at hg s2 hi, made_at hg s1 hi, h]
  have key : ∀ (k : Nat) (hk : k < (orderR g).length), dirtyB g names (orderR g)[k] = false → insT2 g (madeT F g s2) (orderR g)[k] = insT2 g (madeT F g s1) (orderR g)[k] := by
    intro k
    induction k using Nat.strongRecOn with
    | _ k ih =>
      intro hk hd
      have hi := (orderR_ordd g).lt _ (List.getElem_mem hk)
      have hnd : ∀ s, Needs g (orderR g)[k] s → s ∉ names := fun s hn hm => by
        have := dirtyB_iff.2 (.inr ⟨s, (hg.mem_needs hi).2 hn, hm⟩)
        rw [hd] at this; cases this
      unfold insT2
      refine List.map_congr_left (fun s hsm => ?_)
      rcases (orderR_ordd g).sup k hk s hsm with h1 | ⟨j, hj, h1⟩
      · have := hs s h1 (hnd s (.base hsm))
        unfold valT at this ⊢
        rw [made_src hg.w s2 h1, made_src hg.w s1 h1]
        exact this
      · have hj2 := (orderR_ordd g).lt _ (List.getElem_mem (show j < (orderR g).length by omega))
        have hdj : dirtyB g names (orderR g)[j] = false := by
          rw [Bool.eq_false_iff]
          intro hdj
          rcases dirtyB_iff.1 hdj with h2 | ⟨u, hu, h2⟩
          · exact hnd _ (.base hsm) (h1 ▸ h2)
          · exact hnd u (Needs.behind hsm (h1 ▸ hg.w.place hj2) ((hg.mem_needs hj2).1 hu)) h2
        rw [← h1]
        exact hval _ hj2 (ih j hj (by omega) hdj)
  intro i hi hd
  obtain ⟨k, hk, rfl⟩ := hg.pos hi
  have h := key k hk hd
  exact ⟨h, hval _ hi h⟩
end
end Go.Proofs.YthglfmacjoecgaaGreatDoor
namespace Go.Proofs.YthglfmacjoecgaaGreatDoor
open Go.RowKit

def WovenPost (w : World) (g : GrR) (e : Ending) (w' : World) : Prop :=
  Chg (fun _ => False) w w' ∧ ((wovenR g = 0 ∧ ∃ b, e = .returned (.tuple #[.pointer (some ⟨b, 0, none⟩), .int .i64 0]) ∧ IsWeb w' b g) ∨ (wovenR g ≠ 0 ∧ e = .returned (.tuple #[.pointer none, .int .i64 (wovenR g)])))
theorem MapL.al {κ ν : Type} {enc : κ → Value} {encv : ν → Value} {l : List (κ × ν)} {w : World} {r : Nat} (h : MapL w r enc encv l) (o : Obj) : MapL (w.alloc o) r enc encv l :=
  h.chg ((Chg.refl (fun _ => False) w).alloc o) (fun h => h)
theorem zeroI (w : World) : (zeroValue 3).run Tryz.prog w = .ok (.int .i64 0) w := by kernel_rfl

set_option maxRecDepth 100000 in
set_option maxHeartbeats 4000000 in
theorem woven_any (g : GrR) (v : Value) (w : World) (hg : GrAt w v g) : Calls Tryz.prog 113 #[v] w (WovenPost w g) := by
  have hpr : ∀ W, Chg (fun _ => False) w W → Calls Tryz.prog 132 #[v] W (Rets (.tuple #[.string (bs ((printR g).getD [])), .int .i64 (if grOK g = true then 0 else 1)]) (Chg (fun _ => False) W)) := fun W hW => print_any g v W (hg.chg hW (fun _ _ h => h))
  obtain ⟨oa, c, ob, d, iv, rfl, hs, ha⟩ := hg.form
  have hC1 : Chg (fun _ => False) w (w.alloc (.cells #[.slice oa g.srcs.length c, .slice ob g.acts.length d] 25)) := (Chg.refl _ w).alloc _
  have h1 := hpr _ hC1
  clear hpr hg
  cases hok : grOK g with
  | false =>
    have hw : wovenR g = 1 := by unfold wovenR; rw [hok]; rfl
    rw [hok] at h1
    have HW := hid hw
    clear hw hs ha
    go_enter Tryz.func113, Tryz.ntmps113
    go_wp2_with (go_at_call 132; refine h1.mono ?_; rintro e w' ⟨rfl, hc⟩)
    go_ret2
    refine ⟨hC1.trans hc (fun _ _ h => h), .inr ?_⟩
    rw [HW.out]
    exact ⟨by decide, rfl⟩
  | true =>
    rw [hok] at h1
    have hgb : (w.alloc (.cells #[.slice oa g.srcs.length c, .slice ob g.acts.length d] 25)).heap[w.heap.size]? = some (.cells #[.slice oa g.srcs.length c, .slice ob g.acts.length d] 25 (0, 0)) := heap_alloc_new' w _
    have hn1 := hs.le
    have hn2 := ha.rows.le
    unfold maxLen at hn1 hn2
    have hn8 : g.srcs.length ≤ 8 := ((grOK_iff g).1 hok).1
    have hn12 : g.acts.length ≤ 12 := ((grOK_iff g).1 hok).2.1
    have HS := hid hs
    have HA := hid ha
    have HG := hid hgb
    have HOK := hid hok
    clear hs ha hgb hok
    have hmm := @run_makeMap Tryz.prog
    go_enter Tryz.func113, Tryz.ntmps113
    go_wp2_with (go_at_call 132; refine h1.mono ?_; rintro e w2 ⟨rfl, hc2⟩; have p0 := cell_of (hc2.obj HG.out (fun h => h)) 0; have p1 := cell_of (hc2.obj HG.out (fun h => h)) 1; simp at p0 p1; have q0 := cell_alloc' (cell_alloc' (cell_of (hc2.obj HG.out (fun h => h)) 0) (.map #[] 0)) (.cells #[.slice oa g.srcs.length c, .slice ob g.acts.length d, .map (some w2.heap.size)] 150); simp at q0)
    have hlt : w.heap.size < w2.heap.size := by have := hc2.size; simp at this; omega
    have hch3 : Chg (fun _ => False) w ((w2.alloc (.map #[] 0)).alloc (.cells #[.slice oa g.srcs.length c, .slice ob g.acts.length d, .map (some w2.heap.size)] 150)) := ((hC1.trans hc2 (fun _ _ h => h)).alloc _).alloc _
    have hgb3 : ((w2.alloc (.map #[] 0)).alloc (.cells #[.slice oa g.srcs.length c, .slice ob g.acts.length d, .map (some w2.heap.size)] 150)).heap[w.heap.size]? = some (.cells #[.slice oa g.srcs.length c, .slice ob g.acts.length d] 25 (0, 0)) := heap_alloc_old' (heap_alloc_old' (hc2.obj HG.out (fun h => h)) _) _
    have hwb3 : ((w2.alloc (.map #[] 0)).alloc (.cells #[.slice oa g.srcs.length c, .slice ob g.acts.length d, .map (some w2.heap.size)] 150)).heap[w2.heap.size + 1]? = some (.cells #[.slice oa g.srcs.length c, .slice ob g.acts.length d, .map (some w2.heap.size)] 150 (0, 0)) := by
      have := heap_alloc_new' (w2.alloc (.map #[] 0)) (.cells #[.slice oa g.srcs.length c, .slice ob g.acts.length d, .map (some w2.heap.size)] 150)
      simpa using this
    have hm3 : MapL ((w2.alloc (.map #[] 0)).alloc (.cells #[.slice oa g.srcs.length c, .slice ob g.acts.length d, .map (some w2.heap.size)] 150)) w2.heap.size nmV intV ([] : List (Nm × Int)) := (MapL.fresh w2).al _
    clear hc2 hC1 HG h1 q0 p0 p1
    generalize ((w2.alloc (.map #[] 0)).alloc (.cells #[.slice oa g.srcs.length c, .slice ob g.acts.length d, .map (some w2.heap.size)] 150)) = W3 at *
    obtain ⟨r, hr⟩ : ∃ r, r = w2.heap.size := ⟨_, rfl⟩
    obtain ⟨bw, hbw⟩ : ∃ bw, bw = w2.heap.size + 1 := ⟨_, rfl⟩
    obtain ⟨bg, hbg⟩ : ∃ bg, bg = w.heap.size := ⟨_, rfl⟩
    rw [← hbw, ← hr] at hwb3
    rw [← hr] at hm3
    rw [← hbg] at hgb3
    rw [← hbw, ← hr, ← hbg]
    have hne1 : ¬ bg = r := by omega
    have hne2 : ¬ bw = r := by omega
    have hwr : w.heap.size ≤ r := by omega
    clear hr hbw hlt
    have hfar : ∀ W, Chg (fun k => k = r) W3 W → Chg (fun _ => False) w W := fun W hW => hch3.trans hW (fun i hi h => by omega)
    have hgc : ∀ W, Chg (fun k => k = r) W3 W → W.cell? ⟨bg, 0, none⟩ = some (.slice oa g.srcs.length c) ∧ W.cell? ⟨bg, 1, none⟩ = some (.slice ob g.acts.length d) := fun W hW => ⟨cell_of (hW.obj hgb3 hne1) 0, cell_of (hW.obj hgb3 hne1) 1⟩
    have hwc : ∀ W, Chg (fun k => k = r) W3 W → W.cell? ⟨bw, 2, none⟩ = some (.map (some r)) := fun W hW => cell_of (hW.obj hwb3 hne2) 2
    have HF := hid hfar
    have HGC := hid hgc
    have HWC := hid hwc
    have HWB := hid hwb3
    have hm3' : MapL W3 r nmV intV (atL ((atPs g).take 0)) := hm3
    have HM3 := hid hm3'
    have HNE := hid (And.intro hne1 hne2)
    clear hfar hgc hwc hch3 hgb3 hwb3 hm3 hm3' hne1 hne2 hbg hwr
    go_loopw [31] (fun i wr => ∃ k : Nat, k ≤ g.srcs.length ∧ i = .int .i64 k ∧ Chg (fun k => k = r) W3 wr ∧ MapL wr r nmV intV (atL ((atPs g).take k))) (fun i _ => g.srcs.length - (intOf i).toNat)
    case atStart => exact ⟨0, Nat.zero_le _, rfl, Chg.refl _ _, HM3.out⟩
    case round =>
      obtain ⟨k, hk, rfl, hch, hm⟩ := hrel
      have HC := hid hch
      have HM := hid hm
      have q2 := HWC.out _ hch
      clear hch hm
      by_cases hkn : k < g.srcs.length
      · have hkn' : (k : Int) < g.srcs.length := by omega
        obtain ⟨ad, hix, hadc, hadb⟩ := (HS.out.chg (HF.out wr HC.out) (fun _ _ h => h)).ix k hkn
        have HP : Hid (∀ W', MapL W' r nmV intV (lput g.srcs[k] (-1) (atL ((atPs g).take k))) → MapL W' r nmV intV (atL ((atPs g).take (k + 1)))) := by
          intro W' h
          rw [atL_take _ k (by rw [atPs_length]; omega), atPs_src g k hkn]
          exact h
        generalize hnm : g.srcs[k] = nm at *
        have HNM := hid hnm
        clear hnm
        go_wp2_with (at_mapUpdate; refine wpList_mapUpdate_l rfl _ _ _ 148 rfl keyNm Tryz.underlying148 HM.out rfl nm rfl (-1 : Int) rfl ?_; intro w1 hm1 hc1)
        go_roundw
        case rel => exact ⟨k + 1, by omega, by go_num, HC.out.trans hc1 (fun _ _ h => h), HP.out _ hm1⟩
        case measure => simp [intOf]; omega
      · obtain rfl : k = g.srcs.length := by omega
        have q3 := (HGC.out _ HC.out).2
        have hlenA := HA.out.len
        have hm4 : MapL wr r nmV intV (atL ((atPs g).take (g.srcs.length + 0))) := HM.out
        have HM4 := hid hm4
        have HC4 := hid HC.out
        clear hm4
        go_wp2_with fail
        clear q2 q3 HM HC
        obtain ⟨wo, hwo⟩ : ∃ wo, wo = wr := ⟨_, rfl⟩
        rw [← hwo] at HM4 HC4 ⊢
        clear hwo
        go_loopw [44] (fun i wr => ∃ k : Nat, k ≤ g.acts.length ∧ i = .int .i64 k ∧ Chg (fun k => k = r) W3 wr ∧ MapL wr r nmV intV (atL ((atPs g).take (g.srcs.length + k)))) (fun i _ => g.acts.length - (intOf i).toNat)
        case atStart => exact ⟨0, Nat.zero_le _, rfl, HC4.out, HM4.out⟩
        case round =>
          obtain ⟨k, hk, rfl, hch, hm⟩ := hrel
          have HC := hid hch
          have HM := hid hm
          clear hch hm HC4 HM4
          by_cases hkn : k < g.acts.length
          · have hkn' : (k : Int) < g.acts.length := by omega
            obtain ⟨bb, oo, hix, hlt, e0, e1, e2, hns, hw1, hw2⟩ := (HA.out.chg (HF.out wr HC.out) (fun _ _ h => h)).at k hkn
            obtain ⟨oi, ci, hiv⟩ := hns.form
            rw [hiv] at e1
            have HP : Hid (∀ W', MapL W' r nmV intV (lput g.acts[k].name (k : Int) (atL ((atPs g).take (g.srcs.length + k)))) → MapL W' r nmV intV (atL ((atPs g).take (g.srcs.length + (k + 1))))) := by
              intro W' h
              rw [show g.srcs.length + (k + 1) = g.srcs.length + k + 1 by omega, atL_take _ _ (by rw [atPs_length]; omega), atPs_act g k hkn]
              show MapL W' r nmV intV (lput (nameAt g k) _ _)
              rw [nameAt_lt g k hkn]
              exact h
            clear hiv hns hw1 hw2
            generalize g.acts[k].ins.length = ni at *
            generalize hnm : g.acts[k].name = nm at *
            generalize bs g.acts[k].code = cd at *
            have hch5 := HC.out.alloc (.cells #[.string (bs nm), .slice oi ni ci, .string cd] 43)
            have q2 := HWC.out _ hch5
            have hm5 := HM.out.al (.cells #[.string (bs nm), .slice oi ni ci, .string cd] 43)
            have k5 := heap_alloc_new' wr (.cells #[.string (bs nm), .slice oi ni ci, .string cd] 43)
            have HC5 := hid hch5
            have HM5 := hid hm5
            have HK5 := hid k5
            have HNM := hid hnm
            clear hnm hch5 hm5 k5
            go_wp2_with fail
            generalize wr.alloc (.cells #[.string (bs nm), .slice oi ni ci, .string cd] 43) = W5 at *
            have c0 : W5.cell? ⟨wr.heap.size, 0, none⟩ = some (.string (bs nm)) := cell_of HK5.out 0
            go_still_tail 8, (by kernel_rfl)
            change wpList _ _ _ _ _ W5.drew
            refine wpList_mapUpdate_l rfl _ _ _ 148 rfl keyNm Tryz.underlying148 (show MapL W5.drew r nmV intV _ from HM5.out) rfl nm rfl (k : Int) rfl ?_
            intro w1 hm1 hc1
            go_wp2_with fail
            go_roundw
            case rel => exact ⟨k + 1, by omega, by go_num, HC5.out.drew.trans hc1 (fun _ _ h => h), HP.out _ hm1⟩
            case measure => simp [intOf]; omega
          · obtain rfl : k = g.acts.length := by omega
            have hm6 : MapL wr r nmV intV (atL (atPs g)) := by
              have := HM.out
              rwa [List.take_of_length_le (by rw [atPs_length]; omega)] at this
            have HM6 := hid hm6
            have q2 := HWC.out _ HC.out
            have g0 := (HGC.out _ HC.out).1
            have g1 := (HGC.out _ HC.out).2
            have hlenS := HS.out.len
            have hlenM : ∀ n ty, (Builtin.len_ #[148] ty #[.map (some r)]).run Tryz.prog (wr.drewN n) = .ok (.int .i64 (atL (atPs g)).length) (wr.drewN n) := fun n ty =>
              MapL.len (show MapL (wr.drewN n) r nmV intV (atL (atPs g)) from hm6) Tryz.underlying148 ty
            have hsum : IntKind.i64.wrap ((g.srcs.length : Int) + (g.acts.length : Int)) = (g.srcs.length : Int) + (g.acts.length : Int) := by rw [IntKind.wrap_i64]; omega
            clear hm6 HM
            cases hdup : dupB g with
            | true =>
              have hL : ¬ ((atL (atPs g)).length : Int) = (g.srcs.length : Int) + (g.acts.length : Int) := fun e => by
                have := (dup_length g).1 (by omega)
                rw [hdup] at this; cases this
              have HW : Hid (wovenR g = 21) := by show wovenR g = 21; unfold wovenR; rw [HOK.out, hdup]; rfl
              generalize (atL (atPs g)).length = L at *
              clear hdup hkn hk
              go_wp2_with fail
              go_quiet (fail)
              go_wp2_with fail
              go_ret2
              exact ⟨HF.out _ (HC.out.drewN _), .inr ⟨by rw [HW.out]; decide, by rw [HW.out]; rfl⟩⟩
            | false =>
              have hL : ((atL (atPs g)).length : Int) = (g.srcs.length : Int) + (g.acts.length : Int) := by
                have := (dup_length g).2 hdup
                omega
              have HD := hid hdup
              rw [hL] at hlenM
              clear hL hdup hkn hk
              go_wp2_with fail
              go_quiet (fail)
              have hC7 := HC.out.drewN nq
              have hm7 : MapL (wr.drewN nq) r nmV intV (atL (atPs g)) := HM6.out
              have g1' := (HGC.out _ hC7).2
              clear hlenM hlenS hsum q2 g0 g1 HM6 HC
              generalize wr.drewN nq = W7 at *
              have HC7 := hid hC7
              have HM7 := hid hm7
              clear hC7 hm7
              go_wp2_with fail
              clear g1'
              go_loopw [74] (fun i wr => ∃ k : Nat, k ≤ g.acts.length ∧ i = .int .i64 k ∧ Chg (fun _ => False) W7 wr ∧ ∀ j, j < k → ∀ s ∈ insAt g j, s ∈ namesL g) (fun i _ => g.acts.length - (intOf i).toNat)
              case atStart => exact ⟨0, Nat.zero_le _, rfl, Chg.refl _ _, fun j h => absurd h (Nat.not_lt_zero _)⟩
              case round =>
                obtain ⟨k, hk, rfl, hch, hall⟩ := hrel
                have HA2 := hid hall
                have HC8 := hid hch
                have hC9 := HC7.out.trans hch (fun _ _ h => h.elim)
                have HC9 := hid hC9
                clear hall hch hC9
                by_cases hkn : k < g.acts.length
                · have hkn' : (k : Int) < g.acts.length := by omega
                  obtain ⟨bb, oo, hix, hlt, e0, e1, e2, hns, hw1, hw2⟩ := (HA.out.chg (HF.out _ HC9.out) (fun _ _ h => h)).at k hkn
                  obtain ⟨oi, ci, hiv⟩ := hns.form
                  rw [hiv] at e1 hns
                  have hli := hns.le
                  unfold maxLen at hli
                  have HI : Hid (insAt g k = g.acts[k].ins) := insAt_lt g k hkn
                  have HMI : Hid (∀ s ∈ g.acts[k].ins, s ∉ namesL g → missB g = true) := by
                    intro s hs hn
                    unfold missB
                    rw [List.any_eq_true]
                    refine ⟨_, List.getElem_mem hkn, ?_⟩
                    rw [List.any_eq_true]
                    exact ⟨s, hs, by simp [hn]⟩
                  generalize bs g.acts[k].name = nm at *
                  generalize bs g.acts[k].code = cd at *
                  generalize g.acts[k].ins = ins at *
                  have hA : Chg (fun _ => False) wr (wr.alloc (.cells #[.string nm, .slice oi ins.length ci, .string cd] 43)) := (Chg.refl _ wr).alloc _
                  have kA := heap_alloc_new' wr (.cells #[.string nm, .slice oi ins.length ci, .string cd] 43)
                  have HNA := hid (hns.chg hA (fun _ _ h => h))
                  have hlenN := hns.len
                  have HA9 := hid hA
                  have HKA := hid kA
                  clear hiv hns hw1 hw2 hA kA
                  go_wp2_with fail
                  generalize wr.alloc (.cells #[.string nm, .slice oi ins.length ci, .string cd] 43) = wa at *
                  clear e0 e1 e2 hix
                  have HCa := hid (HC9.out.trans HA9.out (fun _ _ h => h.elim))
                  have HMa := hid (HM7.out.chg (HC8.out.trans HA9.out (fun _ _ h => h)) (fun h => h))
                  have q2 := HWC.out _ HCa.out
                  go_loopw [81] (fun i wb => ∃ q : Nat, q ≤ ins.length ∧ i = .int .i64 q ∧ wb = wa ∧ ∀ j (h : j < ins.length), j < q → ins[j] ∈ namesL g) (fun i _ => ins.length - (intOf i).toNat)
                  case atStart => exact ⟨0, Nat.zero_le _, rfl, rfl, fun j _ h => absurd h (Nat.not_lt_zero _)⟩
                  case round =>
                    obtain ⟨q, hq, rfl, rfl, hin⟩ := hrel
                    have HIN := hid hin
                    clear hin
                    by_cases hqn : q < ins.length
                    · have hqn' : (q : Int) < ins.length := by omega
                      obtain ⟨ad3, hix3, hadc3, hadb3⟩ := HNA.out.ix q hqn
                      have hsome := at_isSome g ins[q]
                      have HMQ := hid (HMI.out _ (List.getElem_mem hqn))
                      generalize hs3 : ins[q] = s3 at *
                      by_cases hmem : s3 ∈ namesL g
                      · have hb : (lval s3 (atL (atPs g))).isSome = true := by rw [hsome]; simpa using hmem
                        have HB := hid hb
                        have HMEM := hid hmem
                        have HS3 := hid hs3
                        clear hsome hb hmem hs3
                        go_wp2_with (at_lookup; refine wpList_lookup_ok rfl _ _ 148 rfl keyNm Tryz.underlying148 (zeroI _) HMa.out rfl s3 rfl _ rfl true HB.out ?_)
                        go_roundw
                        case rel =>
                          refine ⟨q + 1, by omega, by go_num, by first | rfl | trivial, fun j hj hjq => ?_⟩
                          by_cases e : j = q
                          · subst e; rw [HS3.out]; exact HMEM.out
                          · exact HIN.out j hj (by omega)
                        case measure => simp [intOf]; omega
                      · have hb : (lval s3 (atL (atPs g))).isSome = false := by rw [hsome]; simpa using hmem
                        have HB := hid hb
                        have HW : Hid (wovenR g = 22) := by show wovenR g = 22; unfold wovenR; rw [HOK.out, HD.out, HMQ.out hmem]; rfl
                        clear hsome hb hmem hs3
                        go_wp2_with (at_lookup; refine wpList_lookup_ok rfl _ _ 148 rfl keyNm Tryz.underlying148 (zeroI _) HMa.out rfl s3 rfl _ rfl false HB.out ?_)
                        go_ret2
                        exact ⟨HF.out _ HCa.out, .inr ⟨by rw [HW.out]; decide, by rw [HW.out]; rfl⟩⟩
                    · obtain rfl : q = ins.length := by omega
                      go_wp2_with fail
                      go_roundw
                      case rel =>
                        refine ⟨k + 1, by omega, by go_num, HC8.out.trans HA9.out (fun _ _ h => h), fun j hjk s hs => ?_⟩
                        by_cases e : j = k
                        · subst e
                          rw [HI.out] at hs
                          obtain ⟨q, hq, rfl⟩ := List.mem_iff_getElem.1 hs
                          exact HIN.out q hq hq
                        · exact HA2.out j (by omega) s hs
                      case measure => simp [intOf]; omega
                · obtain rfl : k = g.acts.length := by omega
                  have HW : Hid (Wov g) := by
                    refine ⟨HOK.out, ?_, ?_⟩
                    · have := HD.out; unfold dupB at this; simpa using this
                    · intro a ha s hs
                      obtain ⟨j, hj, rfl⟩ := List.mem_iff_getElem.1 ha
                      exact HA2.out j hj s (by rw [insAt_lt g j hj]; exact hs)
                  go_wp2_with fail
                  go_ret2
                  refine ⟨HF.out _ HC9.out, .inl ⟨wovenR_zero.2 HW.out, bw, rfl, .slice oa g.srcs.length c, .slice ob g.acts.length d, iv, r, atL (atPs g), ?_⟩⟩
                  exact ⟨HC9.out.obj HWB.out HNE.out.2, HS.out.chg (HF.out _ HC9.out) (fun _ _ h => h), HA.out.chg (HF.out _ HC9.out) (fun _ _ h => h), HM7.out.chg HC8.out (fun h => h), fun s => HW.out.at s⟩
end Go.Proofs.YthglfmacjoecgaaGreatDoor
