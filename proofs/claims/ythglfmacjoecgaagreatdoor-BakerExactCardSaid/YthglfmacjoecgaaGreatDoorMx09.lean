/- Texts of the proof, one behind the other: Rows of the call's own, read; a slice made by its length; Results of actions with their names; what '==' says of them; A build that is made: its cells, what it is made to be; what Build and Keys answer; apiaryref09.Make walked; oven.Record, apiaryref09.Record walked; apiaryref09.Record walked; what the law asks of records, in plain words; oven.Fits walked. -/
import Derived.Test.YthglfmacjoecgaaGreatDoorMx08
import Derived.Laws.OwnMore
import Derived.Test.YthglfmacjoecgaaGreatDoorMx05
import Derived.Deep.MidRow
import Derived.StillTailTactics
import Derived.Deep.RegionHeld3
namespace Go.Proofs.YthglfmacjoecgaaGreatDoor
open Go.RowKit

theorem flat_lenV {α : Type} (f : α → List Value) (sz : Nat) (hf : ∀ x, (f x).length = sz) : ∀ (xs : List α), (xs.flatMap f).length = xs.length * sz
  | [] => by simp
  | x :: xs => by rw [List.flatMap_cons, List.length_append, hf, flat_lenV f sz hf xs, List.length_cons, Nat.succ_mul, Nat.add_comm]
theorem flat_get {α : Type} (f : α → List Value) (sz : Nat) (hf : ∀ x, (f x).length = sz) : ∀ (xs : List α) (i j : Nat) (hi : i < xs.length), j < sz → (xs.flatMap f)[i * sz + j]? = (f xs[i])[j]?
  | x :: xs, 0, j, _, hj => by
    rw [List.flatMap_cons, Nat.zero_mul, Nat.zero_add, List.getElem?_append_left (by rw [hf]; exact hj)]
    rfl
  | x :: xs, i + 1, j, hi, hj => by
    rw [List.flatMap_cons, List.getElem?_append_right (by rw [hf, Nat.succ_mul]; omega), hf, show (i + 1) * sz + j - sz = i * sz + j by rw [Nat.succ_mul]; omega, flat_get f sz hf xs i j (by simpa using hi) hj]
    rfl
theorem rows_of_owns {α : Type} {w : World} {e : TypeId} {sz : Nat} {v : Value} (f : α → List Value) (no : α) (xs : List α) (hf : ∀ x, (f x).length = sz) (h : w.ownsRow 0 e sz v xs.length (xs.flatMap f)) (hl : xs.length ≤ maxLen) :
    RowsAt w v sz xs.length (fun i => f (xs.getD i no)) := by
  refine ⟨?_, hl, fun i _ => hf _⟩
  rcases h.2 with ⟨rfl, h0⟩ | ⟨g, cap, cur, rfl, _⟩
  · left; exact ⟨rfl, h0⟩
  · right
    refine ⟨⟨g, 0, none⟩, cap, rfl, fun i hi j hj => ?_⟩
    have hlt : i * sz + j < xs.length * sz := by
      have h1 : (i + 1) * sz ≤ xs.length * sz := Nat.mul_le_mul_right _ hi
      rw [Nat.succ_mul] at h1
      omega
    have h3 := h.cellAt (i * sz + j) hlt
    have e3 : (⟨g, 0, none⟩ : Addr).add (i * sz + j) = ⟨g, i * sz + j, none⟩ := by unfold Addr.add; split <;> simp_all
    rw [e3, h3, getD_of_lt _ _ _ hi, flat_get f sz hf xs i j hi hj]
theorem ResAt.of_owns {w : World} {v : Value} {rs : List ResR} {n : Nat} (hn : n = rs.length) (h : w.ownsRow 0 47 2 v n (rs.flatMap resL)) (hl : rs.length ≤ 1000) (hs : ∀ r ∈ rs, r.2.size ≤ 100000) : ResAt w v rs := by
  subst hn
  exact ⟨rows_of_owns resL noRes rs (fun _ => rfl) h (by unfold maxLen; omega), fun r hr => by have := hs r hr; unfold maxLen; omega⟩
theorem elRes : ElT Tryz.prog 58 47 2 24 := .mk' (z := .agg #[.int .i64 0, .string ByteArray.empty]) Tryz.underlying58 (by kernel_rfl) rfl (by decide) rfl

section
variable {P : Program} {w : World} {ops : Array Oper} {rest : List Oper} {o : Oper} {a : Act} {Q : Exit → Act → World → Prop}
end
theorem madeDig (n : Nat) : madeCells (Value.agg (rowB 32 (fun _ => 0))).cells (n * 32) = rowB (n * 32) (fun _ => 0) := by
  show madeCells (rowB 32 (fun _ => 0)) (n * 32) = rowB (n * 32) (fun _ => 0)
  apply Array.ext_getElem?
  intro i
  by_cases hi : i < n * 32
  · rw [rowB_get _ _ i hi]
    have e : (rowB 32 (fun _ => 0))[i % 32]! = .int .u8 0 := by
      have h2 := rowB_get 32 (fun _ => 0) (i % 32) (Nat.mod_lt _ (by decide))
      rw [Array.getElem!_eq_getD, Array.getD_eq_getD_getElem?, h2]
      rfl
    simp [madeCells, rowB_size, hi, e]
  · rw [Array.getElem?_eq_none (by rw [size_madeCells]; omega), Array.getElem?_eq_none (by rw [rowB_size]; omega)]
/-- A slice of n digests, all of them zero. -/
theorem run_makeDig (n : Nat) (hn : n ≤ 1000) (w : World) : (Instr.makeSlice 34 (.int .i64 n) (.int .i64 n)).run Tryz.prog w = .ok (.slice (some ⟨w.heap.size, 0, none⟩) n n) (w.alloc (.cells (rowB (n * 32) (fun _ => 0)) 57)) := by
  have q1 : (Tryz.prog.info? 57).map (fun i => (i.bytes, i.size)) = some (32, 32) := by kernel_rfl
  have q2 : (Tryz.prog.info? 57).bind (fun i => i.zero) = some (.agg (rowB 32 (fun _ => 0))) := by kernel_rfl
  obtain ⟨i, hi⟩ : ∃ i, Tryz.prog.info? 57 = some i := by
    cases h : Tryz.prog.info? 57 with
    | none => rw [h] at q1; cases q1
    | some i => exact ⟨i, rfl⟩
  rw [hi] at q1 q2
  simp only [Option.map_some, Option.some.injEq, Prod.mk.injEq, Option.bind_some] at q1 q2
  have h := run_make (P := Tryz.prog) w 34 57 i (.agg (rowB 32 (fun _ => 0))) Tryz.underlying34 hi q2 .i64 .i64 (n : Int) (n : Int) (by omega) (Int.le_refl _) (by rw [q1.1]; omega) (by omega)
  simp only [Int.toNat_natCast, q1.2] at h
  rw [h, madeDig]
/-- Digests one behind the other. -/
def keysF (K : Nat → Nat → UInt8) : Nat → UInt8 := fun k => K (k / 32) (k % 32)
theorem keysF_put (n : Nat) (K : Nat → Nat → UInt8) (i : Nat) (hi : i < n) (d : Nat → UInt8) :
    ((rowB (n * 32) (keysF K)).toList.take (i * 32) ++ (rowB 32 d).toList ++ (rowB (n * 32) (keysF K)).toList.drop (i * 32 + (rowB 32 d).size)).toArray = rowB (n * 32) (keysF fun j => if j = i then d else K j) := by
  apply Array.ext_getElem?
  intro k
  rw [rowB_size]
  have hL : (rowB (n * 32) (keysF K)).toList.length = n * 32 := by simp [rowB_size]
  have hD : (rowB 32 d).toList.length = 32 := by simp [rowB_size]
  have h32 : (i + 1) * 32 ≤ n * 32 := Nat.mul_le_mul_right _ hi
  rw [List.getElem?_toArray]
  by_cases h1 : k < i * 32
  · rw [List.append_assoc, List.getElem?_append_left (by rw [List.length_take]; omega), List.getElem?_take, if_pos h1, Array.getElem?_toList, rowB_get _ _ k (by omega), rowB_get _ _ k (by omega)]
    unfold keysF
    simp only
    rw [if_neg (by omega)]
  · by_cases h2 : k < i * 32 + 32
    · rw [List.getElem?_append_left (by simp [rowB_size]; omega), List.getElem?_append_right (by rw [List.length_take]; omega), List.length_take, hL, Nat.min_eq_left (by omega), Array.getElem?_toList, rowB_get 32 d _ (by omega), rowB_get _ _ k (by omega)]
      unfold keysF
      simp only
      rw [if_pos (by omega), show k - i * 32 = k % 32 by omega]
    · rw [List.getElem?_append_right (by simp [rowB_size]; omega), List.getElem?_drop]
      have e : i * 32 + 32 + (k - (List.take (i * 32) (rowB (n * 32) (keysF K)).toList ++ (rowB 32 d).toList).length) = k := by
        rw [List.length_append, List.length_take, hL, hD, Nat.min_eq_left (by omega)]
        omega
      rw [e, Array.getElem?_toList]
      by_cases h3 : k < n * 32
      · rw [rowB_get _ _ k h3, rowB_get _ _ k h3]
        unfold keysF
        simp only
        rw [if_neg (by omega)]
      · rw [Array.getElem?_eq_none (by rw [rowB_size]; omega), Array.getElem?_eq_none (by rw [rowB_size]; omega)]
end Go.Proofs.YthglfmacjoecgaaGreatDoor
namespace Go.Proofs.YthglfmacjoecgaaGreatDoor
open Go.RowKit

theorem keyLits_string {P : Program} {d : Nat} {t : TypeId} {s : ByteArray} (hu : P.underlying t = some .string) (hs : s.size ≤ maxLen) : P.keyLits (d + 1) t [.string s] = some [.string s.data.toList] := by
  simp only [Program.keyLits]
  rw [hu]
  simp [hs]
theorem lits_res (r : ResR) (h1 : (Lit.int .i64 r.1).wf = true) (h2 : r.2.size ≤ maxLen) : Tryz.prog.keyLits 2 47 (resL r) = some [.int .i64 r.1, .string r.2.data.toList] := by
  have hcr : Tryz.prog.cellsOf 47 = 2 := by kernel_rfl
  have hce : Tryz.prog.cellsOf 30 = 1 := by kernel_rfl
  have hcs : Tryz.prog.cellsOf 9 = 1 := by kernel_rfl
  rw [keyLits_struct Tryz.underlying47, hcr, if_pos ⟨rfl, by kernel_rfl⟩]
  unfold resL
  have e0 : (([Value.int .i64 r.1, .string r.2]).drop 0).take 1 = [Value.int .i64 r.1] := rfl
  have e1 : (([Value.int .i64 r.1, .string r.2]).drop 1).take 1 = [Value.string r.2] := rfl
  simp only [List.mapM_cons, List.mapM_nil, hce, hcs, e0, e1]
  rw [keyLits_int (q := .i64) Tryz.underlying30 h1, keyLits_string Tryz.underlying9 h2]
  rfl
abbrev BltR := Nm × ResR
def noBlt : BltR := ([], noRes)
def bltL (b : BltR) : List Value := [.string (bs b.1), .int .i64 b.2.1, .string b.2.2]
def bltW (b : BltR) : Value := .agg #[.string (bs b.1), .int .i64 b.2.1, .string b.2.2]
theorem lits_blt (b : BltR) (h0 : b.1.length ≤ maxLen) (h1 : (Lit.int .i64 b.2.1).wf = true) (h2 : b.2.2.size ≤ maxLen) : Tryz.prog.keyLits 3 53 (bltL b) = some [.string b.1, .int .i64 b.2.1, .string b.2.2.data.toList] := by
  have hcr : Tryz.prog.cellsOf 53 = 3 := by kernel_rfl
  have hcn : Tryz.prog.cellsOf 41 = 1 := by kernel_rfl
  have hcr2 : Tryz.prog.cellsOf 47 = 2 := by kernel_rfl
  have hcs : Tryz.prog.cellsOf 9 = 1 := by kernel_rfl
  rw [keyLits_struct Tryz.underlying53, hcr, if_pos ⟨rfl, by kernel_rfl⟩]
  unfold bltL
  have e0 : (([Value.string (bs b.1), .int .i64 b.2.1, .string b.2.2]).drop 0).take 1 = [Value.string (bs b.1)] := rfl
  have e1 : (([Value.string (bs b.1), .int .i64 b.2.1, .string b.2.2]).drop 1).take 2 = resL b.2 := rfl
  have hn : Tryz.prog.keyLits 2 41 [Value.string (bs b.1)] = some [.string b.1] := by
    rw [keyLits_struct Tryz.underlying41, hcn, if_pos ⟨rfl, by kernel_rfl⟩]
    have e2 : (([Value.string (bs b.1)]).drop 0).take 1 = [Value.string (bs b.1)] := rfl
    simp only [List.mapM_cons, List.mapM_nil, hcs, e2]
    rw [keyLits_string Tryz.underlying9 (by rw [bs_size]; exact h0), bs_data]
    rfl
  simp only [List.mapM_cons, List.mapM_nil, hcn, hcr2, e0, e1]
  rw [hn, lits_res b.2 h1 h2]
  rfl
/-- v is a slice of these. -/
structure BltAt (w : World) (v : Value) (xs : List BltR) : Prop where
  rows : RowsAt w v 3 xs.length (fun i => bltL (xs.getD i noBlt))
theorem BltAt.chg {F : Nat → Prop} {w w' : World} {v : Value} {xs : List BltR} (h : BltAt w v xs) (hc : Chg F w w') (hF : ∀ k, k < w.heap.size → ¬ F k) : BltAt w' v xs := ⟨h.rows.chg hc hF⟩
theorem BltAt.len {w0 : World} {v : Value} {xs : List BltR} (h : BltAt w0 v xs) (w : World) (ty : TypeId) : (Builtin.len_ #[29] ty #[v]).run Tryz.prog w = .ok (.int .i64 xs.length) w :=
  RowsAt.len (P := Tryz.prog) h.rows Tryz.underlying29 w ty
theorem BltAt.form {w : World} {v : Value} {xs : List BltR} (h : BltAt w v xs) : ∃ oa c, v = .slice oa xs.length c := by
  rcases h.rows.form with ⟨h1, h2⟩ | ⟨a, cap, h1, _⟩
  · exact ⟨none, 0, by rw [h1, h2]⟩
  · exact ⟨some a, cap, h1⟩
theorem BltAt.nil (w : World) : BltAt w (.slice none 0 0) [] := ⟨⟨.inl ⟨rfl, rfl⟩, Nat.zero_le _, fun _ hi => absurd hi (Nat.not_lt_zero _)⟩⟩
theorem BltAt.ix {w : World} {v : Value} {xs : List BltR} (h : BltAt w v xs) (k : Nat) (hk : k < xs.length) :
    ∃ bb oo, (∀ w, (Instr.indexAt 29 v (.int .i64 k)).run Tryz.prog w = .ok (.pointer (some ⟨bb, oo, none⟩)) w) ∧ w.cell? ⟨bb, oo, none⟩ = some (.string (bs xs[k].1)) ∧ w.cell? ⟨bb, oo + 1, none⟩ = some (.int .i64 xs[k].2.1) ∧ w.cell? ⟨bb, oo + 2, none⟩ = some (.string xs[k].2.2) ∧ bb < w.heap.size := by
  obtain ⟨bb, oo, h1, h2, h3⟩ := RowsAt.ix (P := Tryz.prog) h.rows Tryz.underlying29 (fun w => by kernel_rfl) (by decide) k hk
  have e := getD_of_lt xs noBlt k hk
  refine ⟨bb, oo, h1, ?_, ?_, ?_, h3⟩
  · have := h2 0 (by decide)
    rw [e] at this
    exact this
  · have := h2 1 (by decide)
    rw [e] at this
    exact this
  · have := h2 2 (by decide)
    rw [e] at this
    exact this
theorem BltAt.of_owns {w : World} {v : Value} {xs : List BltR} {n : Nat} (hn : n = xs.length) (h : w.ownsRow 0 53 3 v n (xs.flatMap bltL)) (hl : xs.length ≤ 1000) : BltAt w v xs := by
  subst hn
  exact ⟨rows_of_owns bltL noBlt xs (fun _ => rfl) h (by unfold maxLen; omega)⟩
/-- v is a slice of n keys. -/
structure KeysAt (w : World) (v : Value) (n : Nat) (K : Nat → Nat → UInt8) : Prop where
  form : ∃ oa c, v = .slice oa n c
  rows : RowsAt w v 32 n (fun i => (rowB 32 (K i)).toList)
theorem KeysAt.chg {F : Nat → Prop} {w w' : World} {v : Value} {n : Nat} {K : Nat → Nat → UInt8} (h : KeysAt w v n K) (hc : Chg F w w') (hF : ∀ k, k < w.heap.size → ¬ F k) : KeysAt w' v n K := ⟨h.form, h.rows.chg hc hF⟩
theorem KeysAt.len {w0 : World} {v : Value} {n : Nat} {K : Nat → Nat → UInt8} (h : KeysAt w0 v n K) (w : World) (ty : TypeId) : (Builtin.len_ #[34] ty #[v]).run Tryz.prog w = .ok (.int .i64 n) w :=
  RowsAt.len (P := Tryz.prog) h.rows Tryz.underlying34 w ty
theorem KeysAt.nil (w : World) (K : Nat → Nat → UInt8) : KeysAt w (.slice none 0 0) 0 K := ⟨⟨none, 0, rfl⟩, ⟨.inl ⟨rfl, rfl⟩, Nat.zero_le _, fun _ hi => absurd hi (Nat.not_lt_zero _)⟩⟩
/-- A block of digests, read. -/
theorem KeysAt.of_block {w : World} {b n : Nat} {K : Nat → Nat → UInt8} {T : TypeId} {fz : Nat × Nat} (h : w.heap[b]? = some (.cells (rowB (n * 32) (keysF K)) T fz)) (hn : n ≤ 1000) : KeysAt w (.slice (some ⟨b, 0, none⟩) n n) n K := by
  refine ⟨⟨_, _, rfl⟩, .inr ⟨⟨b, 0, none⟩, n, rfl, fun i hi j hj => ?_⟩, by unfold maxLen; omega, fun _ _ => by simp [rowB_size]⟩
  have h32 : (i + 1) * 32 ≤ n * 32 := Nat.mul_le_mul_right _ hi
  have e3 : (⟨b, 0, none⟩ : Addr).add (i * 32 + j) = ⟨b, i * 32 + j, none⟩ := by unfold Addr.add; split <;> simp_all
  rw [e3, cell_of h, rowB_get _ _ _ (by omega), Array.getElem?_toList, rowB_get 32 _ j hj]
  unfold keysF
  rw [show (i * 32 + j) / 32 = i by omega, show (i * 32 + j) % 32 = j by omega]
theorem KeysAt.ix {w : World} {v : Value} {n : Nat} {K : Nat → Nat → UInt8} (h : KeysAt w v n K) (k : Nat) (hk : k < n) :
    ∃ bb oo, (∀ w, (Instr.indexAt 34 v (.int .i64 k)).run Tryz.prog w = .ok (.pointer (some ⟨bb, oo, none⟩)) w) ∧ w.rangeAt bb oo (rowB 32 (K k)).toList ∧ bb < w.heap.size := by
  obtain ⟨bb, oo, h1, h2, h3⟩ := RowsAt.ix (P := Tryz.prog) h.rows Tryz.underlying34 (fun w => by kernel_rfl) (by decide) k hk
  refine ⟨bb, oo, h1, fun j u hj => ?_, h3⟩
  have hl := (List.getElem?_eq_some_iff.1 hj).1
  simp [rowB_size] at hl
  rw [h2 j hl]
  exact hj
end Go.Proofs.YthglfmacjoecgaaGreatDoor
namespace Go.Proofs.YthglfmacjoecgaaGreatDoor
open Go.RowKit

/-- Block b is a build that is made: block r is what is there by names, block kb the keys. -/
structure IsKit (w : World) (b r kb : Nat) (g : GrR) (sv av : Value) (iv : Nat → Value) (t : List (Nm × ResR)) (K : Nat → Nat → UInt8) : Prop where
  blk : w.heap[b]? = some (.cells #[sv, av, .map (some r), .slice (some ⟨kb, 0, none⟩) g.acts.length g.acts.length] 112 (0, 0))
  srcs : NamesAt w sv g.srcs
  acts : ActsAt w av g.acts iv
  map : MapL w r nmV resW t
  keys : w.heap[kb]? = some (.cells (rowB (g.acts.length * 32) (keysF K)) 57 (0, 0))
def zeroK : Nat → Nat → UInt8 := fun _ _ => 0
def madeS (g : GrR) (srcs : List SrcR) : List (Nm × ResR) := madeT FF g srcs
def cntS (g : GrR) (srcs : List SrcR) : Nat := if checkS g srcs = 0 then g.acts.length else 0
def keyS (g : GrR) (srcs : List SrcR) : Nat → Nat → UInt8 := keyK g (madeS g srcs)
/-- What Keys answers. -/
def KeysPost (w : World) (g : GrR) (srcs : List SrcR) (e : Ending) (w' : World) : Prop :=
  Chg (fun _ => False) w w' ∧ ∃ v, e = .returned (.tuple #[v, .int .i64 (checkS g srcs)]) ∧ KeysAt w' v (cntS g srcs) (keyS g srcs)
def LaidPost (w : World) (g : GrR) (sv av : Value) (iv : Nat → Value) (srcs : List SrcR) (e : Ending) (w' : World) : Prop :=
  Chg (fun _ => False) w w' ∧ ((checkS g srcs = 0 ∧ ∃ b r kb, e = .returned (.tuple #[.pointer (some ⟨b, 0, none⟩), .int .i64 0]) ∧ IsKit w' b r kb g sv av iv (srcT srcs) zeroK ∧ w.heap.size ≤ r ∧ w.heap.size ≤ kb ∧ w.heap.size ≤ b ∧ r ≠ kb ∧ b ≠ r ∧ b ≠ kb) ∨
    (checkS g srcs ≠ 0 ∧ e = .returned (.tuple #[.pointer none, .int .i64 (checkS g srcs)])))
theorem zeroR (w : World) : (zeroValue 47).run Tryz.prog w = .ok (resW noRes) w := by kernel_rfl
theorem valT_getD (t : List (Nm × ResR)) (s : Nm) : ((lval s t).map resW).getD (resW noRes) = resW (valT t s) := by
  unfold valT
  cases lval s t <;> rfl
theorem srcT_take (srcs : List SrcR) (k : Nat) (h : k < srcs.length) : srcT (srcs.take (k + 1)) = lput srcs[k].1 ((0 : Int), srcs[k].2) (srcT (srcs.take k)) := by
  unfold srcT
  rw [List.map_take, List.map_take, atL_take _ k (by simpa using h)]
  simp
theorem srcT_length (srcs : List SrcR) : (srcT srcs).length ≤ srcs.length ∧ ((srcT srcs).length = srcs.length ↔ (srcs.map Prod.fst).Nodup) := by
  have h := atL_length (srcs.map fun s => (s.1, ((0 : Int), s.2)))
  rw [List.length_map, List.map_map] at h
  exact ⟨h.1, h.2.1⟩
theorem srcT_some (srcs : List SrcR) (hn : (srcs.map Prod.fst).Nodup) (s : Nm) : (lval s (srcT srcs)).isSome = true ↔ s ∈ srcs.map Prod.fst := by
  constructor
  · intro h
    cases hv : lval s (srcT srcs) with
    | none => rw [hv] at h; cases h
    | some r =>
      rw [srcT_eq hn] at hv
      obtain ⟨x, hx, e⟩ := List.mem_map.1 (mem_of_lval hv)
      simp only [Prod.mk.injEq] at e
      exact List.mem_map.2 ⟨x, hx, e.1⟩
  · intro h
    obtain ⟨x, hx, e⟩ := List.mem_map.1 h
    rw [← e, srcT_mem hn hx]
    rfl
end Go.Proofs.YthglfmacjoecgaaGreatDoor
namespace Go.Proofs.YthglfmacjoecgaaGreatDoor
open Go.RowKit

end Go.Proofs.YthglfmacjoecgaaGreatDoor
namespace Go.Proofs.YthglfmacjoecgaaGreatDoor
open Go.RowKit
section
variable {P : Program} {w : World} {ops : Array Oper} {rest : List Oper} {o : Oper} {a : Act} {Q : Exit → Act → World → Prop}
theorem wpList_build2 (hg : o.guard = none) (t : TypeId) (i j : Nat) (x y : Operand) (hop : o.op = Op.build t #[(i, x), (j, y)]) (vx vy : Value) (hx : a.eval x = vx) (hy : a.eval y = vy) (z : Value) (hr : (Instr.build t #[(i, vx), (j, vy)]).run P w = .ok z w)
    (h : wpList P ops Q rest (a.put o.dst z) w) : wpList P ops Q (o :: rest) a w := by
  refine wpList_plain hg fun K' hK' => ?_
  unfold Oper.wp
  simp only [execOp, hop, Sem.run_bind, List.map_toArray, List.map_cons, List.map_nil, hx, hy, hr, Result.andThen, Sem.run_pure, Oper.upon]
  exact hK' _ _ h
theorem wpList_storeO (hg : o.guard = none) (t : TypeId) (x y : Operand) (hop : o.op = Op.store t x y) (b off : Nat) (T : TypeId) (c zc c' : Array Value) (hx : a.eval x = .pointer (some ⟨b, off, none⟩)) (hy : a.eval y = .agg zc)
    (hb : w.heap[b]? = some (.cells c T (0, 0))) (hs : ∀ w, (sizeOf t).run P w = .ok zc.size w) (hc : off + zc.size ≤ c.size) (h1 : zc.toList.all Value.oneCell' = true) (hc' : (c.toList.take off ++ zc.toList ++ c.toList.drop (off + zc.size)).toArray = c')
    (h : ∀ w', w'.heap[b]? = some (.cells c' T (0, 0)) → w'.heap.size = w.heap.size → Chg (fun k => k = b) w w' → wpList P ops Q rest (a.put o.dst undef) w') : wpList P ops Q (o :: rest) a w := by
  refine wpList_plain hg fun K' hK' => ?_
  have hst := run_storeCells_at P b off T zc.toList 0 c w hb (by simp; omega) (fun v hv => List.all_eq_true.1 h1 v hv)
  have e : (c.toList.take (off + 0) ++ zc.toList ++ c.toList.drop (off + 0 + zc.toList.length)).toArray = c' := by
    rw [← hc']; simp
  rw [e] at hst
  have hrun : (Instr.storeAt t (.pointer (some ⟨b, off, none⟩)) (.agg zc)).run P w = .ok () (w.setRow b c') := by
    simp [Instr.storeAt, Instr.sureAddr, storeVar, hs, Value.cells, hst]
  unfold Oper.wp
  simp only [execOp, hop, Sem.run_bind, hx, hy, hrun, Result.andThen, Sem.run_pure, Oper.upon]
  exact hK' _ _ (h _ (setRow_heap w b c c' T _ hb) (by simp [World.setRow]) ((Chg.refl (fun k => k = b) w).setRow (fun _ => rfl) _))
end
def zeroF : Nat → UInt8 := fun _ => 0
end Go.Proofs.YthglfmacjoecgaaGreatDoor
namespace Go.Proofs.YthglfmacjoecgaaGreatDoor
open Go.RowKit

end Go.Proofs.YthglfmacjoecgaaGreatDoor
namespace Go.Proofs.YthglfmacjoecgaaGreatDoor
open Go.RowKit
section
variable {P : Program} {w : World} {ops : Array Oper} {rest : List Oper} {o : Oper} {a : Act} {Q : Act → Prop}
end
section
variable {P : Program} {w : World} {ops : Array Oper} {rest : List Oper} {o : Oper} {a : Act} {Q : Exit → Act → World → Prop}
end
end Go.Proofs.YthglfmacjoecgaaGreatDoor
