/- Texts of the proof, one behind the other: Results of actions with their names; what '==' says of them; A build that is made: its cells, what it is made to be; what Build and Keys answer; apiaryref09.Make walked; oven.Record, apiaryref09.Record walked; apiaryref09.Record walked; what the law asks of records, in plain words. -/
import Derived.Test.YthglfmacjoecgaaGreatDoorMg37
import Derived.Test.YthglfmacjoecgaaGreatDoorMg24
namespace Go.Proofs.YthglfmacjoecgaaGreatDoor
open Go.RowKit

theorem keyLits_string {P : Program} {d : Nat} {t : TypeId} {s : ByteArray} (hu : P.underlying t = some .string) (hs : s.size ≤ maxLen) : P.keyLits (d + 1) t [.string s] = some [.string s.data.toList] := by
  simp only [Program.keyLits]
  rw [hu]
  simp [hs]
theorem lits_res (r : ResR) (h1 : (Lit.int .i64 r.1).wf = true) (h2 : r.2.size ≤ maxLen) : Tryz.prog.keyLits 2 47 (resL r) = some [.int .i64 r.1, .string r.2.data.toList] := by
  have hcr : Tryz.prog.cellsOf 47 = 2 := by kernel_rfl
  have hce : Tryz.prog.cellsOf 30 = 1 := by kernel_rfl
  have hcs : Tryz.prog.cellsOf 9 = 1 := by kernel_rfl
  rw [keyLits_struct Tryz.underlying47, hcr, if_pos ⟨rfl, by kernel_rfl⟩]
  unfold resL
  have e0 : (([Value.int .i64 r.1, .string r.2]).drop 0).take 1 = [Value.int .i64 r.1] := rfl
  have e1 : (([Value.int .i64 r.1, .string r.2]).drop 1).take 1 = [Value.string r.2] := rfl
  simp only [List.mapM_cons, List.mapM_nil, hce, hcs, e0, e1]
  rw [keyLits_int (q := .i64) Tryz.underlying30 h1, keyLits_string Tryz.underlying9 h2]
  rfl
/-- '==' of two results. -/
theorem eq_res (a b : ResR) (ha : (Lit.int .i64 a.1).wf = true) (hb : (Lit.int .i64 b.1).wf = true) (ha2 : a.2.size ≤ maxLen) (hb2 : b.2.size ≤ maxLen) (w : World) :
    (binOp .eql 47 (resW a) (resW b)).run Tryz.prog w = .ok (.bool (decide (a = b))) w := by
  have hf : ∀ r : ResR, (resW r).formed Tryz.prog 47 = true := fun r => by kernel_rfl
  obtain ⟨r, e1, e2⟩ := run_equalIn_deep (P := Tryz.prog) 9998 2 47 (by kernel_rfl) w 2 2 (resW a) (resW b) _ _ (hf a) (hf b) (lits_res a ha ha2) (lits_res b hb hb2)
  have hr : r = decide (a = b) := by
    rw [Bool.eq_iff_iff, decide_eq_true_iff, e2]
    simp only [List.cons.injEq, Lit.int.injEq, true_and, Lit.string.injEq, and_true]
    obtain ⟨a1, a2⟩ := a
    obtain ⟨b1, b2⟩ := b
    simp only [Prod.mk.injEq]
    exact ⟨fun ⟨h1, h2⟩ => ⟨h1, ByteArray.ext (Array.toList_inj.1 h2)⟩, fun ⟨h1, h2⟩ => ⟨h1, by rw [h2]⟩⟩
  rw [← hr]
  unfold resW at e1 ⊢
  rw [run_eql_struct, e1]
  rfl
abbrev BltR := Nm × ResR
def noBlt : BltR := ([], noRes)
def bltL (b : BltR) : List Value := [.string (bs b.1), .int .i64 b.2.1, .string b.2.2]
def bltW (b : BltR) : Value := .agg #[.string (bs b.1), .int .i64 b.2.1, .string b.2.2]
theorem lits_blt (b : BltR) (h0 : b.1.length ≤ maxLen) (h1 : (Lit.int .i64 b.2.1).wf = true) (h2 : b.2.2.size ≤ maxLen) : Tryz.prog.keyLits 3 53 (bltL b) = some [.string b.1, .int .i64 b.2.1, .string b.2.2.data.toList] := by
  have hcr : Tryz.prog.cellsOf 53 = 3 := by kernel_rfl
  have hcn : Tryz.prog.cellsOf 41 = 1 := by kernel_rfl
  have hcr2 : Tryz.prog.cellsOf 47 = 2 := by kernel_rfl
  have hcs : Tryz.prog.cellsOf 9 = 1 := by kernel_rfl
  rw [keyLits_struct Tryz.underlying53, hcr, if_pos ⟨rfl, by kernel_rfl⟩]
  unfold bltL
  have e0 : (([Value.string (bs b.1), .int .i64 b.2.1, .string b.2.2]).drop 0).take 1 = [Value.string (bs b.1)] := rfl
  have e1 : (([Value.string (bs b.1), .int .i64 b.2.1, .string b.2.2]).drop 1).take 2 = resL b.2 := rfl
  have hn : Tryz.prog.keyLits 2 41 [Value.string (bs b.1)] = some [.string b.1] := by
    rw [keyLits_struct Tryz.underlying41, hcn, if_pos ⟨rfl, by kernel_rfl⟩]
    have e2 : (([Value.string (bs b.1)]).drop 0).take 1 = [Value.string (bs b.1)] := rfl
    simp only [List.mapM_cons, List.mapM_nil, hcs, e2]
    rw [keyLits_string Tryz.underlying9 (by rw [bs_size]; exact h0), bs_data]
    rfl
  simp only [List.mapM_cons, List.mapM_nil, hcn, hcr2, e0, e1]
  rw [hn, lits_res b.2 h1 h2]
  rfl
/-- '==' of two of them. -/
theorem eq_blt (a b : BltR) (ha0 : a.1.length ≤ maxLen) (hb0 : b.1.length ≤ maxLen) (ha : (Lit.int .i64 a.2.1).wf = true) (hb : (Lit.int .i64 b.2.1).wf = true) (ha2 : a.2.2.size ≤ maxLen) (hb2 : b.2.2.size ≤ maxLen) (w : World) :
    (binOp .eql 53 (bltW a) (bltW b)).run Tryz.prog w = .ok (.bool (decide (a = b))) w := by
  have hf : ∀ r : BltR, (bltW r).formed Tryz.prog 53 = true := fun r => by kernel_rfl
  obtain ⟨r, e1, e2⟩ := run_equalIn_deep (P := Tryz.prog) 9997 3 53 (by kernel_rfl) w 3 3 (bltW a) (bltW b) _ _ (hf a) (hf b) (lits_blt a ha0 ha ha2) (lits_blt b hb0 hb hb2)
  have hr : r = decide (a = b) := by
    rw [Bool.eq_iff_iff, decide_eq_true_iff, e2]
    simp only [List.cons.injEq, Lit.int.injEq, true_and, Lit.string.injEq, and_true]
    obtain ⟨a0, a1, a2⟩ := a
    obtain ⟨b0, b1, b2⟩ := b
    simp only [Prod.mk.injEq]
    exact ⟨fun ⟨h0, h1, h2⟩ => ⟨h0, h1, ByteArray.ext (Array.toList_inj.1 h2)⟩, fun ⟨h0, h1, h2⟩ => ⟨h0, h1, by rw [h2]⟩⟩
  rw [← hr]
  unfold bltW at e1 ⊢
  rw [run_eql_struct, e1]
  rfl
/-- v is a slice of these. -/
structure BltAt (w : World) (v : Value) (xs : List BltR) : Prop where
  rows : RowsAt w v 3 xs.length (fun i => bltL (xs.getD i noBlt))
theorem BltAt.chg {F : Nat → Prop} {w w' : World} {v : Value} {xs : List BltR} (h : BltAt w v xs) (hc : Chg F w w') (hF : ∀ k, k < w.heap.size → ¬ F k) : BltAt w' v xs := ⟨h.rows.chg hc hF⟩
theorem BltAt.len {w0 : World} {v : Value} {xs : List BltR} (h : BltAt w0 v xs) (w : World) (ty : TypeId) : (Builtin.len_ #[29] ty #[v]).run Tryz.prog w = .ok (.int .i64 xs.length) w :=
  RowsAt.len (P := Tryz.prog) h.rows Tryz.underlying29 w ty
theorem BltAt.form {w : World} {v : Value} {xs : List BltR} (h : BltAt w v xs) : ∃ oa c, v = .slice oa xs.length c := by
  rcases h.rows.form with ⟨h1, h2⟩ | ⟨a, cap, h1, _⟩
  · exact ⟨none, 0, by rw [h1, h2]⟩
  · exact ⟨some a, cap, h1⟩
theorem BltAt.nil (w : World) : BltAt w (.slice none 0 0) [] := ⟨⟨.inl ⟨rfl, rfl⟩, Nat.zero_le _, fun _ hi => absurd hi (Nat.not_lt_zero _)⟩⟩
theorem BltAt.ix {w : World} {v : Value} {xs : List BltR} (h : BltAt w v xs) (k : Nat) (hk : k < xs.length) :
    ∃ bb oo, (∀ w, (Instr.indexAt 29 v (.int .i64 k)).run Tryz.prog w = .ok (.pointer (some ⟨bb, oo, none⟩)) w) ∧ w.cell? ⟨bb, oo, none⟩ = some (.string (bs xs[k].1)) ∧ w.cell? ⟨bb, oo + 1, none⟩ = some (.int .i64 xs[k].2.1) ∧ w.cell? ⟨bb, oo + 2, none⟩ = some (.string xs[k].2.2) ∧ bb < w.heap.size := by
  obtain ⟨bb, oo, h1, h2, h3⟩ := RowsAt.ix (P := Tryz.prog) h.rows Tryz.underlying29 (fun w => by kernel_rfl) (by decide) k hk
  have e := getD_of_lt xs noBlt k hk
  refine ⟨bb, oo, h1, ?_, ?_, ?_, h3⟩
  · have := h2 0 (by decide)
    rw [e] at this
    exact this
  · have := h2 1 (by decide)
    rw [e] at this
    exact this
  · have := h2 2 (by decide)
    rw [e] at this
    exact this
theorem BltAt.of_owns {w : World} {v : Value} {xs : List BltR} {n : Nat} (hn : n = xs.length) (h : w.ownsRow 0 53 3 v n (xs.flatMap bltL)) (hl : xs.length ≤ 1000) : BltAt w v xs := by
  subst hn
  exact ⟨rows_of_owns bltL noBlt xs (fun _ => rfl) h (by unfold maxLen; omega)⟩
/-- v is a slice of n keys. -/
structure KeysAt (w : World) (v : Value) (n : Nat) (K : Nat → Nat → UInt8) : Prop where
  form : ∃ oa c, v = .slice oa n c
  rows : RowsAt w v 32 n (fun i => (rowB 32 (K i)).toList)
theorem KeysAt.chg {F : Nat → Prop} {w w' : World} {v : Value} {n : Nat} {K : Nat → Nat → UInt8} (h : KeysAt w v n K) (hc : Chg F w w') (hF : ∀ k, k < w.heap.size → ¬ F k) : KeysAt w' v n K := ⟨h.form, h.rows.chg hc hF⟩
theorem KeysAt.len {w0 : World} {v : Value} {n : Nat} {K : Nat → Nat → UInt8} (h : KeysAt w0 v n K) (w : World) (ty : TypeId) : (Builtin.len_ #[34] ty #[v]).run Tryz.prog w = .ok (.int .i64 n) w :=
  RowsAt.len (P := Tryz.prog) h.rows Tryz.underlying34 w ty
theorem KeysAt.nil (w : World) (K : Nat → Nat → UInt8) : KeysAt w (.slice none 0 0) 0 K := ⟨⟨none, 0, rfl⟩, ⟨.inl ⟨rfl, rfl⟩, Nat.zero_le _, fun _ hi => absurd hi (Nat.not_lt_zero _)⟩⟩
/-- A block of digests, read. -/
theorem KeysAt.of_block {w : World} {b n : Nat} {K : Nat → Nat → UInt8} {T : TypeId} {fz : Nat × Nat} (h : w.heap[b]? = some (.cells (rowB (n * 32) (keysF K)) T fz)) (hn : n ≤ 1000) : KeysAt w (.slice (some ⟨b, 0, none⟩) n n) n K := by
  refine ⟨⟨_, _, rfl⟩, .inr ⟨⟨b, 0, none⟩, n, rfl, fun i hi j hj => ?_⟩, by unfold maxLen; omega, fun _ _ => by simp [rowB_size]⟩
  have h32 : (i + 1) * 32 ≤ n * 32 := Nat.mul_le_mul_right _ hi
  have e3 : (⟨b, 0, none⟩ : Addr).add (i * 32 + j) = ⟨b, i * 32 + j, none⟩ := by unfold Addr.add; split <;> simp_all
  rw [e3, cell_of h, rowB_get _ _ _ (by omega), Array.getElem?_toList, rowB_get 32 _ j hj]
  unfold keysF
  rw [show (i * 32 + j) / 32 = i by omega, show (i * 32 + j) % 32 = j by omega]
theorem KeysAt.ix {w : World} {v : Value} {n : Nat} {K : Nat → Nat → UInt8} (h : KeysAt w v n K) (k : Nat) (hk : k < n) :
    ∃ bb oo, (∀ w, (Instr.indexAt 34 v (.int .i64 k)).run Tryz.prog w = .ok (.pointer (some ⟨bb, oo, none⟩)) w) ∧ w.rangeAt bb oo (rowB 32 (K k)).toList ∧ bb < w.heap.size := by
  obtain ⟨bb, oo, h1, h2, h3⟩ := RowsAt.ix (P := Tryz.prog) h.rows Tryz.underlying34 (fun w => by kernel_rfl) (by decide) k hk
  refine ⟨bb, oo, h1, fun j u hj => ?_, h3⟩
  have hl := (List.getElem?_eq_some_iff.1 hj).1
  simp [rowB_size] at hl
  rw [h2 j hl]
  exact hj
end Go.Proofs.YthglfmacjoecgaaGreatDoor
namespace Go.Proofs.YthglfmacjoecgaaGreatDoor
open Go.RowKit

/-- Block b is a build that is made: block r is what is there by names, block kb the keys. -/
structure IsKit (w : World) (b r kb : Nat) (g : GrR) (sv av : Value) (iv : Nat → Value) (t : List (Nm × ResR)) (K : Nat → Nat → UInt8) : Prop where
  blk : w.heap[b]? = some (.cells #[sv, av, .map (some r), .slice (some ⟨kb, 0, none⟩) g.acts.length g.acts.length] 112 (0, 0))
  srcs : NamesAt w sv g.srcs
  acts : ActsAt w av g.acts iv
  map : MapL w r nmV resW t
  keys : w.heap[kb]? = some (.cells (rowB (g.acts.length * 32) (keysF K)) 57 (0, 0))
def zeroK : Nat → Nat → UInt8 := fun _ _ => 0
def madeS (g : GrR) (srcs : List SrcR) : List (Nm × ResR) := madeT FF g srcs
/-- What each action comes to, with its name. -/
def outT (g : GrR) (srcs : List SrcR) : List BltR := g.acts.map fun a => (a.name, valT (madeS g srcs) a.name)
def outS (g : GrR) (srcs : List SrcR) : List BltR := if checkS g srcs = 0 then outT g srcs else []
def cntS (g : GrR) (srcs : List SrcR) : Nat := if checkS g srcs = 0 then g.acts.length else 0
def keyS (g : GrR) (srcs : List SrcR) : Nat → Nat → UInt8 := keyK g (madeS g srcs)
/-- What Build answers. -/
def BuiltPost (w : World) (g : GrR) (srcs : List SrcR) (e : Ending) (w' : World) : Prop :=
  Chg (fun _ => False) w w' ∧ ∃ v, e = .returned (.tuple #[v, .int .i64 (checkS g srcs)]) ∧ BltAt w' v (outS g srcs)
/-- What Keys answers. -/
def KeysPost (w : World) (g : GrR) (srcs : List SrcR) (e : Ending) (w' : World) : Prop :=
  Chg (fun _ => False) w w' ∧ ∃ v, e = .returned (.tuple #[v, .int .i64 (checkS g srcs)]) ∧ KeysAt w' v (cntS g srcs) (keyS g srcs)
def LaidPost (w : World) (g : GrR) (sv av : Value) (iv : Nat → Value) (srcs : List SrcR) (e : Ending) (w' : World) : Prop :=
  Chg (fun _ => False) w w' ∧ ((checkS g srcs = 0 ∧ ∃ b r kb, e = .returned (.tuple #[.pointer (some ⟨b, 0, none⟩), .int .i64 0]) ∧ IsKit w' b r kb g sv av iv (srcT srcs) zeroK ∧ w.heap.size ≤ r ∧ w.heap.size ≤ kb ∧ w.heap.size ≤ b ∧ r ≠ kb ∧ b ≠ r ∧ b ≠ kb) ∨
    (checkS g srcs ≠ 0 ∧ e = .returned (.tuple #[.pointer none, .int .i64 (checkS g srcs)])))
theorem keyResW : Tryz.prog.underlying 110 = some (.map 9 47) := Tryz.underlying110
theorem zeroR (w : World) : (zeroValue 47).run Tryz.prog w = .ok (resW noRes) w := by kernel_rfl
theorem valT_getD (t : List (Nm × ResR)) (s : Nm) : ((lval s t).map resW).getD (resW noRes) = resW (valT t s) := by
  unfold valT
  cases lval s t <;> rfl
theorem outT_len (g : GrR) (srcs : List SrcR) : (outT g srcs).length = g.acts.length := by simp [outT]
theorem outT_get (g : GrR) (srcs : List SrcR) (i : Nat) (h : i < g.acts.length) : (outT g srcs)[i]'(by rw [outT_len]; exact h) = (g.acts[i].name, valT (madeS g srcs) g.acts[i].name) := by simp [outT]
theorem srcT_take (srcs : List SrcR) (k : Nat) (h : k < srcs.length) : srcT (srcs.take (k + 1)) = lput srcs[k].1 ((0 : Int), srcs[k].2) (srcT (srcs.take k)) := by
  unfold srcT
  rw [List.map_take, List.map_take, atL_take _ k (by simpa using h)]
  simp
theorem srcT_length (srcs : List SrcR) : (srcT srcs).length ≤ srcs.length ∧ ((srcT srcs).length = srcs.length ↔ (srcs.map Prod.fst).Nodup) := by
  have h := atL_length (srcs.map fun s => (s.1, ((0 : Int), s.2)))
  rw [List.length_map, List.map_map] at h
  exact ⟨h.1, h.2.1⟩
theorem srcT_some (srcs : List SrcR) (hn : (srcs.map Prod.fst).Nodup) (s : Nm) : (lval s (srcT srcs)).isSome = true ↔ s ∈ srcs.map Prod.fst := by
  constructor
  · intro h
    cases hv : lval s (srcT srcs) with
    | none => rw [hv] at h; cases h
    | some r =>
      rw [srcT_eq hn] at hv
      obtain ⟨x, hx, e⟩ := List.mem_map.1 (mem_of_lval hv)
      simp only [Prod.mk.injEq] at e
      exact List.mem_map.2 ⟨x, hx, e.1⟩
  · intro h
    obtain ⟨x, hx, e⟩ := List.mem_map.1 h
    rw [← e, srcT_mem hn hx]
    rfl
end Go.Proofs.YthglfmacjoecgaaGreatDoor
namespace Go.Proofs.YthglfmacjoecgaaGreatDoor
open Go.RowKit

set_option maxRecDepth 100000 in
set_option maxHeartbeats 4000000 in
theorem rmake_any (code : ByteArray) (hc : code.size ≤ 1000) (rs : List ResR) (hn : rs.length ≤ 32) (hb : ∀ r ∈ rs, r.2.size ≤ 100000) (v : Value) (w : World) (hin : ResAt w v rs) :
    Calls Tryz.prog 33 #[.string code, v] w (Rets (resW (makeF code rs)) (Chg (fun _ => False) w)) := by
  have hlen := hin.len
  have HIN := hid hin
  have HBZ := hid hb
  have ha1 := heap_alloc_new' w (.cells #[.int .i64 0, .string { data := #[] }] 47)
  have hc1 := al_chg w (.cells #[.int .i64 0, .string { data := #[] }] 47)
  have hs1 : (w.alloc (.cells #[.int .i64 0, .string { data := #[] }] 47)).heap.size = w.heap.size + 1 := by simp
  have HA1 := hid ha1
  have HC1 := hid hc1
  have HS1 := hid hs1
  clear hin hb ha1 hc1 hs1
  go_enter Tryz.func33, Tryz.ntmps33
  go_wp2_with fail
  generalize w.alloc (.cells #[.int .i64 0, .string { data := #[] }] 47) = w1 at *
  obtain ⟨d0, hd0⟩ : ∃ d0, d0 = w.heap.size := ⟨_, rfl⟩
  have HD0 := hid hd0
  rw [← hd0] at HA1 HS1 ⊢
  clear hd0
  go_loopw [5, 6] (fun v5 i wr => ∃ (k : Nat) (x : Value), x = v5 ∧ k ≤ rs.length ∧ i = .int .i64 k ∧ wr.ownsRow 0 9 1 x k (((rs.take k).map Prod.snd).map Value.string) ∧ (∀ q, x.ownBlock = some q → d0 + 1 ≤ q) ∧ Chg (fun _ => False) w1 wr ∧ ∀ r ∈ rs.take k, r.1 = 0) (fun _ i _ => rs.length - (intOf i).toNat)
  case atStart =>
    have h := owns_new w1 [] 9 1 0 rfl (Nat.zero_le _)
    rw [HS1.out] at h
    exact ⟨0, _, rfl, Nat.zero_le _, rfl, h, (fun q h => by simp [Value.ownBlock] at h; omega), al_chg w1 _, by simp⟩
  case round =>
    obtain ⟨k, x5, hx5, hk, rfl, hown, hbl, hch, hz⟩ := hrel
    subst hx5
    have HOWN := hid hown
    have HBL := hid hbl
    have HCH := hid hch
    have HZ := hid hz
    clear hown hbl hch hz
    by_cases hkn : k < rs.length
    · have hkn' : (k : Int) < rs.length := by omega
      have hcw : Chg (fun _ => False) w wr := HC1.out.trans HCH.out (fun _ _ h => h)
      obtain ⟨bb, oo, hix, e0, e1, hlt⟩ := (HIN.out.chg hcw (fun _ _ h => h)).ix k hkn
      have HTK : Hid (((rs.take (k + 1)).map Prod.snd).map Value.string = ((rs.take k).map Prod.snd).map Value.string ++ [.string rs[k].2]) := hid (by rw [List.take_succ_eq_append_getElem hkn, List.map_append, List.map_append]; rfl)
      have HTM : Hid (∀ r ∈ rs.take (k + 1), r ∈ rs.take k ∨ r = rs[k]) := hid (fun r hr => by
        rw [List.take_succ_eq_append_getElem hkn, List.mem_append] at hr
        rcases hr with h | h
        · exact .inl h
        · exact .inr (List.mem_singleton.1 h))
      have HME := hid (List.getElem_mem hkn)
      have HSZ : Hid (d0 + 1 ≤ wr.heap.size) := hid (by have := HCH.out.size; have := HS1.out; omega)
      have hcz : ∃ cd, cd = rs[k].1 := ⟨_, rfl⟩
      obtain ⟨cd, hcd⟩ := hcz
      have HCD := hid hcd
      rw [← hcd] at e0
      clear hcd hcw
      obtain ⟨b2, hb2⟩ : ∃ b2, b2 = rs[k].2 := ⟨_, rfl⟩
      rw [← hb2] at e1 HTK
      clear hb2
      have hkd := HCH.out.obj HA1.out (fun h => h)
      have q0 := cell_of hkd 0
      have q1 := cell_of hkd 1
      have f0 := frozen_of hkd 0
      have f1 := frozen_of hkd 1
      simp at q0 q1
      have XS := hid (res_stored hkd (.int .i64 34) (.string { data := #[] }))
      have hdn : ¬ d0 = wr.heap.size := by have := HSZ.out; omega
      have hdn2 : ¬ wr.heap.size = d0 := by have := HSZ.out; omega
      clear hkd
      by_cases h0 : cd = 0
      · subst h0
        go_wp2_with (guard_target =~ wpList _ _ _ (Oper.mk (some 30) _ _ _ _ _ :: _) _ _; refine wpList_append_new rfl _ _ 22 rfl elStr HOWN.out rfl #[.string b2] 1 1 rfl rfl rfl (by unfold maxLen; omega) (by omega) (by decide) ?_; intro g6 cap6 w6 hown6 hch6 hg6)
        go_roundw
        case rel =>
          refine ⟨k + 1, _, rfl, by omega, by go_num, ?_, fun q hq => ?_, HCH.out.trans hch6 (fun q hq h => absurd (HBL.out q h) (by have := HS1.out; omega)), fun r hr => ?_⟩
          · rw [HTK.out]
            exact hown6
          · simp [Value.ownBlock] at hq
            subst hq
            rcases hg6 with h | h
            · exact HBL.out _ h
            · have := HSZ.out
              omega
          · rcases HTM.out r hr with h | h
            · exact HZ.out r h
            · rw [h]; exact HCD.out.symm
        case measure => simp [intOf]; omega
      · have hne : (cd == 0) = false := by rw [beq_eq_false_iff_ne]; exact h0
        have HM : Hid (makeF code rs = (34, ByteArray.empty)) := hid (by
          unfold makeF
          rw [if_pos ⟨rs[k], HME.out, by rw [← HCD.out]; exact h0⟩])
        go_wp2_with fail
        refine bodyPost_ret (v := resW (34, ByteArray.empty)) (by simp [results, Tryz.results33, go_sem, XS.out.1, XS.out.2.1]; rfl) rfl ⟨by rw [HM.out], ?_⟩
        have hcw : Chg (fun _ => False) w wr := HC1.out.trans HCH.out (fun _ _ h => h)
        have := res_chg hcw (.int .i64 34) (.string { data := #[] })
        rw [← HD0.out] at this
        exact this
    · obtain rfl : k = rs.length := by omega
      have hown := HOWN.out
      rw [List.take_length] at hown
      have hz := HZ.out
      rw [List.take_length] at hz
      have hstr : StrsAt wr x5 (rs.map Prod.snd) := strs_own hown (by simp) (by simp; omega) (fun s hs => by
        obtain ⟨r, hr, rfl⟩ := List.mem_map.1 hs
        exact HBZ.out r hr)
      have hcw : Chg (fun _ => False) w wr := HC1.out.trans HCH.out (fun _ _ h => h)
      have hrun := rrun_any code (by unfold maxLen; omega) x5 (rs.map Prod.snd) wr hstr
      have hM : makeF code rs = (((runOut hashS code (rs.map Prod.snd)).1.1 : Int), (runOut hashS code (rs.map Prod.snd)).1.2) := by
        unfold makeF
        rw [if_neg (fun ⟨r, hr, h⟩ => h (hz r hr))]
      have HM := hid hM
      have HRUN := hid hrun
      clear hown hz hstr hcw hrun hM
      generalize (runOut hashS code (rs.map Prod.snd)).1.1 = c9 at *
      generalize (runOut hashS code (rs.map Prod.snd)).1.2 = b9 at *
      generalize (runOut hashS code (rs.map Prod.snd)).2 = n9 at *
      go_wp2_with (go_at_call 72; refine HRUN.out.mono ?_; rintro e w9 ⟨rfl, hc9⟩; have hkd := heap_alloc_old' ((HCH.out.trans hc9 (fun _ _ h => h)).obj HA1.out (fun h => h)) (.cells #[.int .i64 (c9 : Int), .string b9] 47); have q0 := cell_of hkd 0; have q1 := cell_of hkd 1; have f0 := frozen_of hkd 0; have f1 := frozen_of hkd 1; simp at q0 q1; have XS := hid (res_stored hkd (.int .i64 (c9 : Int)) (.string b9)); have hdn : ¬ d0 = w9.heap.size := (by have := HCH.out.size; have := HS1.out; have := hc9.size; omega); have hdn2 : ¬ w9.heap.size = d0 := (fun e => hdn e.symm); clear hkd)
      refine bodyPost_ret (v := resW ((c9 : Int), b9)) (by simp [results, Tryz.results33, go_sem, XS.out.1, XS.out.2.1]; rfl) rfl ⟨by rw [HM.out], ?_⟩
      have hcw : Chg (fun _ => False) w (w9.alloc (.cells #[.int .i64 (c9 : Int), .string b9] 47)) := ((HC1.out.trans HCH.out (fun _ _ h => h)).trans hc9 (fun _ _ h => h)).alloc _
      have := res_chg hcw (.int .i64 (c9 : Int)) (.string b9)
      rw [← HD0.out] at this
      exact this
end Go.Proofs.YthglfmacjoecgaaGreatDoor
namespace Go.Proofs.YthglfmacjoecgaaGreatDoor
open Go.RowKit
section
variable {P : Program} {w : World} {ops : Array Oper} {rest : List Oper} {o : Oper} {a : Act} {Q : Exit → Act → World → Prop}
theorem wpList_build2 (hg : o.guard = none) (t : TypeId) (i j : Nat) (x y : Operand) (hop : o.op = Op.build t #[(i, x), (j, y)]) (vx vy : Value) (hx : a.eval x = vx) (hy : a.eval y = vy) (z : Value) (hr : (Instr.build t #[(i, vx), (j, vy)]).run P w = .ok z w)
    (h : wpList P ops Q rest (a.put o.dst z) w) : wpList P ops Q (o :: rest) a w := by
  refine wpList_plain hg fun K' hK' => ?_
  unfold Oper.wp
  simp only [execOp, hop, Sem.run_bind, List.map_toArray, List.map_cons, List.map_nil, hx, hy, hr, Result.andThen, Sem.run_pure, Oper.upon]
  exact hK' _ _ h
theorem wpList_storeO (hg : o.guard = none) (t : TypeId) (x y : Operand) (hop : o.op = Op.store t x y) (b off : Nat) (T : TypeId) (c zc c' : Array Value) (hx : a.eval x = .pointer (some ⟨b, off, none⟩)) (hy : a.eval y = .agg zc)
    (hb : w.heap[b]? = some (.cells c T (0, 0))) (hs : ∀ w, (sizeOf t).run P w = .ok zc.size w) (hc : off + zc.size ≤ c.size) (h1 : zc.toList.all Value.oneCell' = true) (hc' : (c.toList.take off ++ zc.toList ++ c.toList.drop (off + zc.size)).toArray = c')
    (h : ∀ w', w'.heap[b]? = some (.cells c' T (0, 0)) → w'.heap.size = w.heap.size → Chg (fun k => k = b) w w' → wpList P ops Q rest (a.put o.dst undef) w') : wpList P ops Q (o :: rest) a w := by
  refine wpList_plain hg fun K' hK' => ?_
  have hst := run_storeCells_at P b off T zc.toList 0 c w hb (by simp; omega) (fun v hv => List.all_eq_true.1 h1 v hv)
  have e : (c.toList.take (off + 0) ++ zc.toList ++ c.toList.drop (off + 0 + zc.toList.length)).toArray = c' := by
    rw [← hc']; simp
  rw [e] at hst
  have hrun : (Instr.storeAt t (.pointer (some ⟨b, off, none⟩)) (.agg zc)).run P w = .ok () (w.setRow b c') := by
    simp [Instr.storeAt, Instr.sureAddr, storeVar, hs, Value.cells, hst]
  unfold Oper.wp
  simp only [execOp, hop, Sem.run_bind, hx, hy, hrun, Result.andThen, Sem.run_pure, Oper.upon]
  exact hK' _ _ (h _ (setRow_heap w b c c' T _ hb) (by simp [World.setRow]) ((Chg.refl (fun k => k = b) w).setRow (fun _ => rfl) _))
end
/-- What is told on of a result. -/
def outF (r : ResR) : Nat → UInt8 := if r.1 = 0 then ofB [r.2] else fun _ => 0
def zeroF : Nat → UInt8 := fun _ => 0
def recV (key : Nat → UInt8) (r : ResR) : Value := .agg (recA key r.1 (outF r))
theorem allocRec (w : World) : (Instr.alloc 67 true (.tuple #[])).run Tryz.prog w = .ok (.pointer (some ⟨w.heap.size, 0, none⟩)) (w.alloc (.cells (recA zeroF 0 zeroF) 67)) := by kernel_rfl
theorem sizeRec (w : World) : (sizeOf 67).run Tryz.prog w = .ok 65 w := by kernel_rfl
theorem buildRec (key : Nat → UInt8) (c : Int) (w : World) : (Instr.build 67 #[(0, .agg (rowB 32 key)), (1, .int .i64 c)]).run Tryz.prog w = .ok (.agg (recA key c zeroF)) w := by kernel_rfl
theorem recA_one (key : Nat → UInt8) (c : Int) (out : Nat → UInt8) : (recA key c out).toList.all Value.oneCell' = true := by
  rw [recA_list, List.all_append, List.all_append, rowB_one, rowB_one]; rfl
theorem recA_put (key : Nat → UInt8) (c : Int) (o1 o2 : Nat → UInt8) : ((recA key c o1).toList.take 33 ++ (rowB 32 o2).toList ++ (recA key c o1).toList.drop (33 + (rowB 32 o2).size)).toArray = recA key c o2 := by
  have h1 : (rowB 32 key).toList.length = 32 := by simp [rowB_size]
  have h2 : (rowB 32 o1).toList.length = 32 := by simp [rowB_size]
  apply Array.toList_inj.1
  rw [rowB_size, recA_list, recA_list]
  generalize (rowB 32 key).toList = K at *
  generalize (rowB 32 o1).toList = O at *
  have e1 : (K ++ ([Value.int .i64 c] ++ O)).take 33 = K ++ [Value.int .i64 c] := by
    rw [← List.append_assoc, List.take_append_of_le_length (by simp; omega), List.take_of_length_le (by simp; omega)]
  have e2 : (K ++ ([Value.int .i64 c] ++ O)).drop (33 + 32) = [] := List.drop_of_length_le (by simp; omega)
  rw [e1, e2]
  simp
set_option maxRecDepth 100000 in
set_option maxHeartbeats 4000000 in
theorem record_any {B : Nat} (key : Nat → UInt8) (r : ResR) (hb : r.2.size ≤ 100000) (w : World) (hT : TabsOK B w) (hB : B ≤ w.heap.size) :
    Calls Tryz.prog 31 #[.agg (rowB 32 key), resW r] w (Rets (recV key r) (Chg (fun _ => False) w)) := by
  obtain ⟨c, b⟩ := r
  have HT := hid hT
  have HBB := hid hB
  clear hT hB
  unfold resW
  simp only at hb ⊢
  by_cases h0 : c = 0
  · subst h0
    go_enter Tryz.func31, Tryz.ntmps31
    go_wp2_with (first | (guard_target =~ wpList _ _ _ (Oper.mk (some 2) _ _ _ _ _ :: _) _ _; refine wpList_box1 rfl 57 _ rfl (rowB 32 key) rfl ?_; intro w1 hk1 hs1 hc1; have HK1 := hid hk1; have HC1 := hid hc1; have HS1 := hid hs1; clear hs1 hk1 hc1) | (guard_target =~ wpList _ _ _ (Oper.mk (some 4) _ _ _ _ _ :: _) _ _; refine wpList_alloc0 rfl 67 rfl (recA zeroF 0 zeroF) (allocRec _) ?_; intro w3 hk3 hs3 hc3; have HK3 : Hid (w3.heap[w1.heap.size + 1]? = some (.cells (recA zeroF 0 zeroF) 67 (0, 0))) := hid (by have h := hk3; rw [show (w1.alloc (.cells #[.int .i64 0, .string b] 47)).heap.size = w1.heap.size + 1 by simp] at h; exact h); have HC3 := hid hc3; have HS3 : Hid (w3.heap.size = w1.heap.size + 1 + 1) := hid (by rw [hs3]; simp); have kR := hc3.obj (heap_alloc_new' w1 (.cells #[.int .i64 0, .string b] 47)) (fun h => h); have HKR := hid kR; have p0 := cell_of kR 0; have p1 := cell_of kR 1; simp at p0 p1; have hk2 := hc3.obj (heap_alloc_old' HK1.out (.cells #[.int .i64 0, .string b] 47)) (fun h => h); have HK2 := hid hk2; have HCW3 : Hid (Chg (fun _ => False) w w3) := hid ((HC1.out.alloc _).trans hc3 (fun _ _ h => h)); clear hs3 hk3 hc3 kR hk2) | (guard_target =~ wpList _ _ _ (Oper.mk (some 6) _ _ _ _ _ :: _) _ _; refine wpList_load0 rfl 57 _ rfl w.heap.size (rowB 32 key) (.array 32 5) rfl HK2.out Tryz.underlying57 rfl (by rw [rowB_size]; kernel_rfl) ?_) | (guard_target =~ wpList _ _ _ (Oper.mk (some 9) _ _ _ _ _ :: _) _ _; refine wpList_build2 rfl 67 0 1 _ _ rfl (.agg (rowB 32 key)) (.int .i64 0) rfl rfl _ (buildRec key 0 _) ?_) | (guard_target =~ wpList _ _ _ (Oper.mk (some 5) _ _ _ _ _ :: _) _ _; refine wpList_alloc0 rfl 67 rfl (recA zeroF 0 zeroF) (allocRec _) ?_; intro w5 hk5 hs5 hc5; have HK5 := hid hk5; have HC5 := hid hc5; have HS5 := hid hs5; clear hs5 hk5 hc5) | (guard_target =~ wpList _ _ _ (Oper.mk none (Op.store _ (Operand.tmp 4) _) _ _ _ _ :: _) _ _; refine wpList_store0 rfl 67 _ _ rfl (w1.heap.size + 1) (recA zeroF 0 zeroF) (recA key 0 (ofB [b])) rfl rfl HK48.out (by rw [recA_size]; exact sizeRec) (by rw [recA_size, recA_size]) (recA_one _ _ _) ?_; intro w9 hk9 hs9 hc9) | (guard_target =~ wpList _ _ _ (Oper.mk none (Op.store _ (Operand.tmp 17) _) _ _ _ _ :: _) _ _; refine wpList_storeO rfl 57 _ _ rfl w3.heap.size 33 67 (recA key 0 zeroF) (rowB 32 (ofB [b])) (recA key 0 (ofB [b])) rfl rfl HK7.out (by rw [rowB_size]; exact size37) (by rw [rowB_size, recA_size]; decide) (rowB_one _ _) (recA_put _ _ _ _) ?_; intro w8 hk8 hs8 hc8; have HK8 := hid hk8; have HC8 := hid hc8; have HK48 := hid (hc8.obj (hc7.obj (heap_alloc_old' HK46.out _) (fun h => h)) (by have := HS3.out; show ¬ (w1.heap.size + 1 = w3.heap.size); omega)); clear hs8 hk8) | (guard_target =~ wpList _ _ _ (Oper.mk none (Op.store _ (Operand.tmp 5) _) _ _ _ _ :: _) _ _; refine wpList_store0 rfl 67 _ _ rfl w3.heap.size (recA zeroF 0 zeroF) (recA key 0 zeroF) rfl rfl HK5.out (by rw [recA_size]; exact sizeRec) (by rw [recA_size, recA_size]) (recA_one _ _ _) ?_; intro w6 hk6 hs6 hc6; have HK6 := hid hk6; have HC6 := hid hc6; clear hs6 hk6; have p0 := hc6.cell (HC5.out.cell p0 (fun h => h)) (by have := HS3.out; show ¬ (w1.heap.size = w3.heap.size); omega); have p1 := hc6.cell (HC5.out.cell p1 (fun h => h)) (by have := HS3.out; show ¬ (w1.heap.size = w3.heap.size); omega); have HK46 := hid (hc6.obj (HC5.out.obj HK3.out (fun h => h)) (by have := HS3.out; show ¬ (w1.heap.size + 1 = w3.heap.size); omega)); have HCW6 : Hid (Chg (fun _ => False) w w6) := hid ((HCW3.out.trans HC5.out (fun _ _ h => h)).trans hc6 (fun i hi h => by have := HCW3.out.size; omega)); clear hc6) | (go_at_call 28; refine (of_one b hb w6 (HT.out.keep HCW6.out) (Nat.le_trans HBB.out HCW6.out.size)).mono ?_; rintro e w7 ⟨rfl, hc7⟩; have HK7 := hid (hc7.obj (heap_alloc_old' HK6.out _) (fun h => h))) | (guard_target =~ wpList _ _ _ (Oper.mk (some 18) _ _ _ _ _ :: _) _ _; refine wpList_load0 rfl 67 _ rfl w3.heap.size (recA key 0 (ofB [b])) (.struct _) rfl HK8.out Tryz.underlying67 rfl (by rw [recA_size]; kernel_rfl) ?_))
    refine bodyPost_ret (v := .agg (recA key 0 (ofB [b]))) ?_ rfl ⟨?_, ?_⟩
    · exact results_row Tryz.results31 _ _ (w1.heap.size + 1) rfl _ (run_loadVar_row _ (w1.heap.size + 1) 67 67 _ (0, 0) (.struct _) hk9 Tryz.underlying67 rfl (by rw [recA_size]; kernel_rfl))
    · have ho : outF (0, b) = (ofB [b]) := if_pos rfl
      unfold recV
      rw [ho]
    · exact (((HCW6.out.alloc _).trans hc7 (fun _ _ h => h)).trans HC8.out (fun i hi h => by have := HCW3.out.size; omega)).trans hc9 (fun i hi h => by have := HS1.out; omega)
  · have hne : (c == 0) = false := by rw [beq_eq_false_iff_ne]; exact h0
    go_enter Tryz.func31, Tryz.ntmps31
    go_wp2_with (first | (guard_target =~ wpList _ _ _ (Oper.mk (some 2) _ _ _ _ _ :: _) _ _; refine wpList_box1 rfl 57 _ rfl (rowB 32 key) rfl ?_; intro w1 hk1 hs1 hc1; have HK1 := hid hk1; have HC1 := hid hc1; have HS1 := hid hs1; clear hs1 hk1 hc1) | (guard_target =~ wpList _ _ _ (Oper.mk (some 4) _ _ _ _ _ :: _) _ _; refine wpList_alloc0 rfl 67 rfl (recA zeroF 0 zeroF) (allocRec _) ?_; intro w3 hk3 hs3 hc3; have HK3 : Hid (w3.heap[w1.heap.size + 1]? = some (.cells (recA zeroF 0 zeroF) 67 (0, 0))) := hid (by have h := hk3; rw [show (w1.alloc (.cells #[.int .i64 c, .string b] 47)).heap.size = w1.heap.size + 1 by simp] at h; exact h); have HC3 := hid hc3; have HS3 : Hid (w3.heap.size = w1.heap.size + 1 + 1) := hid (by rw [hs3]; simp); have kR := hc3.obj (heap_alloc_new' w1 (.cells #[.int .i64 c, .string b] 47)) (fun h => h); have HKR := hid kR; have p0 := cell_of kR 0; have p1 := cell_of kR 1; simp at p0 p1; have hk2 := hc3.obj (heap_alloc_old' HK1.out (.cells #[.int .i64 c, .string b] 47)) (fun h => h); have HK2 := hid hk2; have HCW3 : Hid (Chg (fun _ => False) w w3) := hid ((HC1.out.alloc _).trans hc3 (fun _ _ h => h)); clear hs3 hk3 hc3 kR hk2) | (guard_target =~ wpList _ _ _ (Oper.mk (some 6) _ _ _ _ _ :: _) _ _; refine wpList_load0 rfl 57 _ rfl w.heap.size (rowB 32 key) (.array 32 5) rfl HK2.out Tryz.underlying57 rfl (by rw [rowB_size]; kernel_rfl) ?_) | (guard_target =~ wpList _ _ _ (Oper.mk (some 9) _ _ _ _ _ :: _) _ _; refine wpList_build2 rfl 67 0 1 _ _ rfl (.agg (rowB 32 key)) (.int .i64 c) rfl rfl _ (buildRec key c _) ?_) | (guard_target =~ wpList _ _ _ (Oper.mk (some 5) _ _ _ _ _ :: _) _ _; refine wpList_alloc0 rfl 67 rfl (recA zeroF 0 zeroF) (allocRec _) ?_; intro w5 hk5 hs5 hc5; have HK5 := hid hk5; have HC5 := hid hc5; have HS5 := hid hs5; clear hs5 hk5 hc5) | (guard_target =~ wpList _ _ _ (Oper.mk none (Op.store _ (Operand.tmp 4) _) _ _ _ _ :: _) _ _; refine wpList_store0 rfl 67 _ _ rfl (w1.heap.size + 1) (recA zeroF 0 zeroF) (recA key c zeroF) rfl rfl HK48.out (by rw [recA_size]; exact sizeRec) (by rw [recA_size, recA_size]) (recA_one _ _ _) ?_; intro w9 hk9 hs9 hc9) | (guard_target =~ wpList _ _ _ (Oper.mk none (Op.store _ (Operand.tmp 5) _) _ _ _ _ :: _) _ _; refine wpList_store0 rfl 67 _ _ rfl w3.heap.size (recA zeroF 0 zeroF) (recA key c zeroF) rfl rfl HK5.out (by rw [recA_size]; exact sizeRec) (by rw [recA_size, recA_size]) (recA_one _ _ _) ?_; intro w6 hk6 hs6 hc6; have HK6 := hid hk6; have HC6 := hid hc6; clear hs6 hk6; have p0 := hc6.cell (HC5.out.cell p0 (fun h => h)) (by have := HS3.out; show ¬ (w1.heap.size = w3.heap.size); omega); have p1 := hc6.cell (HC5.out.cell p1 (fun h => h)) (by have := HS3.out; show ¬ (w1.heap.size = w3.heap.size); omega); have HK46 := hid (hc6.obj (HC5.out.obj HK3.out (fun h => h)) (by have := HS3.out; show ¬ (w1.heap.size + 1 = w3.heap.size); omega)); have HCW6 : Hid (Chg (fun _ => False) w w6) := hid ((HCW3.out.trans HC5.out (fun _ _ h => h)).trans hc6 (fun i hi h => by have := HCW3.out.size; omega)); have HK8 := HK6; have HK48 := HK46; clear hc6) | (guard_target =~ wpList _ _ _ (Oper.mk (some 18) _ _ _ _ _ :: _) _ _; refine wpList_load0 rfl 67 _ rfl w3.heap.size (recA key c zeroF) (.struct _) rfl HK8.out Tryz.underlying67 rfl (by rw [recA_size]; kernel_rfl) ?_))
    refine bodyPost_ret (v := .agg (recA key c zeroF)) ?_ rfl ⟨?_, ?_⟩
    · exact results_row Tryz.results31 _ _ (w1.heap.size + 1) rfl _ (run_loadVar_row _ (w1.heap.size + 1) 67 67 _ (0, 0) (.struct _) hk9 Tryz.underlying67 rfl (by rw [recA_size]; kernel_rfl))
    · have ho : outF (c, b) = zeroF := if_neg h0
      unfold recV
      rw [ho]
    · exact HCW6.out.trans hc9 (fun i hi h => by have := HS1.out; omega)
end Go.Proofs.YthglfmacjoecgaaGreatDoor
namespace Go.Proofs.YthglfmacjoecgaaGreatDoor
open Go.RowKit

set_option maxRecDepth 100000 in
set_option maxHeartbeats 4000000 in
theorem rrecord_any (key : Nat → UInt8) (r : ResR) (hb : r.2.size ≤ 100000) (w : World) :
    Calls Tryz.prog 34 #[.agg (rowB 32 key), resW r] w (Rets (recV key r) (Chg (fun _ => False) w)) := by
  obtain ⟨c, b⟩ := r
  unfold resW
  simp only at hb ⊢
  by_cases h0 : c = 0
  · subst h0
    go_enter Tryz.func34, Tryz.ntmps34
    go_wp2_with (first | (guard_target =~ wpList _ _ _ (Oper.mk (some 2) _ _ _ _ _ :: _) _ _; refine wpList_box1 rfl 57 _ rfl (rowB 32 key) rfl ?_; intro w1 hk1 hs1 hc1; have HK1 := hid hk1; have HC1 := hid hc1; have HS1 := hid hs1; clear hs1 hk1 hc1) | (guard_target =~ wpList _ _ _ (Oper.mk (some 4) _ _ _ _ _ :: _) _ _; refine wpList_alloc0 rfl 67 rfl (recA zeroF 0 zeroF) (allocRec _) ?_; intro w3 hk3 hs3 hc3; have HK3 : Hid (w3.heap[w1.heap.size + 1]? = some (.cells (recA zeroF 0 zeroF) 67 (0, 0))) := hid (by have h := hk3; rw [show (w1.alloc (.cells #[.int .i64 0, .string b] 47)).heap.size = w1.heap.size + 1 by simp] at h; exact h); have HC3 := hid hc3; have HS3 : Hid (w3.heap.size = w1.heap.size + 1 + 1) := hid (by rw [hs3]; simp); have kR := hc3.obj (heap_alloc_new' w1 (.cells #[.int .i64 0, .string b] 47)) (fun h => h); have HKR := hid kR; have p0 := cell_of kR 0; have p1 := cell_of kR 1; simp at p0 p1; have hk2 := hc3.obj (heap_alloc_old' HK1.out (.cells #[.int .i64 0, .string b] 47)) (fun h => h); have HK2 := hid hk2; have HCW3 : Hid (Chg (fun _ => False) w w3) := hid ((HC1.out.alloc _).trans hc3 (fun _ _ h => h)); clear hs3 hk3 hc3 kR hk2) | (guard_target =~ wpList _ _ _ (Oper.mk (some 6) _ _ _ _ _ :: _) _ _; refine wpList_load0 rfl 57 _ rfl w.heap.size (rowB 32 key) (.array 32 5) rfl HK2.out Tryz.underlying57 rfl (by rw [rowB_size]; kernel_rfl) ?_) | (guard_target =~ wpList _ _ _ (Oper.mk (some 9) _ _ _ _ _ :: _) _ _; refine wpList_build2 rfl 67 0 1 _ _ rfl (.agg (rowB 32 key)) (.int .i64 0) rfl rfl _ (buildRec key 0 _) ?_) | (guard_target =~ wpList _ _ _ (Oper.mk (some 5) _ _ _ _ _ :: _) _ _; refine wpList_alloc0 rfl 67 rfl (recA zeroF 0 zeroF) (allocRec _) ?_; intro w5 hk5 hs5 hc5; have HK5 := hid hk5; have HC5 := hid hc5; have HS5 := hid hs5; clear hs5 hk5 hc5) | (guard_target =~ wpList _ _ _ (Oper.mk none (Op.store _ (Operand.tmp 4) _) _ _ _ _ :: _) _ _; refine wpList_store0 rfl 67 _ _ rfl (w1.heap.size + 1) (recA zeroF 0 zeroF) (recA key 0 (ofB [b])) rfl rfl HK48.out (by rw [recA_size]; exact sizeRec) (by rw [recA_size, recA_size]) (recA_one _ _ _) ?_; intro w9 hk9 hs9 hc9) | (guard_target =~ wpList _ _ _ (Oper.mk none (Op.store _ (Operand.tmp 16) _) _ _ _ _ :: _) _ _; refine wpList_storeO rfl 57 _ _ rfl w3.heap.size 33 67 (recA key 0 zeroF) (rowB 32 (ofB [b])) (recA key 0 (ofB [b])) rfl rfl HK7.out (by rw [rowB_size]; exact size37) (by rw [rowB_size, recA_size]; decide) (rowB_one _ _) (recA_put _ _ _ _) ?_; intro w8 hk8 hs8 hc8; have HK8 := hid hk8; have HC8 := hid hc8; have HK48 := hid (hc8.obj (hc7.obj HK46.out (fun h => h)) (by have := HS3.out; show ¬ (w1.heap.size + 1 = w3.heap.size); omega)); clear hs8 hk8) | (guard_target =~ wpList _ _ _ (Oper.mk none (Op.store _ (Operand.tmp 5) _) _ _ _ _ :: _) _ _; refine wpList_store0 rfl 67 _ _ rfl w3.heap.size (recA zeroF 0 zeroF) (recA key 0 zeroF) rfl rfl HK5.out (by rw [recA_size]; exact sizeRec) (by rw [recA_size, recA_size]) (recA_one _ _ _) ?_; intro w6 hk6 hs6 hc6; have HK6 := hid hk6; have HC6 := hid hc6; clear hs6 hk6; have p0 := hc6.cell (HC5.out.cell p0 (fun h => h)) (by have := HS3.out; show ¬ (w1.heap.size = w3.heap.size); omega); have p1 := hc6.cell (HC5.out.cell p1 (fun h => h)) (by have := HS3.out; show ¬ (w1.heap.size = w3.heap.size); omega); have HK46 := hid (hc6.obj (HC5.out.obj HK3.out (fun h => h)) (by have := HS3.out; show ¬ (w1.heap.size + 1 = w3.heap.size); omega)); have HCW6 : Hid (Chg (fun _ => False) w w6) := hid ((HCW3.out.trans HC5.out (fun _ _ h => h)).trans hc6 (fun i hi h => by have := HCW3.out.size; omega)); clear hc6) | (go_at_call 70; refine (rof_any b hb _).mono ?_; rintro e w7 ⟨rfl, hc7⟩; have HK7 := hid (hc7.obj HK6.out (fun h => h))) | (guard_target =~ wpList _ _ _ (Oper.mk (some 17) _ _ _ _ _ :: _) _ _; refine wpList_load0 rfl 67 _ rfl w3.heap.size (recA key 0 (ofB [b])) (.struct _) rfl HK8.out Tryz.underlying67 rfl (by rw [recA_size]; kernel_rfl) ?_))
    refine bodyPost_ret (v := .agg (recA key 0 (ofB [b]))) ?_ rfl ⟨?_, ?_⟩
    · exact results_row Tryz.results34 _ _ (w1.heap.size + 1) rfl _ (run_loadVar_row _ (w1.heap.size + 1) 67 67 _ (0, 0) (.struct _) hk9 Tryz.underlying67 rfl (by rw [recA_size]; kernel_rfl))
    · have ho : outF (0, b) = (ofB [b]) := if_pos rfl
      unfold recV
      rw [ho]
    · exact ((HCW6.out.trans hc7 (fun _ _ h => h)).trans HC8.out (fun i hi h => by have := HCW3.out.size; omega)).trans hc9 (fun i hi h => by have := HS1.out; omega)
  · have hne : (c == 0) = false := by rw [beq_eq_false_iff_ne]; exact h0
    go_enter Tryz.func34, Tryz.ntmps34
    go_wp2_with (first | (guard_target =~ wpList _ _ _ (Oper.mk (some 2) _ _ _ _ _ :: _) _ _; refine wpList_box1 rfl 57 _ rfl (rowB 32 key) rfl ?_; intro w1 hk1 hs1 hc1; have HK1 := hid hk1; have HC1 := hid hc1; have HS1 := hid hs1; clear hs1 hk1 hc1) | (guard_target =~ wpList _ _ _ (Oper.mk (some 4) _ _ _ _ _ :: _) _ _; refine wpList_alloc0 rfl 67 rfl (recA zeroF 0 zeroF) (allocRec _) ?_; intro w3 hk3 hs3 hc3; have HK3 : Hid (w3.heap[w1.heap.size + 1]? = some (.cells (recA zeroF 0 zeroF) 67 (0, 0))) := hid (by have h := hk3; rw [show (w1.alloc (.cells #[.int .i64 c, .string b] 47)).heap.size = w1.heap.size + 1 by simp] at h; exact h); have HC3 := hid hc3; have HS3 : Hid (w3.heap.size = w1.heap.size + 1 + 1) := hid (by rw [hs3]; simp); have kR := hc3.obj (heap_alloc_new' w1 (.cells #[.int .i64 c, .string b] 47)) (fun h => h); have HKR := hid kR; have p0 := cell_of kR 0; have p1 := cell_of kR 1; simp at p0 p1; have hk2 := hc3.obj (heap_alloc_old' HK1.out (.cells #[.int .i64 c, .string b] 47)) (fun h => h); have HK2 := hid hk2; have HCW3 : Hid (Chg (fun _ => False) w w3) := hid ((HC1.out.alloc _).trans hc3 (fun _ _ h => h)); clear hs3 hk3 hc3 kR hk2) | (guard_target =~ wpList _ _ _ (Oper.mk (some 6) _ _ _ _ _ :: _) _ _; refine wpList_load0 rfl 57 _ rfl w.heap.size (rowB 32 key) (.array 32 5) rfl HK2.out Tryz.underlying57 rfl (by rw [rowB_size]; kernel_rfl) ?_) | (guard_target =~ wpList _ _ _ (Oper.mk (some 9) _ _ _ _ _ :: _) _ _; refine wpList_build2 rfl 67 0 1 _ _ rfl (.agg (rowB 32 key)) (.int .i64 c) rfl rfl _ (buildRec key c _) ?_) | (guard_target =~ wpList _ _ _ (Oper.mk (some 5) _ _ _ _ _ :: _) _ _; refine wpList_alloc0 rfl 67 rfl (recA zeroF 0 zeroF) (allocRec _) ?_; intro w5 hk5 hs5 hc5; have HK5 := hid hk5; have HC5 := hid hc5; have HS5 := hid hs5; clear hs5 hk5 hc5) | (guard_target =~ wpList _ _ _ (Oper.mk none (Op.store _ (Operand.tmp 4) _) _ _ _ _ :: _) _ _; refine wpList_store0 rfl 67 _ _ rfl (w1.heap.size + 1) (recA zeroF 0 zeroF) (recA key c zeroF) rfl rfl HK48.out (by rw [recA_size]; exact sizeRec) (by rw [recA_size, recA_size]) (recA_one _ _ _) ?_; intro w9 hk9 hs9 hc9) | (guard_target =~ wpList _ _ _ (Oper.mk none (Op.store _ (Operand.tmp 5) _) _ _ _ _ :: _) _ _; refine wpList_store0 rfl 67 _ _ rfl w3.heap.size (recA zeroF 0 zeroF) (recA key c zeroF) rfl rfl HK5.out (by rw [recA_size]; exact sizeRec) (by rw [recA_size, recA_size]) (recA_one _ _ _) ?_; intro w6 hk6 hs6 hc6; have HK6 := hid hk6; have HC6 := hid hc6; clear hs6 hk6; have p0 := hc6.cell (HC5.out.cell p0 (fun h => h)) (by have := HS3.out; show ¬ (w1.heap.size = w3.heap.size); omega); have p1 := hc6.cell (HC5.out.cell p1 (fun h => h)) (by have := HS3.out; show ¬ (w1.heap.size = w3.heap.size); omega); have HK46 := hid (hc6.obj (HC5.out.obj HK3.out (fun h => h)) (by have := HS3.out; show ¬ (w1.heap.size + 1 = w3.heap.size); omega)); have HCW6 : Hid (Chg (fun _ => False) w w6) := hid ((HCW3.out.trans HC5.out (fun _ _ h => h)).trans hc6 (fun i hi h => by have := HCW3.out.size; omega)); have HK8 := HK6; have HK48 := HK46; clear hc6) | (guard_target =~ wpList _ _ _ (Oper.mk (some 17) _ _ _ _ _ :: _) _ _; refine wpList_load0 rfl 67 _ rfl w3.heap.size (recA key c zeroF) (.struct _) rfl HK8.out Tryz.underlying67 rfl (by rw [recA_size]; kernel_rfl) ?_))
    refine bodyPost_ret (v := .agg (recA key c zeroF)) ?_ rfl ⟨?_, ?_⟩
    · exact results_row Tryz.results34 _ _ (w1.heap.size + 1) rfl _ (run_loadVar_row _ (w1.heap.size + 1) 67 67 _ (0, 0) (.struct _) hk9 Tryz.underlying67 rfl (by rw [recA_size]; kernel_rfl))
    · have ho : outF (c, b) = zeroF := if_neg h0
      unfold recV
      rw [ho]
    · exact HCW6.out.trans hc9 (fun i hi h => by have := HS1.out; omega)
end Go.Proofs.YthglfmacjoecgaaGreatDoor
