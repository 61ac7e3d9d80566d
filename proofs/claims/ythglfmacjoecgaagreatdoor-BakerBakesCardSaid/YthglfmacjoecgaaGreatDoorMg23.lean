/- Texts of the proof, one behind the other: apiarylaw09.awake walked: the document's examples. -/
import Derived.Test.YthglfmacjoecgaaGreatDoorMg22
import Derived.Test.YthglfmacjoecgaaGreatDoorMg13
namespace Go.Proofs.YthglfmacjoecgaaGreatDoor
open Go.RowKit

theorem oaction_any (s c : ByteArray) (o : Option Addr) (n cp : Nat) (w : World) :
    Calls Tryz.prog 52 #[.string s, .string c, .slice o n cp] w (Rets (.agg #[.string s, .slice o n cp, .string c]) (Chg (fun _ => False) w)) := by
  go_enter Tryz.func52, Tryz.ntmps52
  go_wp2_with fail
  refine bodyPost_ret (v := .agg #[.string s, .slice o n cp, .string c]) ?_ rfl ⟨rfl, ?_⟩
  · simp [results, Tryz.results52, go_sem]
  · exact (Chg.refl _ w).alloc _
section
variable {P : Program} {w : World} {ops : Array Oper} {rest : List Oper} {o : Oper} {a : Act} {Q : Exit → Act → World → Prop}
theorem wpList_loadW (hw : Region.wanted o (yielded ops a.tmps) = true) (t : TypeId) (x : Operand) (hop : o.op = Op.load t x) (b off : Nat) (v : Value) (hx : a.eval x = .pointer (some ⟨b, off, none⟩)) (hr : (loadVar t ⟨b, off, none⟩).run P w = .ok v w)
    (h : wpList P ops Q rest (a.put o.dst v) w) : wpList P ops Q (o :: rest) a w := by
  refine wpList_plainW hw fun K' hK' => ?_
  unfold Oper.wp
  simp only [execOp, hop, hx, Instr.loadAt, Instr.sureAddr, Sem.run_bind, Sem.run_pure, Result.andThen_ok, hr, Oper.upon]
  exact hK' _ _ h
theorem wpList_build0W (hw : Region.wanted o (yielded ops a.tmps) = true) (t : TypeId) (hop : o.op = Op.build t #[]) (z : Value) (hr : (Instr.build t #[]).run P w = .ok z w)
    (h : wpList P ops Q rest (a.put o.dst z) w) : wpList P ops Q (o :: rest) a w := by
  refine wpList_plainW hw fun K' hK' => ?_
  unfold Oper.wp
  simp only [execOp, hop, Sem.run_bind, List.map_toArray, List.map_nil, hr, Result.andThen, Sem.run_pure, Oper.upon]
  exact hK' _ _ h
theorem wpList_eqlW (hw : Region.wanted o (yielded ops a.tmps) = true) (t t2 : TypeId) (x y : Operand) (hop : o.op = Op.binOp .eql t x y t2) (xs ys : Array Value) (hx : a.eval x = .agg xs) (hy : a.eval y = .agg ys) (hm : P.eqGuardType P.depth t = false) (r : Bool) (hr : (binOp .eql t (.agg xs) (.agg ys)).run P w = .ok (.bool r) w)
    (h : wpList P ops Q rest (a.put o.dst (.bool r)) w) : wpList P ops Q (o :: rest) a w := by
  refine wpList_plainW hw fun K' hK' => ?_
  have hge := run_eqGuard_agg (P := P) w .eql t x y xs ys hm
  unfold Oper.wp
  simp only [execOp, hop, Sem.run_bind, hx, hy, hge, hr, Result.andThen, Sem.run_pure, Oper.upon]
  exact hK' _ _ h
end
theorem yieldsIf_load1 {P : Program} {ops : Array Oper} {S : World → Prop} {o : Oper} {a : Act} (hw : Region.wanted o (yielded ops a.tmps) = true) (t : TypeId) (x : Operand) (hop : o.op = Op.load t x) (b off : Nat) (v : Value) (hx : a.eval x = .pointer (some ⟨b, off, none⟩))
    (hS : ∀ w, S w → (loadVar t ⟨b, off, none⟩).run P w = .ok v w) : YieldsIf P ops S o v a :=
  .inl ⟨hw, fun w hw' => by
    unfold execOp
    simp only [hop, hx, Instr.loadAt, Instr.sureAddr, Sem.run_bind, Sem.run_pure, Result.andThen_ok, hS w hw']⟩
theorem load_str {w : World} {b off : Nat} {v : Value} (h : w.cell? ⟨b, off, none⟩ = some v) : (loadVar 9 ⟨b, off, none⟩).run Tryz.prog w = .ok v w := by
  simp [go_sem, h]
theorem load_err {w : World} {b off : Nat} {v : Value} (h : w.cell? ⟨b, off, none⟩ = some v) : (loadVar 30 ⟨b, off, none⟩).run Tryz.prog w = .ok v w := by
  simp [go_sem, h]
theorem wpAnyH_takeD {P : Program} {md : Region.Mode} {ops : Array Oper} {S : World → Prop} {Q : Exit → Act → World → Prop} {i : Nat} {oi : Oper} {v : Value} {fuel : Nat} {listed : Array Bool} {a : Act} {w : World} (k : Option Tmp) (hi : ops[i]? = some oi) (hk : oi.dst = k)
    (hs : Region.noSelect ops = true) (hf : Region.free md ops listed i = true) (hr : (Region.ready md ops listed).contains i = true)
    (hQ : ∀ c a w, Q (.panic c) (a.put oi.dst v) w → Q (.panic c) a w) (hy : YieldsIf P ops S oi v a) (hS : S w)
    (h : wpAnyH P md ops Q S fuel (listed.setIfInBounds i true) (a.put k v) w) : wpAnyH P md ops Q S (fuel + 1) listed a w := by
  subst hk
  exact wpAnyH_take hi hs hf hr hQ hy hS h
theorem srcs_new (w : World) (ss : List SrcR) (n : Nat) (hn : n = ss.length) (hl : n ≤ 1000) (hw : ∀ s ∈ ss, s.1.length ≤ 1000 ∧ s.2.size ≤ 1000) : SrcsAt (w.alloc (.cells (ss.flatMap srcL).toArray 55)) (.slice (some ⟨w.heap.size, 0, none⟩) n n) ss := by
  subst hn
  refine ⟨rows_of_owns srcL noSrc ss (fun _ => rfl) (owns_new w (ss.flatMap srcL) 55 2 ss.length (flat_lenV srcL 2 (fun _ => rfl) ss) (by unfold maxLen; omega)) (by unfold maxLen; omega), fun s hs => ?_⟩
  have := hw s hs
  unfold maxLen
  omega
theorem ress_new (w : World) (rs : List ResR) (n : Nat) (hn : n = rs.length) (hl : n ≤ 1000) (hw : ∀ r ∈ rs, r.2.size ≤ 100000) : ResAt (w.alloc (.cells (rs.flatMap resL).toArray 47)) (.slice (some ⟨w.heap.size, 0, none⟩) n n) rs := by
  subst hn
  exact ResAt.of_owns rfl (owns_new w (rs.flatMap resL) 47 2 rs.length (flat_lenV resL 2 (fun _ => rfl) rs) (by unfold maxLen; omega)) (by omega) hw

theorem eq_dig_same (f : Nat → UInt8) (w : World) : (binOp .eql 57 (.agg (rowB 32 f)) (.agg (rowB 32 f))).run Tryz.prog w = .ok (.bool true) w := by
  obtain ⟨r, h1, h2⟩ := eq_dig f f w
  rw [h1, h2.2 (fun _ _ => rfl)]
theorem load_dig {w : World} {b off : Nat} {f : Nat → UInt8} (h : w.rangeAt b off (rowB 32 f).toList) : (loadVar 57 ⟨b, off, none⟩).run Tryz.prog w = .ok (.agg (rowB 32 f)) w := by
  have := run_loadVar_mid (P := Tryz.prog) w b off 57 _ _ h Tryz.underlying57 rfl (by rw [Array.length_toList, rowB_size]; kernel_rfl)
  simpa using this
theorem build_dig (w : World) : (Instr.build 57 #[]).run Tryz.prog w = .ok (.agg (rowB 32 (fun _ => 0))) w := by kernel_rfl
def aw9 : GrR := ⟨[[97]], [⟨[122], [[121]], [105, 0]⟩, ⟨[120], [[97]], [105, 0, 114]⟩, ⟨[121], [[120]], [99]⟩]⟩
def as9 : List SrcR := [([97], { data := #[103, 111] })]
theorem aw9_check : checkS aw9 as9 = 0 := by kernel_rfl
theorem aw9_none : checkS aw9 [] = 22 := by kernel_rfl
theorem aw9_out : outT aw9 as9 = [([122], (34, ByteArray.empty)), ([120], (0, { data := #[111, 103] })), ([121], (31, ByteArray.empty))] := by kernel_rfl
theorem aw9_key0 : keyS aw9 as9 0 = fun _ => 0 := by
  unfold keyS keyK
  rw [if_pos (by kernel_rfl)]
theorem aw9_key1 : keyS aw9 as9 1 = keyF { data := #[105, 0, 114] } [(0, { data := #[103, 111] })] := by
  unfold keyS keyK
  have h1 : insT2 aw9 (madeS aw9 as9) 1 = [(0, { data := #[103, 111] })] := by kernel_rfl
  rw [h1, if_neg (by decide +kernel)]
  rfl
set_option maxRecDepth 100000 in
set_option maxHeartbeats 4000000 in
theorem oawake_any {B : Nat} (w : World) (hT : TabsOK B w) (hB : B ≤ w.heap.size) : Calls Tryz.prog 15 #[] w (Rets (.bool true) (Chg (fun _ => False) w)) := by
  have HT := hid hT
  have HBB := hid hB
  clear hT hB
  go_enter Tryz.func15, Tryz.ntmps15
  go_wp2_with fail
  refine (oaction_any _ _ _ _ _ _).mono ?_
  rintro e w1 ⟨rfl, hc1⟩
  have n0 : NamesAt (w.alloc (.cells #[.string { data := #[97] }] 9)) (.slice (some ⟨w.heap.size, 0, none⟩) 1 1) [[97]] := names_new w [[97]] 1 rfl (by decide) (by decide)
  have n1 : NamesAt ((w.alloc (.cells #[.string { data := #[97] }] 9)).alloc (.cells #[.string { data := #[121] }] 9)) (.slice (some ⟨(w.alloc (.cells #[.string { data := #[97] }] 9)).heap.size, 0, none⟩) 1 1) [[121]] := names_new _ [[121]] 1 rfl (by decide) (by decide)
  rw [show (w.alloc (.cells #[.string { data := #[97] }] 9)).heap.size = w.heap.size + 1 by simp] at n1
  have cw1 : Chg (fun _ => False) w w1 := ((al_chg w _).trans (al_chg _ _) (fun _ _ h => h)).trans hc1 (fun _ _ h => h)
  have N0 := hid (n0.chg ((al_chg _ _).trans hc1 (fun _ _ h => h)) (fun _ _ h => h))
  have N1 := hid (n1.chg hc1 (fun _ _ h => h))
  have C1 := hid cw1
  clear n0 n1 cw1 hc1
  go_wp2_with fail
  refine (oaction_any _ _ _ _ _ _).mono ?_
  rintro e w2 ⟨rfl, hc2⟩
  have n2 : NamesAt (w1.alloc (.cells #[.string { data := #[97] }] 9)) (.slice (some ⟨w1.heap.size, 0, none⟩) 1 1) [[97]] := names_new _ [[97]] 1 rfl (by decide) (by decide)
  have C2 := hid ((al_chg w1 (.cells #[.string { data := #[97] }] 9)).trans hc2 (fun _ _ h => h))
  have N2 := hid (n2.chg hc2 (fun _ _ h => h))
  clear n2 hc2
  go_wp2_with fail
  refine (oaction_any _ _ _ _ _ _).mono ?_
  rintro e w3 ⟨rfl, hc3⟩
  have n3 : NamesAt (w2.alloc (.cells #[.string { data := #[120] }] 9)) (.slice (some ⟨w2.heap.size, 0, none⟩) 1 1) [[120]] := names_new _ [[120]] 1 rfl (by decide) (by decide)
  have C3 := hid ((al_chg w2 (.cells #[.string { data := #[120] }] 9)).trans hc3 (fun _ _ h => h))
  have N3 := hid (n3.chg hc3 (fun _ _ h => h))
  clear n3 hc3
  obtain ⟨ps, hps⟩ : ∃ ps : List (ActR × Value), ps = [(⟨[122], [[121]], [105, 0]⟩, .slice (some ⟨w.heap.size + 1, 0, none⟩) 1 1), (⟨[120], [[97]], [105, 0, 114]⟩, .slice (some ⟨w1.heap.size, 0, none⟩) 1 1), (⟨[121], [[120]], [99]⟩, .slice (some ⟨w2.heap.size, 0, none⟩) 1 1)] := ⟨_, rfl⟩
  have hfl : (flatA ps).toArray = #[.string { data := #[122] }, .slice (some ⟨w.heap.size + 1, 0, none⟩) 1 1, .string { data := #[105, 0] }, .string { data := #[120] }, .slice (some ⟨w1.heap.size, 0, none⟩) 1 1, .string { data := #[105, 0, 114] }, .string { data := #[121] }, .slice (some ⟨w2.heap.size, 0, none⟩) 1 1, .string { data := #[99] }] := by rw [hps]; rfl
  obtain ⟨W4, hW4⟩ : ∃ W4, W4 = (w3.alloc (.cells (flatA ps).toArray 43)).alloc (.cells #[.slice (some ⟨w.heap.size, 0, none⟩) 1 1, .slice (some ⟨w3.heap.size, 0, none⟩) 3 3] 25) := ⟨_, rfl⟩
  have hc34 : Chg (fun _ => False) w3 W4 := by rw [hW4]; exact (al_chg w3 _).trans (al_chg _ _) (fun _ _ h => h)
  have gb4 : W4.heap[w3.heap.size + 1]? = some (.cells #[.slice (some ⟨w.heap.size, 0, none⟩) 1 1, .slice (some ⟨w3.heap.size, 0, none⟩) 3 3] 25 (0, 0)) := by
    have := heap_alloc_new' (w3.alloc (.cells (flatA ps).toArray 43)) (.cells #[.slice (some ⟨w.heap.size, 0, none⟩) 1 1, .slice (some ⟨w3.heap.size, 0, none⟩) 3 3] 25)
    rw [hW4]; simpa using this
  have ow : (w3.alloc (.cells (flatA ps).toArray 43)).ownsRow 0 43 3 (.slice (some ⟨w3.heap.size, 0, none⟩) 3 3) 3 (flatA ps) := owns_new w3 (flatA ps) 43 3 3 (by rw [hps]; rfl) (by unfold maxLen; omega)
  have ow4 : W4.ownsRow 0 43 3 (.slice (some ⟨w3.heap.size, 0, none⟩) 3 3) 3 (flatA ps) := by
    rw [hW4]
    exact (al_chg (w3.alloc (.cells (flatA ps).toArray 43)) (.cells #[.slice (some ⟨w.heap.size, 0, none⟩) 1 1, .slice (some ⟨w3.heap.size, 0, none⟩) 3 3] 25)).owns ow (fun _ _ h => h)
  have hgr : GrAt W4 (.agg #[.slice (some ⟨w.heap.size, 0, none⟩) 1 1, .slice (some ⟨w3.heap.size, 0, none⟩) 3 3]) aw9 := by
    have hpl : ps.length = 3 := by rw [hps]; rfl
    have hact := ActsAt.of_owns (w := W4) (v := .slice (some ⟨w3.heap.size, 0, none⟩) 3 3) (ps := ps) (by rw [hpl]; exact ow4) (by rw [hpl]; unfold maxLen; omega) (by
      intro p hp
      rw [hps] at hp
      simp only [List.mem_cons, List.not_mem_nil, or_false] at hp
      rcases hp with rfl | rfl | rfl
      · exact N1.out.chg ((C2.out.trans C3.out (fun _ _ h => h)).trans hc34 (fun _ _ h => h)) (fun _ _ h => h)
      · exact N2.out.chg (C3.out.trans hc34 (fun _ _ h => h)) (fun _ _ h => h)
      · exact N3.out.chg hc34 (fun _ _ h => h)) (by
      intro p hp
      rw [hps] at hp
      simp only [List.mem_cons, List.not_mem_nil, or_false] at hp
      rcases hp with rfl | rfl | rfl <;> exact ⟨(by show (1 : Nat) ≤ 9223372036854775807; decide), (by unfold maxLen; simp)⟩)
    have he : ps.map Prod.fst = aw9.acts := by rw [hps]; rfl
    rw [he] at hact
    exact ⟨_, _, _, rfl, N0.out.chg (((C2.out.trans C3.out (fun _ _ h => h)).trans hc34 (fun _ _ h => h))) (fun _ _ h => h), hact⟩
  have s4 : W4.heap.size = w3.heap.size + 1 + 1 := by rw [hW4]; simp
  have j40 := cell_of gb4 0
  have j41 := cell_of gb4 1
  simp at j40 j41
  have HG4 := hid hgr
  have HGB := hid gb4
  have HCW := hid (((C1.out.trans C2.out (fun _ _ h => h)).trans C3.out (fun _ _ h => h)).trans hc34 (fun _ _ h => h))
  have HS4 := hid s4
  have HW4 := hid hW4
  have HFL := hid hfl
  rw [hW4, hfl] at j40 j41
  clear hps hfl hW4 hc34 gb4 ow ow4 hgr s4
  go_wp2_with fail
  rw [← HFL.out, ← HW4.out, ← HS4.out]
  have S4 : Hid (SrcsAt (W4.alloc (.cells #[.string { data := #[97] }, .string { data := #[103, 111] }] 55)) (.slice (some ⟨W4.heap.size, 0, none⟩) 1 1) as9) := hid (srcs_new W4 as9 1 rfl (by decide) (by intro s hs; simp [as9] at hs; subst hs; decide))
  have hB4 : B ≤ (W4.alloc (.cells #[.string { data := #[97] }, .string { data := #[103, 111] }] 55)).heap.size := Nat.le_trans HBB.out (HCW.out.alloc _).size
  refine (obuild_any aw9 as9 _ _ _ (HG4.out.chg (al_chg _ _) (fun _ _ h => h)) S4.out (HT.out.keep (HCW.out.alloc _)) hB4).mono ?_
  rintro e w5 ⟨hc5, v5, rfl, hb5⟩
  rw [aw9_check]
  have ho5 : outS aw9 as9 = [([122], (34, ByteArray.empty)), ([120], (0, { data := #[111, 103] })), ([121], (31, ByteArray.empty))] := (if_pos aw9_check).trans aw9_out
  rw [ho5] at hb5
  obtain ⟨o5, c5, hv5⟩ := hb5.form
  have hv5' : v5 = .slice o5 3 c5 := hv5
  subst hv5'
  have C5 := hid ((al_chg W4 (.cells #[.string { data := #[97] }, .string { data := #[103, 111] }] 55)).trans hc5 (fun _ _ h => h))
  have B5 := hid hb5
  have a0 := cell_of (C5.out.obj HGB.out (fun h => h)) 0
  have a1 := cell_of (C5.out.obj HGB.out (fun h => h)) 1
  simp at a0 a1
  clear hv5 ho5 hb5 hc5 S4 hB4 j40 j41 HFL HW4 N0 N1 N2 N3 C1 C2 C3
  go_wp2_with fail
  have S5 : Hid (SrcsAt (w5.alloc (.cells #[.string { data := #[97] }, .string { data := #[103, 111] }] 55)) (.slice (some ⟨w5.heap.size, 0, none⟩) 1 1) as9) := hid (srcs_new w5 as9 1 rfl (by decide) (by intro s hs; simp [as9] at hs; subst hs; decide))
  have hB5 : B ≤ (w5.alloc (.cells #[.string { data := #[97] }, .string { data := #[103, 111] }] 55)).heap.size := Nat.le_trans HBB.out ((HCW.out.trans C5.out (fun _ _ h => h)).alloc _).size
  refine (okeys_any aw9 as9 _ _ _ (HG4.out.chg (C5.out.alloc _) (fun _ _ h => h)) S5.out (HT.out.keep ((HCW.out.trans C5.out (fun _ _ h => h)).alloc _)) hB5).mono ?_
  rintro e w6 ⟨hc6, v6, rfl, hk6⟩
  rw [aw9_check]
  have hcn : cntS aw9 as9 = 3 := if_pos aw9_check
  rw [hcn] at hk6
  obtain ⟨o6, c6, rfl⟩ := hk6.form
  have C6 := hid ((C5.out.alloc (.cells #[.string { data := #[97] }, .string { data := #[103, 111] }] 55)).trans hc6 (fun _ _ h => h))
  have B6 := hid (B5.out.chg ((al_chg w5 (.cells #[.string { data := #[97] }, .string { data := #[103, 111] }] 55)).trans hc6 (fun _ _ h => h)) (fun _ _ h => h))
  have K6 := hid hk6
  clear a0 a1 hcn hk6 hc6 S5 hB5 B5 C5
  have a0 := cell_of (C6.out.obj HGB.out (fun h => h)) 0
  have a1 := cell_of (C6.out.obj HGB.out (fun h => h)) 1
  simp at a0 a1
  go_wp2_with fail
  refine (obuild_any aw9 [] _ _ _ (HG4.out.chg C6.out (fun _ _ h => h)) (SrcsAt.nil _) (HT.out.keep (HCW.out.trans C6.out (fun _ _ h => h))) (Nat.le_trans HBB.out (HCW.out.trans C6.out (fun _ _ h => h)).size)).mono ?_
  rintro e w7 ⟨hc7, v7, rfl, hb7⟩
  rw [aw9_none]
  have hb7' : BltAt w7 v7 [] := by
    have e : outS aw9 [] = [] := if_neg (by rw [aw9_none]; decide)
    rw [e] at hb7
    exact hb7
  have HB7 := hid hb7'
  have C7 := hid (C6.out.trans hc7 (fun _ _ h => h))
  obtain ⟨b0, f0, x0, e00, e01, e02, l0⟩ := (B6.out.chg hc7 (fun _ _ h => h)).ix 0 (by decide)
  obtain ⟨b1, f1, x1, e10, e11, e12, l1⟩ := (B6.out.chg hc7 (fun _ _ h => h)).ix 1 (by decide)
  obtain ⟨b2, f2, x2, e20, e21, e22, l2⟩ := (B6.out.chg hc7 (fun _ _ h => h)).ix 2 (by decide)
  obtain ⟨d0, g0, y0, r0, m0⟩ := (K6.out.chg hc7 (fun _ _ h => h)).ix 0 (by decide)
  obtain ⟨d1, g1, y1, r1, m1⟩ := (K6.out.chg hc7 (fun _ _ h => h)).ix 1 (by decide)
  rw [aw9_key0] at r0
  rw [aw9_key1] at r1
  simp only [List.getElem_cons_zero, List.getElem_cons_succ] at e00 e01 e02 e10 e11 e12 e20 e21 e22
  obtain ⟨kf, hkf⟩ : ∃ kf, kf = keyF { data := #[105, 0, 114] } [(0, { data := #[103, 111] })] := ⟨_, rfl⟩
  rw [← hkf] at r1
  have HKF := hid hkf
  clear hkf
  clear a0 a1 hb7 hb7' hc7 e00 e02 e20 e22 e11
  obtain ⟨o7, c7, rfl⟩ : ∃ o7 c7, v7 = .slice o7 0 c7 := by
    obtain ⟨o7, c7, h⟩ := HB7.out.form
    exact ⟨o7, c7, h⟩
  have x0' : ∀ w, (Instr.indexAt 29 (.slice o5 3 c5) (.int .i64 0)).run Tryz.prog w = .ok (.pointer (some ⟨b0, f0, none⟩)) w := x0
  have x1' : ∀ w, (Instr.indexAt 29 (.slice o5 3 c5) (.int .i64 1)).run Tryz.prog w = .ok (.pointer (some ⟨b1, f1, none⟩)) w := x1
  have x2' : ∀ w, (Instr.indexAt 29 (.slice o5 3 c5) (.int .i64 2)).run Tryz.prog w = .ok (.pointer (some ⟨b2, f2, none⟩)) w := x2
  have y0' : ∀ w, (Instr.indexAt 34 (.slice o6 3 c6) (.int .i64 0)).run Tryz.prog w = .ok (.pointer (some ⟨d0, g0, none⟩)) w := y0
  have y1' : ∀ w, (Instr.indexAt 34 (.slice o6 3 c6) (.int .i64 1)).run Tryz.prog w = .ok (.pointer (some ⟨d1, g1, none⟩)) w := y1
  clear x0 x1 x2 y0 y1
  go_wp2_with fail
  simp only [List.append]
  have hS : ∀ W, Chg (fun _ => False) w7 W → W.cell? ⟨b1, f1, none⟩ = some (.string (bs [120])) ∧ W.cell? ⟨b1, f1 + 2, none⟩ = some (.string { data := #[111, 103] }) ∧ W.cell? ⟨b2, f2 + 1, none⟩ = some (.int .i64 31) ∧ W.cell? ⟨b0, f0 + 1, none⟩ = some (.int .i64 34) ∧ W.rangeAt d0 g0 (rowB 32 (fun _ => 0)).toList ∧ W.rangeAt d1 g1 (rowB 32 kf).toList := fun W hW =>
    ⟨hW.cell e10 (fun h => h), hW.cell e12 (fun h => h), hW.cell e21 (fun h => h), hW.cell e01 (fun h => h), fun j u h => hW.cell (r0 j u h) (fun h => h), fun j u h => hW.cell (r1 j u h) (fun h => h)⟩
  refine wp_region_held_drew (S := fun W => Chg (fun _ => False) w7 W) (by kernel_rfl) ((Chg.refl _ w7).drew) (fun hd => ?_)
  refine wpAnyH_takeD (i := 0) (v := .int .i64 0) (some 38) rfl (by kernel_rfl) (by kernel_rfl) (by kernel_rfl) (by kernel_rfl) (fun _ _ _ h => h) (.inl ⟨by kernel_rfl, fun W _ => by kernel_rfl⟩) hd ?_
  refine wpAnyH_takeD (i := 1) (v := .bool true) (some 39) rfl (by kernel_rfl) (by kernel_rfl) (by kernel_rfl) (by kernel_rfl) (fun _ _ _ h => h) (.inl ⟨by kernel_rfl, fun W _ => by kernel_rfl⟩) hd ?_
  refine wpAnyH_takeD (i := 2) (v := .bool true) (some 40) rfl (by kernel_rfl) (by kernel_rfl) (by kernel_rfl) (by kernel_rfl) (fun _ _ _ h => h) (.inl ⟨by kernel_rfl, fun W _ => by kernel_rfl⟩) hd ?_
  refine wpAnyH_takeD (i := 3) (v := .slice o5 3 c5) (some 41) rfl (by kernel_rfl) (by kernel_rfl) (by kernel_rfl) (by kernel_rfl) (fun _ _ _ h => h) (.inl ⟨by kernel_rfl, fun W _ => by kernel_rfl⟩) hd ?_
  refine wpAnyH_takeD (i := 4) (v := .int .i64 3) (some 42) rfl (by kernel_rfl) (by kernel_rfl) (by kernel_rfl) (by kernel_rfl) (fun _ _ _ h => h) (.inl ⟨by kernel_rfl, fun W _ => by kernel_rfl⟩) hd ?_
  refine wpAnyH_takeD (i := 5) (v := .bool true) (some 43) rfl (by kernel_rfl) (by kernel_rfl) (by kernel_rfl) (by kernel_rfl) (fun _ _ _ h => h) (.inl ⟨by kernel_rfl, fun W _ => by kernel_rfl⟩) hd ?_
  refine wpAnyH_takeD (i := 6) (v := .bool true) (some 44) rfl (by kernel_rfl) (by kernel_rfl) (by kernel_rfl) (by kernel_rfl) (fun _ _ _ h => h) (.inl ⟨by kernel_rfl, fun W _ => by kernel_rfl⟩) hd ?_
  refine wpAnyH_takeD (i := 7) (v := .bool true) (some 45) rfl (by kernel_rfl) (by kernel_rfl) (by kernel_rfl) (by kernel_rfl) (fun _ _ _ h => h) (.inl ⟨by kernel_rfl, fun W _ => by kernel_rfl⟩) hd ?_
  refine wpAnyH_takeD (i := 8) (v := .slice o5 3 c5) (some 46) rfl (by kernel_rfl) (by kernel_rfl) (by kernel_rfl) (by kernel_rfl) (fun _ _ _ h => h) (.inl ⟨by kernel_rfl, fun W _ => by kernel_rfl⟩) hd ?_
  refine wpAnyH_takeD (i := 9) (v := .pointer (some ⟨b1, f1, none⟩)) (some 47) rfl (by kernel_rfl) (by kernel_rfl) (by kernel_rfl) (by kernel_rfl) (fun _ _ _ h => h) (yieldsIf_index (by kernel_rfl) 29 (.tmp 46) (.const (.int .i64 1)) (by kernel_rfl) (.slice o5 3 c5) (.int .i64 1) _ (by kernel_rfl) (by kernel_rfl) x1') hd ?_
  refine wpAnyH_takeD (i := 10) (v := .pointer (some ⟨b1, f1, none⟩)) (some 48) rfl (by kernel_rfl) (by kernel_rfl) (by kernel_rfl) (by kernel_rfl) (fun _ _ _ h => h) (.inl ⟨by kernel_rfl, fun W _ => by kernel_rfl⟩) hd ?_
  refine wpAnyH_takeD (i := 11) (v := .pointer (some ⟨b1, f1, none⟩)) (some 49) rfl (by kernel_rfl) (by kernel_rfl) (by kernel_rfl) (by kernel_rfl) (fun _ _ _ h => h) (.inl ⟨by kernel_rfl, fun W _ => by kernel_rfl⟩) hd ?_
  refine wpAnyH_takeD (i := 12) (v := .string (bs [120])) (some 50) rfl (by kernel_rfl) (by kernel_rfl) (by kernel_rfl) (by kernel_rfl) (fun _ _ _ h => h) (yieldsIf_load1 (by kernel_rfl) 9 (.tmp 49) (by kernel_rfl) b1 f1 _ (by kernel_rfl) (fun W hW => load_str (hS W hW).1)) hd ?_
  refine wpAnyH_takeD (i := 13) (v := .bool true) (some 51) rfl (by kernel_rfl) (by kernel_rfl) (by kernel_rfl) (by kernel_rfl) (fun _ _ _ h => h) (.inl ⟨by kernel_rfl, fun W _ => by kernel_rfl⟩) hd ?_
  refine wpAnyH_takeD (i := 14) (v := .bool true) (some 52) rfl (by kernel_rfl) (by kernel_rfl) (by kernel_rfl) (by kernel_rfl) (fun _ _ _ h => h) (.inl ⟨by kernel_rfl, fun W _ => by kernel_rfl⟩) hd ?_
  refine wpAnyH_takeD (i := 15) (v := .bool true) (some 53) rfl (by kernel_rfl) (by kernel_rfl) (by kernel_rfl) (by kernel_rfl) (fun _ _ _ h => h) (.inl ⟨by kernel_rfl, fun W _ => by kernel_rfl⟩) hd ?_
  refine wpAnyH_takeD (i := 16) (v := .slice o5 3 c5) (some 54) rfl (by kernel_rfl) (by kernel_rfl) (by kernel_rfl) (by kernel_rfl) (fun _ _ _ h => h) (.inl ⟨by kernel_rfl, fun W _ => by kernel_rfl⟩) hd ?_
  refine wpAnyH_takeD (i := 17) (v := .pointer (some ⟨b1, f1, none⟩)) (some 55) rfl (by kernel_rfl) (by kernel_rfl) (by kernel_rfl) (by kernel_rfl) (fun _ _ _ h => h) (yieldsIf_index (by kernel_rfl) 29 (.tmp 54) (.const (.int .i64 1)) (by kernel_rfl) (.slice o5 3 c5) (.int .i64 1) _ (by kernel_rfl) (by kernel_rfl) x1') hd ?_
  refine wpAnyH_takeD (i := 18) (v := .pointer (some ⟨b1, f1 + 1, none⟩)) (some 56) rfl (by kernel_rfl) (by kernel_rfl) (by kernel_rfl) (by kernel_rfl) (fun _ _ _ h => h) (.inl ⟨by kernel_rfl, fun W _ => by kernel_rfl⟩) hd ?_
  refine wpAnyH_takeD (i := 19) (v := .pointer (some ⟨b1, f1 + 2, none⟩)) (some 57) rfl (by kernel_rfl) (by kernel_rfl) (by kernel_rfl) (by kernel_rfl) (fun _ _ _ h => h) (.inl ⟨by kernel_rfl, fun W _ => by kernel_rfl⟩) hd ?_
  refine wpAnyH_takeD (i := 20) (v := .string { data := #[111, 103] }) (some 58) rfl (by kernel_rfl) (by kernel_rfl) (by kernel_rfl) (by kernel_rfl) (fun _ _ _ h => h) (yieldsIf_load1 (by kernel_rfl) 9 (.tmp 57) (by kernel_rfl) b1 (f1 + 2) _ (by kernel_rfl) (fun W hW => load_str (hS W hW).2.1)) hd ?_
  refine wpAnyH_takeD (i := 21) (v := .bool true) (some 59) rfl (by kernel_rfl) (by kernel_rfl) (by kernel_rfl) (by kernel_rfl) (fun _ _ _ h => h) (.inl ⟨by kernel_rfl, fun W _ => by kernel_rfl⟩) hd ?_
  refine wpAnyH_takeD (i := 22) (v := .bool true) (some 60) rfl (by kernel_rfl) (by kernel_rfl) (by kernel_rfl) (by kernel_rfl) (fun _ _ _ h => h) (.inl ⟨by kernel_rfl, fun W _ => by kernel_rfl⟩) hd ?_
  refine wpAnyH_takeD (i := 23) (v := .bool true) (some 61) rfl (by kernel_rfl) (by kernel_rfl) (by kernel_rfl) (by kernel_rfl) (fun _ _ _ h => h) (.inl ⟨by kernel_rfl, fun W _ => by kernel_rfl⟩) hd ?_
  refine wpAnyH_takeD (i := 24) (v := .slice o5 3 c5) (some 62) rfl (by kernel_rfl) (by kernel_rfl) (by kernel_rfl) (by kernel_rfl) (fun _ _ _ h => h) (.inl ⟨by kernel_rfl, fun W _ => by kernel_rfl⟩) hd ?_
  refine wpAnyH_takeD (i := 25) (v := .pointer (some ⟨b2, f2, none⟩)) (some 63) rfl (by kernel_rfl) (by kernel_rfl) (by kernel_rfl) (by kernel_rfl) (fun _ _ _ h => h) (yieldsIf_index (by kernel_rfl) 29 (.tmp 62) (.const (.int .i64 2)) (by kernel_rfl) (.slice o5 3 c5) (.int .i64 2) _ (by kernel_rfl) (by kernel_rfl) x2') hd ?_
  refine wpAnyH_takeD (i := 26) (v := .pointer (some ⟨b2, f2 + 1, none⟩)) (some 64) rfl (by kernel_rfl) (by kernel_rfl) (by kernel_rfl) (by kernel_rfl) (fun _ _ _ h => h) (.inl ⟨by kernel_rfl, fun W _ => by kernel_rfl⟩) hd ?_
  refine wpAnyH_takeD (i := 27) (v := .pointer (some ⟨b2, f2 + 1, none⟩)) (some 65) rfl (by kernel_rfl) (by kernel_rfl) (by kernel_rfl) (by kernel_rfl) (fun _ _ _ h => h) (.inl ⟨by kernel_rfl, fun W _ => by kernel_rfl⟩) hd ?_
  refine wpAnyH_takeD (i := 28) (v := .int .i64 31) (some 66) rfl (by kernel_rfl) (by kernel_rfl) (by kernel_rfl) (by kernel_rfl) (fun _ _ _ h => h) (yieldsIf_load1 (by kernel_rfl) 30 (.tmp 65) (by kernel_rfl) b2 (f2 + 1) _ (by kernel_rfl) (fun W hW => load_err (hS W hW).2.2.1)) hd ?_
  refine wpAnyH_takeD (i := 29) (v := .bool true) (some 67) rfl (by kernel_rfl) (by kernel_rfl) (by kernel_rfl) (by kernel_rfl) (fun _ _ _ h => h) (.inl ⟨by kernel_rfl, fun W _ => by kernel_rfl⟩) hd ?_
  refine wpAnyH_takeD (i := 30) (v := .bool true) (some 68) rfl (by kernel_rfl) (by kernel_rfl) (by kernel_rfl) (by kernel_rfl) (fun _ _ _ h => h) (.inl ⟨by kernel_rfl, fun W _ => by kernel_rfl⟩) hd ?_
  refine wpAnyH_takeD (i := 31) (v := .bool true) (some 69) rfl (by kernel_rfl) (by kernel_rfl) (by kernel_rfl) (by kernel_rfl) (fun _ _ _ h => h) (.inl ⟨by kernel_rfl, fun W _ => by kernel_rfl⟩) hd ?_
  refine wpAnyH_takeD (i := 32) (v := .slice o5 3 c5) (some 70) rfl (by kernel_rfl) (by kernel_rfl) (by kernel_rfl) (by kernel_rfl) (fun _ _ _ h => h) (.inl ⟨by kernel_rfl, fun W _ => by kernel_rfl⟩) hd ?_
  refine wpAnyH_takeD (i := 33) (v := .pointer (some ⟨b0, f0, none⟩)) (some 71) rfl (by kernel_rfl) (by kernel_rfl) (by kernel_rfl) (by kernel_rfl) (fun _ _ _ h => h) (yieldsIf_index (by kernel_rfl) 29 (.tmp 70) (.const (.int .i64 0)) (by kernel_rfl) (.slice o5 3 c5) (.int .i64 0) _ (by kernel_rfl) (by kernel_rfl) x0') hd ?_
  refine wpAnyH_takeD (i := 34) (v := .pointer (some ⟨b0, f0 + 1, none⟩)) (some 72) rfl (by kernel_rfl) (by kernel_rfl) (by kernel_rfl) (by kernel_rfl) (fun _ _ _ h => h) (.inl ⟨by kernel_rfl, fun W _ => by kernel_rfl⟩) hd ?_
  refine wpAnyH_takeD (i := 35) (v := .pointer (some ⟨b0, f0 + 1, none⟩)) (some 73) rfl (by kernel_rfl) (by kernel_rfl) (by kernel_rfl) (by kernel_rfl) (fun _ _ _ h => h) (.inl ⟨by kernel_rfl, fun W _ => by kernel_rfl⟩) hd ?_
  refine wpAnyH_takeD (i := 36) (v := .int .i64 34) (some 74) rfl (by kernel_rfl) (by kernel_rfl) (by kernel_rfl) (by kernel_rfl) (fun _ _ _ h => h) (yieldsIf_load1 (by kernel_rfl) 30 (.tmp 73) (by kernel_rfl) b0 (f0 + 1) _ (by kernel_rfl) (fun W hW => load_err (hS W hW).2.2.2.1)) hd ?_
  refine wpAnyH_takeD (i := 37) (v := .bool true) (some 75) rfl (by kernel_rfl) (by kernel_rfl) (by kernel_rfl) (by kernel_rfl) (fun _ _ _ h => h) (.inl ⟨by kernel_rfl, fun W _ => by kernel_rfl⟩) hd ?_
  refine wpAnyH_takeD (i := 38) (v := .bool true) (some 76) rfl (by kernel_rfl) (by kernel_rfl) (by kernel_rfl) (by kernel_rfl) (fun _ _ _ h => h) (.inl ⟨by kernel_rfl, fun W _ => by kernel_rfl⟩) hd ?_
  refine wpAnyH_takeD (i := 39) (v := .bool true) (some 77) rfl (by kernel_rfl) (by kernel_rfl) (by kernel_rfl) (by kernel_rfl) (fun _ _ _ h => h) (.inl ⟨by kernel_rfl, fun W _ => by kernel_rfl⟩) hd ?_
  refine wpAnyH_takeD (i := 40) (v := .int .i64 0) (some 78) rfl (by kernel_rfl) (by kernel_rfl) (by kernel_rfl) (by kernel_rfl) (fun _ _ _ h => h) (.inl ⟨by kernel_rfl, fun W _ => by kernel_rfl⟩) hd ?_
  refine wpAnyH_takeD (i := 41) (v := .bool true) (some 79) rfl (by kernel_rfl) (by kernel_rfl) (by kernel_rfl) (by kernel_rfl) (fun _ _ _ h => h) (.inl ⟨by kernel_rfl, fun W _ => by kernel_rfl⟩) hd ?_
  refine wpAnyH_takeD (i := 42) (v := .bool true) (some 80) rfl (by kernel_rfl) (by kernel_rfl) (by kernel_rfl) (by kernel_rfl) (fun _ _ _ h => h) (.inl ⟨by kernel_rfl, fun W _ => by kernel_rfl⟩) hd ?_
  refine wpAnyH_takeD (i := 43) (v := .bool true) (some 81) rfl (by kernel_rfl) (by kernel_rfl) (by kernel_rfl) (by kernel_rfl) (fun _ _ _ h => h) (.inl ⟨by kernel_rfl, fun W _ => by kernel_rfl⟩) hd ?_
  refine wpAnyH_takeD (i := 44) (v := .slice o6 3 c6) (some 82) rfl (by kernel_rfl) (by kernel_rfl) (by kernel_rfl) (by kernel_rfl) (fun _ _ _ h => h) (.inl ⟨by kernel_rfl, fun W _ => by kernel_rfl⟩) hd ?_
  refine wpAnyH_takeD (i := 45) (v := .int .i64 3) (some 83) rfl (by kernel_rfl) (by kernel_rfl) (by kernel_rfl) (by kernel_rfl) (fun _ _ _ h => h) (.inl ⟨by kernel_rfl, fun W _ => by kernel_rfl⟩) hd ?_
  refine wpAnyH_takeD (i := 46) (v := .bool true) (some 84) rfl (by kernel_rfl) (by kernel_rfl) (by kernel_rfl) (by kernel_rfl) (fun _ _ _ h => h) (.inl ⟨by kernel_rfl, fun W _ => by kernel_rfl⟩) hd ?_
  refine wpAnyH_takeD (i := 47) (v := .bool true) (some 85) rfl (by kernel_rfl) (by kernel_rfl) (by kernel_rfl) (by kernel_rfl) (fun _ _ _ h => h) (.inl ⟨by kernel_rfl, fun W _ => by kernel_rfl⟩) hd ?_
  refine wpAnyH_takeD (i := 48) (v := .bool true) (some 86) rfl (by kernel_rfl) (by kernel_rfl) (by kernel_rfl) (by kernel_rfl) (fun _ _ _ h => h) (.inl ⟨by kernel_rfl, fun W _ => by kernel_rfl⟩) hd ?_
  refine wpAnyH_takeD (i := 49) (v := .slice o6 3 c6) (some 87) rfl (by kernel_rfl) (by kernel_rfl) (by kernel_rfl) (by kernel_rfl) (fun _ _ _ h => h) (.inl ⟨by kernel_rfl, fun W _ => by kernel_rfl⟩) hd ?_
  refine wpAnyH_takeD (i := 50) (v := .pointer (some ⟨d0, g0, none⟩)) (some 88) rfl (by kernel_rfl) (by kernel_rfl) (by kernel_rfl) (by kernel_rfl) (fun _ _ _ h => h) (yieldsIf_index (by kernel_rfl) 34 (.tmp 87) (.const (.int .i64 0)) (by kernel_rfl) (.slice o6 3 c6) (.int .i64 0) _ (by kernel_rfl) (by kernel_rfl) y0') hd ?_
  refine wpAnyH_takeD (i := 51) (v := .agg (rowB 32 (fun _ => 0)).toList.toArray) (some 89) rfl (by kernel_rfl) (by kernel_rfl) (by kernel_rfl) (by kernel_rfl) (fun _ _ _ h => h) (yieldsIf_load_mid (by kernel_rfl) 57 (.tmp 88) (by kernel_rfl) d0 g0 (by kernel_rfl) _ _ (fun W hW => (hS W hW).2.2.2.2.1) Tryz.underlying57 rfl (by rw [Array.length_toList, rowB_size]; kernel_rfl)) hd ?_
  refine wpAnyH_takeD (i := 52) (v := .agg (rowB 32 (fun _ => 0))) (some 90) rfl (by kernel_rfl) (by kernel_rfl) (by kernel_rfl) (by kernel_rfl) (fun _ _ _ h => h) (.inl ⟨by kernel_rfl, fun W _ => by kernel_rfl⟩) hd ?_
  refine wpAnyH_takeD (i := 53) (v := .bool true) (some 91) rfl (by kernel_rfl) (by kernel_rfl) (by kernel_rfl) (by kernel_rfl) (fun _ _ _ h => h) (yieldsIf_eql (by kernel_rfl) 57 57 (.tmp 89) (.tmp 90) (by kernel_rfl) (rowB 32 (fun _ => 0)) (rowB 32 (fun _ => 0)) (by kernel_rfl) (by kernel_rfl) (by kernel_rfl) true (eq_dig_same _)) hd ?_
  refine wpAnyH_takeD (i := 54) (v := .bool true) (some 92) rfl (by kernel_rfl) (by kernel_rfl) (by kernel_rfl) (by kernel_rfl) (fun _ _ _ h => h) (.inl ⟨by kernel_rfl, fun W _ => by kernel_rfl⟩) hd ?_
  refine wpAnyH_takeD (i := 55) (v := .bool true) (some 93) rfl (by kernel_rfl) (by kernel_rfl) (by kernel_rfl) (by kernel_rfl) (fun _ _ _ h => h) (.inl ⟨by kernel_rfl, fun W _ => by kernel_rfl⟩) hd ?_
  refine wpAnyH_takeD (i := 56) (v := .slice o6 3 c6) (some 94) rfl (by kernel_rfl) (by kernel_rfl) (by kernel_rfl) (by kernel_rfl) (fun _ _ _ h => h) (.inl ⟨by kernel_rfl, fun W _ => by kernel_rfl⟩) hd ?_
  refine wpAnyH_takeD (i := 57) (v := .pointer (some ⟨d1, g1, none⟩)) (some 95) rfl (by kernel_rfl) (by kernel_rfl) (by kernel_rfl) (by kernel_rfl) (fun _ _ _ h => h) (yieldsIf_index (by kernel_rfl) 34 (.tmp 94) (.const (.int .i64 1)) (by kernel_rfl) (.slice o6 3 c6) (.int .i64 1) _ (by kernel_rfl) (by kernel_rfl) y1') hd ?_
  refine wpAnyH_takeD (i := 58) (v := .agg (rowB 32 kf).toList.toArray) (some 96) rfl (by kernel_rfl) (by kernel_rfl) (by kernel_rfl) (by kernel_rfl) (fun _ _ _ h => h) (yieldsIf_load_mid (by kernel_rfl) 57 (.tmp 95) (by kernel_rfl) d1 g1 (by kernel_rfl) _ _ (fun W hW => (hS W hW).2.2.2.2.2) Tryz.underlying57 rfl (by rw [Array.length_toList, rowB_size]; kernel_rfl)) hd ?_
  refine wpAnyH_takeD (i := 59) (v := .agg #[.int .i64 0, .string { data := #[103, 111] }]) (some 97) rfl (by kernel_rfl) (by kernel_rfl) (by kernel_rfl) (by kernel_rfl) (fun _ _ _ h => h) (.inl ⟨by kernel_rfl, fun W _ => by kernel_rfl⟩) hd ?_
  simp only [Act.put, List.setIfInBounds_toArray, List.set_cons_zero, List.set_cons_succ]
  refine wpAnyH_all (rs := [60]) (by kernel_rfl) (by simp) (fun i hi => ?_)
  obtain rfl : i = 60 := by simpa using hi
  refine wpOp_step rfl (fun K1 hK1 => ?_)
  refine Eq.mpr (if_pos (by kernel_rfl)) ?_
  go_wp2_with fail
  have hd2 : Chg (fun _ => False) w7 (w7.alloc (.cells #[.int .i64 0, .string { data := #[103, 111] }] 47)).drew := ((Chg.refl _ w7).alloc _).drew
  refine ⟨hd2, ?_⟩
  refine wpAnyH_all (rs := [61]) (by kernel_rfl) (by simp) (fun i hi => ?_)
  obtain rfl : i = 61 := by simpa using hi
  refine wpOp_step rfl (fun K2 hK2 => ?_)
  refine Eq.mpr (if_pos (by kernel_rfl)) ?_
  have hR0 : ResAt (w7.alloc (.cells #[.int .i64 0, .string { data := #[103, 111] }] 47)) (.slice (some ⟨w7.heap.size, 0, none⟩) 1 1) [(0, { data := #[103, 111] })] := ress_new w7 [(0, { data := #[103, 111] })] 1 rfl (by decide) (by intro r hr; simp at hr; subst hr; decide)
  have hR := hR0.chg ((Chg.refl (fun _ => False) (w7.alloc (.cells #[.int .i64 0, .string { data := #[103, 111] }] 47))).drew) (fun _ _ h => h)
  clear hR0
  have hcw7 : Chg (fun _ => False) w ((w7.alloc (.cells #[.int .i64 0, .string { data := #[103, 111] }] 47)).drew) := (HCW.out.trans C7.out (fun _ _ h => h)).trans hd2 (fun _ _ h => h)
  have hkey := key_any { data := #[105, 0, 114] } (by decide) [(0, { data := #[103, 111] })] (by decide) (by intro r hr; simp at hr; subst hr; decide) (by intro r hr; simp at hr; subst hr; decide) _ _ hR (HT.out.keep hcw7) (Nat.le_trans HBB.out hcw7.size)
  rw [← HKF.out] at hkey
  go_wp2_with (go_at_call 29; refine hkey.mono ?_; rintro e w8 ⟨rfl, hc8⟩)
  have hd3 : Chg (fun _ => False) w7 w8 := hd2.trans hc8 (fun _ _ h => h)
  refine ⟨hd3, ?_⟩
  refine wpAnyH_takeD (i := 62) (v := .bool true) (some 100) rfl (by kernel_rfl) (by kernel_rfl) (by kernel_rfl) (by kernel_rfl) (fun _ _ _ h => h) (yieldsIf_eql (by kernel_rfl) 57 57 (.tmp 96) (.tmp 99) (by kernel_rfl) (rowB 32 kf) (rowB 32 kf) (by kernel_rfl) (by kernel_rfl) (by kernel_rfl) true (eq_dig_same _)) hd3 ?_
  refine wpAnyH_takeD (i := 63) (v := .bool true) (some 101) rfl (by kernel_rfl) (by kernel_rfl) (by kernel_rfl) (by kernel_rfl) (fun _ _ _ h => h) (.inl ⟨by kernel_rfl, fun W _ => by kernel_rfl⟩) hd3 ?_
  refine wpAnyH_takeD (i := 64) (v := .bool true) (some 102) rfl (by kernel_rfl) (by kernel_rfl) (by kernel_rfl) (by kernel_rfl) (fun _ _ _ h => h) (.inl ⟨by kernel_rfl, fun W _ => by kernel_rfl⟩) hd3 ?_
  refine wpAnyH_takeD (i := 65) (v := .int .i64 22) (some 103) rfl (by kernel_rfl) (by kernel_rfl) (by kernel_rfl) (by kernel_rfl) (fun _ _ _ h => h) (.inl ⟨by kernel_rfl, fun W _ => by kernel_rfl⟩) hd3 ?_
  refine wpAnyH_takeD (i := 66) (v := .bool true) (some 104) rfl (by kernel_rfl) (by kernel_rfl) (by kernel_rfl) (by kernel_rfl) (fun _ _ _ h => h) (.inl ⟨by kernel_rfl, fun W _ => by kernel_rfl⟩) hd3 ?_
  refine wpAnyH_takeD (i := 67) (v := .bool true) (some 105) rfl (by kernel_rfl) (by kernel_rfl) (by kernel_rfl) (by kernel_rfl) (fun _ _ _ h => h) (.inl ⟨by kernel_rfl, fun W _ => by kernel_rfl⟩) hd3 ?_
  refine wpAnyH_takeD (i := 68) (v := .bool true) (some 0) rfl (by kernel_rfl) (by kernel_rfl) (by kernel_rfl) (by kernel_rfl) (fun _ _ _ h => h) (.inl ⟨by kernel_rfl, fun W _ => by kernel_rfl⟩) hd3 ?_
  simp only [Act.put, List.setIfInBounds_toArray, List.set_cons_zero, List.set_cons_succ]
  refine wpAnyH_done (by kernel_rfl) ?_ _
  have HF := hid (hcw7.trans hc8 (fun _ _ h => h))
  clear hd3 hc8 hkey hcw7 hR hd2 hd hS
  go_wp2_with fail
  go_ret
  exact ⟨rfl, HF.out⟩
end Go.Proofs.YthglfmacjoecgaaGreatDoor
