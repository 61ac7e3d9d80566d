/- Texts of the proof, one behind the other: An append of a slice that came in, whatever it is; apiarylaw09.clash walked. -/
import Derived.Test.YthglfmacjoecgaaGreatDoorMg33
import Derived.Test.YthglfmacjoecgaaGreatDoorMg18
import Derived.Test.YthglfmacjoecgaaGreatDoorMg23
import Derived.Deep.QuietTactic
import Derived.BigQuiet
namespace Go.Proofs.YthglfmacjoecgaaGreatDoor
open Go.RowKit

theorem run_append_none {P : Program} {w : World} {t e : TypeId} {size bytes : Nat} (T : ElT P t e size bytes) (ty : TypeId) {v : Value} {n : Nat} {xs : List Value} (hown : w.ownsRow 0 e size v n xs) :
    (Builtin.append_ #[t, t] ty #[v, .slice none 0 0]).run P w = .ok v w := by
  obtain ⟨i, z, hi, hz, h2, h3, h4, _⟩ := T.info
  have ht := T.ht
  rcases hown.2 with ⟨rfl, rfl⟩ | ⟨g, cap, cur, rfl, _, _, hnc, _⟩
  · simp [Builtin.append_, run_underlying ht, sizeOf, typeInfo, hi, Builtin.lenOf, Builtin.firstCells]
  · simp [Builtin.append_, run_underlying ht, sizeOf, typeInfo, hi, Builtin.lenOf, Builtin.firstCells, hnc, storeCells]
/-- 'append(s, x ..)' at a row of the call's own, x any slice of such elements, nil and empty ones too. -/
theorem wpList_append_rows {P : Program} {w : World} {ops : Array Oper} {rest : List Oper} {o : Oper} {a : Act} {Q : Exit → Act → World → Prop} (hgd : o.guard = none) (s x : Operand) (t : TypeId)
    (ho : o.op = .call { callee := .builtin .append, args := #[s, x], argTypes := #[t, t] })
    {e : TypeId} {size bytes : Nat} (T : ElT P t e size bytes)
    {v : Value} {n : Nat} {xs : List Value} (hown : w.ownsRow 0 e size v n xs) (hs : a.eval s = v)
    {α : Type} (f : α → List Value) (no : α) (ys : List α) (hf : ∀ y, (f y).length = size) (h1 : ∀ y ∈ ys, ∀ u ∈ f y, u.oneCell' = true) {u : Value} (hx : a.eval x = u) (hr : RowsAt w u size ys.length (fun i => f (ys.getD i no)))
    (h63 : n + ys.length ≤ maxLen) (hbytes : (n + ys.length) * bytes ≤ 140737488355328)
    (h : ∀ v' w', w'.ownsRow 0 e size v' (n + ys.length) (xs ++ ys.flatMap f) → Chg (fun k => v.ownBlock = some k) w w' → (∀ k, v'.ownBlock = some k → v.ownBlock = some k ∨ w.heap.size ≤ k) →
      wpList P ops Q rest (a.put o.dst v') w') : wpList P ops Q (o :: rest) a w := by
  rcases hr.form with ⟨rfl, h0⟩ | ⟨ad, cap, rfl, hc⟩
  · refine wpList_plain hgd fun _ hK => ?_
    have hrun := run_append_none (P := P) (w := w) T o.type hown
    unfold Oper.wp execOp
    simp only [ho, resolve, invoke, builtin, Sem.run_bind, Sem.run_pure, Result.andThen_ok, List.map_toArray, List.map_cons, List.map_nil, hs, hx, hrun]
    refine hK _ _ (h v w ?_ (Chg.refl _ w) (fun k hk => .inl hk))
    have : ys = [] := List.length_eq_zero_iff.1 h0
    subst this
    simpa using hown
  · refine wpList_append_lies hgd s x t ho T hown hs ad ys.length cap (ys.flatMap f) hx (by rw [flat_lenV f size hf]) (fun j u hj => ?_) (fun u hu => ?_) h63 hbytes h
    · have hpos := T.pos
      have hlt : j < ys.length * size := by
        have := (List.getElem?_eq_some_iff.1 hj).1
        rwa [flat_lenV f size hf] at this
      have hi : j / size < ys.length := by rw [Nat.div_lt_iff_lt_mul hpos]; exact hlt
      have hd : j / size * size + j % size = j := by rw [Nat.mul_comm]; exact Nat.div_add_mod j size
      have h2 := hc (j / size) hi (j % size) (Nat.mod_lt _ hpos)
      rw [hd, getD_of_lt _ _ _ hi] at h2
      have h3 := flat_get f size hf ys (j / size) (j % size) hi (Nat.mod_lt _ hpos)
      rw [hd] at h3
      rw [h2, ← h3]
      exact hj
    · obtain ⟨y, hy, hu2⟩ := List.mem_flatMap.1 hu
      exact h1 y hy u hu2
/-- stamp.Of at one text in a row of one. -/
theorem of_atX {B : Nat} (x : ByteArray) (hx : x.size ≤ 100000) (b : Nat) (w : World) (hT : TabsOK B w) (hc : w.cell? ⟨b, 0, none⟩ = some (.string x)) :
    Calls Tryz.prog 28 #[.slice (some ⟨b, 0, none⟩) 1 1] w (Rets (.agg (rowB 32 (ofB [x]))) (Chg (fun _ => False) w)) := by
  refine of_any _ [x] b 1 1 rfl (by simp) (by simp [sumSize]; omega) (fun i hi => ?_) (World.block_lt_of_cell? w ⟨b, 0, none⟩ hc) hT.wds (World.block_lt_of_cell? w ⟨gWds, 0, none⟩ (hT.wds.cell wdsG 0 (by decide)))
  obtain rfl : i = 0 := by simp at hi; omega
  exact hc
theorem of_oneX {B : Nat} (x : ByteArray) (hx : x.size ≤ 100000) (w : World) (hT : TabsOK B w) (_hB : B ≤ w.heap.size) :
    Calls Tryz.prog 28 #[.slice (some ⟨w.heap.size, 0, none⟩) 1 1] (w.alloc (.cells #[.string x] 9)).drew (Rets (.agg (rowB 32 (ofB [x]))) (Chg (fun _ => False) (w.alloc (.cells #[.string x] 9)).drew)) :=
  of_atX x hx w.heap.size _ (hT.keep (((Chg.refl (fun _ => False) w).alloc (.cells #[.string x] 9)).drew)) (cell_of (heap_alloc_new' w _) 0)
theorem resL_one : ∀ y : ResR, ∀ u ∈ resL y, u.oneCell' = true := by
  intro y u hu
  unfold resL at hu
  simp only [List.mem_cons, List.not_mem_nil, or_false] at hu
  rcases hu with rfl | rfl <;> rfl
theorem owns_nilR (w : World) : (w.alloc (.cells #[] 47)).ownsRow 0 47 2 (.slice (some ⟨w.heap.size, 0, none⟩) 0 0) 0 [] := owns_new w [] 47 2 0 rfl (Nat.zero_le _)
def ClashPost (w : World) (l : List ResR) (e : Ending) (w' : World) : Prop := ∃ b : Bool, e = .returned (.bool b) ∧ (b = false → ¬ Clash l) ∧ Chg (fun _ => False) w w'
def NoClash (l : List ResR) (i k : Nat) : Prop := ∀ (hi : i < l.length) (hk : k < i), ¬ (l[i].2 ≠ (l[k]'(by omega)).2 ∧ hashS l[i].2 = hashS (l[k]'(by omega)).2)
theorem ofB_hash (x y : ByteArray) : (∀ i, i < 32 → ofB [x] i = ofB [y] i) ↔ hashS x = hashS y := by
  constructor
  · intro h
    unfold hashS
    congr 2
    exact List.map_congr_left (fun i hi => h i (List.mem_range.1 hi))
  · intro h i hi
    have h1 := hashS_get x i (by rw [hashS_size]; exact hi)
    have h2 := hashS_get y i (by rw [hashS_size]; exact hi)
    rw [← h1, ← h2]
    congr 1
theorem noclash {l : List ResR} (h : ∀ i k, i < l.length → NoClash l i k) : ¬ Clash l := fun ⟨i, k, hi, hk, hne⟩ => h i k hi hi hk hne

set_option maxRecDepth 100000 in
set_option maxHeartbeats 8000000 in
theorem clash_any {B : Nat} (ra rb : List ResR) (h30 : ra.length ≤ 30) (h31 : rb.length ≤ 30) (hba : ∀ r ∈ ra, r.2.size ≤ 1000) (hbb : ∀ r ∈ rb, r.2.size ≤ 1000) (va vb : Value) (w : World) (hin : ResAt w va ra) (hin2 : ResAt w vb rb) (hT : TabsOK B w) (hB : B ≤ w.heap.size) :
    Calls Tryz.prog 27 #[va, vb] w (ClashPost w (ra ++ rb)) := by
  obtain ⟨L, hLe⟩ : ∃ L, L = ra ++ rb := ⟨_, rfl⟩
  rw [← hLe]
  have HLE := hid hLe
  have HIN := hid hin
  have HIN2 := hid hin2
  have HT := hid hT
  have HBB := hid hB
  have HBA := hid (show ∀ r ∈ L, r.2.size ≤ 1000 from fun r hr => by rw [hLe] at hr; exact (List.mem_append.1 hr).elim (hba r) (hbb r))
  have HC0 := hid (al_chg w (.cells #[] 47))
  have HL : Hid (L.length = ra.length + rb.length) := hid (by rw [hLe]; simp)
  clear hLe
  clear hin hin2 hT hB hba hbb
  go_enter Tryz.func27, Tryz.ntmps27
  go_wp2_with (first | (guard_target =~ wpList _ _ _ (Oper.mk (some 10) _ _ _ _ _ :: _) _ _; refine wpList_append_rows rfl _ _ 58 rfl elRes (owns_nilR w) rfl resL noRes ra (fun _ => rfl) (fun y _ => resL_one y) rfl (HIN.out.chg HC0.out (fun _ _ h => h)).rows (by unfold maxLen; omega) (by omega) ?_; intro v3 w3 hown3 hch3 hb3; have hc3 := HC0.out.trans hch3 (fun i hi h => by obtain rfl := own_eq h; omega); rw [Nat.zero_add, List.nil_append] at hown3) | (guard_target =~ wpList _ _ _ (Oper.mk (some 12) _ _ _ _ _ :: _) _ _; refine wpList_append_rows rfl _ _ 58 rfl elRes hown3 rfl resL noRes rb (fun _ => rfl) (fun y _ => resL_one y) rfl (HIN2.out.chg hc3 (fun _ _ h => h)).rows (by unfold maxLen; omega) (by omega) ?_; intro v4 w4 hown4 hch4 hb4; rw [← List.flatMap_append, ← HLE.out] at hown4; have HRA4 := hid (ResAt.of_owns (rs := L) HL.out.symm hown4 (by rw [HL.out]; omega) (fun r hr => by have := HBA.out r hr; omega)); have HC4 := hid (hc3.trans hch4 (fun i hi h => by rcases hb3 i h with h2 | h2 <;> first | (obtain rfl := own_eq h2; omega) | (have := HC0.out.size; simp at h2; omega))); clear hown3 hown4 hch3 hch4 hb3 hb4 hc3))
  obtain ⟨oa3, ca3, rfl⟩ := HRA4.out.form
  have hlen := HRA4.out.len
  have hl60 : L.length ≤ 60 := by rw [HL.out]; omega
  have HTQ0 := hid (HT.out.keep HC4.out)
  have HBQ0 : Hid (B ≤ w4.heap.size) := hid (Nat.le_trans HBB.out HC4.out.size)
  clear HC0 HIN HIN2 HT HBB
  go_loopw [6] (fun i wr => ∃ k : Nat, k ≤ L.length ∧ i = .int .i64 k ∧ Chg (fun _ => False) w4 wr ∧ ∀ i' k', i' < k → NoClash L i' k') (fun i _ => L.length - (intOf i).toNat)
  case atStart => exact ⟨0, Nat.zero_le _, rfl, Chg.refl _ _, fun _ _ h => absurd h (Nat.not_lt_zero _)⟩
  case round =>
    obtain ⟨k, hk, rfl, hch, hall⟩ := hrel
    have HCH := hid hch
    have HALL := hid hall
    clear hch hall
    by_cases hkn : k < L.length
    · have hkn' : (k : Int) < (L.length : Int) := by omega
      go_wp2_with fail
      obtain ⟨wo, hwo⟩ : ∃ wo, wo = wr := ⟨_, rfl⟩
      rw [← hwo] at HCH ⊢
      clear hwo
      go_loopw [7] (fun i wq => ∃ q : Nat, q ≤ k ∧ i = .int .i64 q ∧ Chg (fun _ => False) w4 wq ∧ ∀ k', k' < q → NoClash L k k') (fun i _ => k - (intOf i).toNat)
      case atStart => exact ⟨0, Nat.zero_le _, rfl, HCH.out, fun _ h => absurd h (Nat.not_lt_zero _)⟩
      case round =>
       obtain ⟨q, hq, rfl, hcq, hin⟩ := hrel
       have HCQ := hid hcq
       have HIN := hid hin
       clear hcq hin
       by_cases hqk : q < k
       · have hqk' : (q : Int) < (k : Int) := by omega
         go_upto_region 8 with fail
         go_cut [51] from 24 to 50 (fun s51 wx => ∃ R : Bool, s51 = .bool R ∧ (R = false → NoClash L k q) ∧ Chg (fun _ => False) wr wx)
         case first =>
          have hra := HRA4.out.chg HCQ.out (fun _ _ h => h)
          obtain ⟨bi, oi, hixi, ei0, ei1, hli⟩ := hra.ix k hkn
          obtain ⟨bk, ok, hixk, ek0, ek1, hlk⟩ := hra.ix q (by omega)
          have hx5 : L[k].2.size ≤ 100000 := by have := HBA.out _ (List.getElem_mem hkn); omega
          have hy5 : (L[q]'(by omega)).2.size ≤ 100000 := by have := HBA.out _ (List.getElem_mem (show q < L.length by omega)); omega
          have HNC : Hid (∀ R : Bool, (R = false → ¬ (L[k].2 ≠ (L[q]'(by omega)).2 ∧ hashS L[k].2 = hashS (L[q]'(by omega)).2)) → (R = false → NoClash L k q)) := hid (fun R h hR _ _ => h hR)
          have HTQ := hid (HTQ0.out.keep HCQ.out)
          have HBQ : Hid (B ≤ wr.heap.size) := hid (Nat.le_trans HBQ0.out HCQ.out.size)
          clear hra ei0 ek0 hli hlk
          generalize L[k].2 = x at *
          generalize (L[q]'(by omega)).2 = y at *
          have hbe := str_beq x y
          by_cases hxy : x = y
          · rw [decide_eq_true hxy] at hbe
            have HXY := hid hxy
            clear hxy
            go_quiet (fail)
            go_wp2_with fail
            go_meet
            exact ⟨false, rfl, HNC.out false (fun _ h => h.1 HXY.out), (Chg.refl _ _).drewN _⟩
          · rw [decide_eq_false hxy] at hbe
            have HXY := hid hxy
            clear hxy
            obtain ⟨R, hR1, hR2⟩ := eq_dig (ofB [x]) (ofB [y]) wr
            have HR2 := hid hR2
            have hRR : ∀ W, (binOp .eql 57 (.agg (rowB 32 (ofB [x]))) (.agg (rowB 32 (ofB [y])))).run Tryz.prog W = .ok (.bool R) W := fun W => by
              obtain ⟨R', g1, g2⟩ := eq_dig (ofB [x]) (ofB [y]) W
              rw [g1, Bool.eq_iff_iff.2 (g2.trans HR2.out.symm)]
            clear hR1 hR2
            have HFIN : Hid (R = false → NoClash L k q) := hid (HNC.out R (fun hR h => by
              have := HR2.out.2 ((ofB_hash x y).2 h.2)
              rw [hR] at this
              cases this))
            have hd0 : Chg (fun _ => False) wr wr := Chg.refl _ _
            refine wp_region_held_drew (S := fun W => Chg (fun _ => False) wr W) (by kernel_rfl) ((Chg.refl _ wr).drew) (fun hd => ?_)
            refine wpAnyH_takeD (i := 0) (v := .slice oa3 L.length ca3) (some 24) rfl (by kernel_rfl) (by kernel_rfl) (by kernel_rfl) (by kernel_rfl) (fun _ _ _ h => h) (.inl ⟨by kernel_rfl, fun W _ => by kernel_rfl⟩) hd ?_
            refine wpAnyH_takeD (i := 1) (v := .int .i64 k) (some 25) rfl (by kernel_rfl) (by kernel_rfl) (by kernel_rfl) (by kernel_rfl) (fun _ _ _ h => h) (.inl ⟨by kernel_rfl, fun W _ => by kernel_rfl⟩) hd ?_
            refine wpAnyH_takeD (i := 2) (v := .pointer (some ⟨bi, oi, none⟩)) (some 26) rfl (by kernel_rfl) (by kernel_rfl) (by kernel_rfl) (by kernel_rfl) (fun _ _ _ h => h) (yieldsIf_index (by kernel_rfl) 58 (.tmp 24) (.tmp 25) (by kernel_rfl) (.slice oa3 L.length ca3) (.int .i64 k) _ (by kernel_rfl) (by kernel_rfl) (fun W => hixi W)) hd ?_
            refine wpAnyH_takeD (i := 3) (v := .pointer (some ⟨bi, oi + 1, none⟩)) (some 27) rfl (by kernel_rfl) (by kernel_rfl) (by kernel_rfl) (by kernel_rfl) (fun _ _ _ h => h) (.inl ⟨by kernel_rfl, fun W _ => by kernel_rfl⟩) hd ?_
            refine wpAnyH_takeD (i := 4) (v := .string x) (some 28) rfl (by kernel_rfl) (by kernel_rfl) (by kernel_rfl) (by kernel_rfl) (fun _ _ _ h => h) (yieldsIf_load1 (by kernel_rfl) 9 (.tmp 27) (by kernel_rfl) bi (oi + 1) _ (by kernel_rfl) (fun W hW => load_str (hW.cell ei1 (fun h => h)))) hd ?_
            refine wpAnyH_takeD (i := 5) (v := .slice oa3 L.length ca3) (some 29) rfl (by kernel_rfl) (by kernel_rfl) (by kernel_rfl) (by kernel_rfl) (fun _ _ _ h => h) (.inl ⟨by kernel_rfl, fun W _ => by kernel_rfl⟩) hd ?_
            refine wpAnyH_takeD (i := 6) (v := .int .i64 q) (some 30) rfl (by kernel_rfl) (by kernel_rfl) (by kernel_rfl) (by kernel_rfl) (fun _ _ _ h => h) (.inl ⟨by kernel_rfl, fun W _ => by kernel_rfl⟩) hd ?_
            refine wpAnyH_takeD (i := 7) (v := .pointer (some ⟨bk, ok, none⟩)) (some 31) rfl (by kernel_rfl) (by kernel_rfl) (by kernel_rfl) (by kernel_rfl) (fun _ _ _ h => h) (yieldsIf_index (by kernel_rfl) 58 (.tmp 29) (.tmp 30) (by kernel_rfl) (.slice oa3 L.length ca3) (.int .i64 q) _ (by kernel_rfl) (by kernel_rfl) (fun W => hixk W)) hd ?_
            refine wpAnyH_takeD (i := 8) (v := .pointer (some ⟨bk, ok + 1, none⟩)) (some 32) rfl (by kernel_rfl) (by kernel_rfl) (by kernel_rfl) (by kernel_rfl) (fun _ _ _ h => h) (.inl ⟨by kernel_rfl, fun W _ => by kernel_rfl⟩) hd ?_
            refine wpAnyH_takeD (i := 9) (v := .string y) (some 33) rfl (by kernel_rfl) (by kernel_rfl) (by kernel_rfl) (by kernel_rfl) (fun _ _ _ h => h) (yieldsIf_load1 (by kernel_rfl) 9 (.tmp 32) (by kernel_rfl) bk (ok + 1) _ (by kernel_rfl) (fun W hW => load_str (hW.cell ek1 (fun h => h)))) hd ?_
            refine wpAnyH_takeD (i := 10) (v := .bool true) (some 34) rfl (by kernel_rfl) (by kernel_rfl) (by kernel_rfl) (by kernel_rfl) (fun _ _ _ h => h) (.inl ⟨by kernel_rfl, fun W _ => by simp [go_sem, hbe]⟩) hd ?_
            refine wpAnyH_takeD (i := 11) (v := .bool true) (some 35) rfl (by kernel_rfl) (by kernel_rfl) (by kernel_rfl) (by kernel_rfl) (fun _ _ _ h => h) (.inl ⟨by kernel_rfl, fun W _ => by kernel_rfl⟩) hd ?_
            refine wpAnyH_takeD (i := 12) (v := .slice oa3 L.length ca3) (some 36) rfl (by kernel_rfl) (by kernel_rfl) (by kernel_rfl) (by kernel_rfl) (fun _ _ _ h => h) (.inl ⟨by kernel_rfl, fun W _ => by kernel_rfl⟩) hd ?_
            refine wpAnyH_takeD (i := 13) (v := .int .i64 k) (some 37) rfl (by kernel_rfl) (by kernel_rfl) (by kernel_rfl) (by kernel_rfl) (fun _ _ _ h => h) (.inl ⟨by kernel_rfl, fun W _ => by kernel_rfl⟩) hd ?_
            refine wpAnyH_takeD (i := 14) (v := .pointer (some ⟨bi, oi, none⟩)) (some 38) rfl (by kernel_rfl) (by kernel_rfl) (by kernel_rfl) (by kernel_rfl) (fun _ _ _ h => h) (yieldsIf_index (by kernel_rfl) 58 (.tmp 36) (.tmp 37) (by kernel_rfl) (.slice oa3 L.length ca3) (.int .i64 k) _ (by kernel_rfl) (by kernel_rfl) (fun W => hixi W)) hd ?_
            refine wpAnyH_takeD (i := 15) (v := .pointer (some ⟨bi, oi + 1, none⟩)) (some 39) rfl (by kernel_rfl) (by kernel_rfl) (by kernel_rfl) (by kernel_rfl) (fun _ _ _ h => h) (.inl ⟨by kernel_rfl, fun W _ => by kernel_rfl⟩) hd ?_
            refine wpAnyH_takeD (i := 16) (v := .string x) (some 40) rfl (by kernel_rfl) (by kernel_rfl) (by kernel_rfl) (by kernel_rfl) (fun _ _ _ h => h) (yieldsIf_load1 (by kernel_rfl) 9 (.tmp 39) (by kernel_rfl) bi (oi + 1) _ (by kernel_rfl) (fun W hW => load_str (hW.cell ei1 (fun h => h)))) hd ?_
            refine wpAnyH_takeD (i := 19) (v := .slice oa3 L.length ca3) (some 43) rfl (by kernel_rfl) (by kernel_rfl) (by kernel_rfl) (by kernel_rfl) (fun _ _ _ h => h) (.inl ⟨by kernel_rfl, fun W _ => by kernel_rfl⟩) hd ?_
            refine wpAnyH_takeD (i := 20) (v := .int .i64 q) (some 44) rfl (by kernel_rfl) (by kernel_rfl) (by kernel_rfl) (by kernel_rfl) (fun _ _ _ h => h) (.inl ⟨by kernel_rfl, fun W _ => by kernel_rfl⟩) hd ?_
            refine wpAnyH_takeD (i := 21) (v := .pointer (some ⟨bk, ok, none⟩)) (some 45) rfl (by kernel_rfl) (by kernel_rfl) (by kernel_rfl) (by kernel_rfl) (fun _ _ _ h => h) (yieldsIf_index (by kernel_rfl) 58 (.tmp 43) (.tmp 44) (by kernel_rfl) (.slice oa3 L.length ca3) (.int .i64 q) _ (by kernel_rfl) (by kernel_rfl) (fun W => hixk W)) hd ?_
            refine wpAnyH_takeD (i := 22) (v := .pointer (some ⟨bk, ok + 1, none⟩)) (some 46) rfl (by kernel_rfl) (by kernel_rfl) (by kernel_rfl) (by kernel_rfl) (fun _ _ _ h => h) (.inl ⟨by kernel_rfl, fun W _ => by kernel_rfl⟩) hd ?_
            refine wpAnyH_takeD (i := 23) (v := .string y) (some 47) rfl (by kernel_rfl) (by kernel_rfl) (by kernel_rfl) (by kernel_rfl) (fun _ _ _ h => h) (yieldsIf_load1 (by kernel_rfl) 9 (.tmp 46) (by kernel_rfl) bk (ok + 1) _ (by kernel_rfl) (fun W hW => load_str (hW.cell ek1 (fun h => h)))) hd ?_
            try simp only [Act.put, List.setIfInBounds_toArray, List.set_cons_zero, List.set_cons_succ]
            refine wpAnyH_all (rs := [17, 24]) (by kernel_rfl) (by simp) (fun i hi => ?_)
            have hi2 : i = 17 ∨ i = 24 := by simpa using hi
            rcases hi2 with rfl | rfl
            · skip
              refine wpOp_step rfl (fun K1 hK1 => ?_)
              refine Eq.mpr (if_pos (by kernel_rfl)) ?_
              go_wp2_with fail
              have hd1 : Chg (fun _ => False) wr (wr.alloc (.cells #[.string x] 9)).drew := (hd0.alloc _).drew
              refine ⟨hd1, ?_⟩
              try simp only [Act.put, List.setIfInBounds_toArray, List.set_cons_zero, List.set_cons_succ, Array.toArray_toList]
              refine wpAnyH_all (rs := [18, 24]) (by kernel_rfl) (by simp) (fun i hi => ?_)
              have hi2 : i = 18 ∨ i = 24 := by simpa using hi
              rcases hi2 with rfl | rfl
              · skip
                refine wpOp_step rfl (fun K2 hK2 => ?_)
                refine Eq.mpr (if_pos (by kernel_rfl)) ?_
                go_wp2_with (go_at_call 28; refine (of_oneX x hx5 wr HTQ.out HBQ.out).mono ?_; rintro e w7 ⟨rfl, hcw7⟩)
                have hd2 : Chg (fun _ => False) wr w7 := hd1.trans hcw7 (fun _ _ h => h)
                refine ⟨hd2, ?_⟩
                try simp only [Act.put, List.setIfInBounds_toArray, List.set_cons_zero, List.set_cons_succ, Array.toArray_toList]
                refine wpAnyH_all (rs := [24]) (by kernel_rfl) (by simp) (fun i hi => ?_)
                obtain rfl : i = 24 := by simpa using hi
                refine wpOp_step rfl (fun K3 hK3 => ?_)
                refine Eq.mpr (if_pos (by kernel_rfl)) ?_
                go_wp2_with fail
                have hd3 : Chg (fun _ => False) wr (w7.alloc (.cells #[.string y] 9)) := hd2.alloc _
                refine ⟨hd3, ?_⟩
                try simp only [Act.put, List.setIfInBounds_toArray, List.set_cons_zero, List.set_cons_succ, Array.toArray_toList]
                refine wpAnyH_all (rs := [25]) (by kernel_rfl) (by simp) (fun i hi => ?_)
                obtain rfl : i = 25 := by simpa using hi
                refine wpOp_step rfl (fun K4 hK4 => ?_)
                refine Eq.mpr (if_pos (by kernel_rfl)) ?_
                go_wp2_with (go_at_call 28; refine (of_one y hy5 w7 (HTQ.out.keep hd2) (Nat.le_trans HBQ.out hd2.size)).mono ?_; rintro e w8 ⟨rfl, hcw8⟩)
                have hd4 : Chg (fun _ => False) wr w8 := hd3.trans hcw8 (fun _ _ h => h)
                refine ⟨hd4, ?_⟩
                refine wpAnyH_takeD (i := 26) (v := .bool R) (some 50) rfl (by kernel_rfl) (by kernel_rfl) (by kernel_rfl) (by kernel_rfl) (fun _ _ _ h => h) (yieldsIf_eql (by kernel_rfl) 57 57 (.tmp 42) (.tmp 49) (by kernel_rfl) (rowB 32 (ofB [x])) (rowB 32 (ofB [y])) (by kernel_rfl) (by kernel_rfl) (by kernel_rfl) R hRR) hd4 ?_
                refine wpAnyH_takeD (i := 27) (v := .bool R) (some 51) rfl (by kernel_rfl) (by kernel_rfl) (by kernel_rfl) (by kernel_rfl) (fun _ _ _ h => h) (.inl ⟨by kernel_rfl, fun W _ => by kernel_rfl⟩) hd4 ?_
                try simp only [Act.put, List.setIfInBounds_toArray, List.set_cons_zero, List.set_cons_succ]
                refine wpAnyH_done (by kernel_rfl) ?_ _
                have HF := hid hd4
                go_wp2_with fail
                go_meet
                exact ⟨R, rfl, HFIN.out, HF.out⟩
              · skip
                refine wpOp_step rfl (fun K2 hK2 => ?_)
                refine Eq.mpr (if_pos (by kernel_rfl)) ?_
                go_wp2_with fail
                have hd2 : Chg (fun _ => False) wr ((wr.alloc (.cells #[.string x] 9)).alloc (.cells #[.string y] 9)).drew := ((hd0.alloc _).alloc _).drew
                refine ⟨hd2, ?_⟩
                try simp only [Act.put, List.setIfInBounds_toArray, List.set_cons_zero, List.set_cons_succ, Array.toArray_toList]
                refine wpAnyH_all (rs := [18]) (by kernel_rfl) (by simp) (fun i hi => ?_)
                obtain rfl : i = 18 := by simpa using hi
                have hqa : (((wr.alloc (.cells #[.string x] 9)).alloc (.cells #[.string y] 9)).drew).cell? ⟨wr.heap.size, 0, none⟩ = some (.string x) := cell_of (heap_alloc_old' (heap_alloc_new' wr (.cells #[.string x] 9)) (.cells #[.string y] 9)) 0
                have hqb : (((wr.alloc (.cells #[.string x] 9)).alloc (.cells #[.string y] 9)).drew).cell? ⟨wr.heap.size + 1, 0, none⟩ = some (.string y) := by
                  have h := cell_of (heap_alloc_new' (wr.alloc (.cells #[.string x] 9)) (.cells #[.string y] 9)) 0
                  rw [show (wr.alloc (.cells #[.string x] 9)).heap.size = wr.heap.size + 1 by simp] at h
                  exact h
                refine wpOp_step rfl (fun K3 hK3 => ?_)
                refine Eq.mpr (if_pos (by kernel_rfl)) ?_
                go_wp2_with (go_at_call 28; refine (of_atX x hx5 wr.heap.size _ (HTQ.out.keep hd2) hqa).mono ?_; rintro e w7 ⟨rfl, hcw7⟩)
                have hd3 : Chg (fun _ => False) wr w7 := hd2.trans hcw7 (fun _ _ h => h)
                refine ⟨hd3, ?_⟩
                try simp only [Act.put, List.setIfInBounds_toArray, List.set_cons_zero, List.set_cons_succ, Array.toArray_toList]
                refine wpAnyH_all (rs := [25]) (by kernel_rfl) (by simp) (fun i hi => ?_)
                obtain rfl : i = 25 := by simpa using hi
                refine wpOp_step rfl (fun K4 hK4 => ?_)
                refine Eq.mpr (if_pos (by kernel_rfl)) ?_
                go_wp2_with (go_at_call 28; refine (of_atX y hy5 (wr.heap.size + 1) _ (HTQ.out.keep hd3) (hcw7.cell hqb (fun h => h))).mono ?_; rintro e w8 ⟨rfl, hcw8⟩)
                have hd4 : Chg (fun _ => False) wr w8 := hd3.trans hcw8 (fun _ _ h => h)
                refine ⟨hd4, ?_⟩
                refine wpAnyH_takeD (i := 26) (v := .bool R) (some 50) rfl (by kernel_rfl) (by kernel_rfl) (by kernel_rfl) (by kernel_rfl) (fun _ _ _ h => h) (yieldsIf_eql (by kernel_rfl) 57 57 (.tmp 42) (.tmp 49) (by kernel_rfl) (rowB 32 (ofB [x])) (rowB 32 (ofB [y])) (by kernel_rfl) (by kernel_rfl) (by kernel_rfl) R hRR) hd4 ?_
                refine wpAnyH_takeD (i := 27) (v := .bool R) (some 51) rfl (by kernel_rfl) (by kernel_rfl) (by kernel_rfl) (by kernel_rfl) (fun _ _ _ h => h) (.inl ⟨by kernel_rfl, fun W _ => by kernel_rfl⟩) hd4 ?_
                try simp only [Act.put, List.setIfInBounds_toArray, List.set_cons_zero, List.set_cons_succ]
                refine wpAnyH_done (by kernel_rfl) ?_ _
                have HF := hid hd4
                go_wp2_with fail
                go_meet
                exact ⟨R, rfl, HFIN.out, HF.out⟩
            · skip
              refine wpOp_step rfl (fun K1 hK1 => ?_)
              refine Eq.mpr (if_pos (by kernel_rfl)) ?_
              go_wp2_with fail
              have hd1 : Chg (fun _ => False) wr (wr.alloc (.cells #[.string y] 9)).drew := (hd0.alloc _).drew
              refine ⟨hd1, ?_⟩
              try simp only [Act.put, List.setIfInBounds_toArray, List.set_cons_zero, List.set_cons_succ, Array.toArray_toList]
              refine wpAnyH_all (rs := [17]) (by kernel_rfl) (by simp) (fun i hi => ?_)
              obtain rfl : i = 17 := by simpa using hi
              refine wpOp_step rfl (fun K2 hK2 => ?_)
              refine Eq.mpr (if_pos (by kernel_rfl)) ?_
              go_wp2_with fail
              have hd2 : Chg (fun _ => False) wr ((wr.alloc (.cells #[.string y] 9)).alloc (.cells #[.string x] 9)).drew := ((hd0.alloc _).alloc _).drew
              refine ⟨hd2, ?_⟩
              try simp only [Act.put, List.setIfInBounds_toArray, List.set_cons_zero, List.set_cons_succ, Array.toArray_toList]
              refine wpAnyH_all (rs := [18]) (by kernel_rfl) (by simp) (fun i hi => ?_)
              obtain rfl : i = 18 := by simpa using hi
              have hqb : (((wr.alloc (.cells #[.string y] 9)).alloc (.cells #[.string x] 9)).drew).cell? ⟨wr.heap.size, 0, none⟩ = some (.string y) := cell_of (heap_alloc_old' (heap_alloc_new' wr (.cells #[.string y] 9)) (.cells #[.string x] 9)) 0
              have hqa : (((wr.alloc (.cells #[.string y] 9)).alloc (.cells #[.string x] 9)).drew).cell? ⟨wr.heap.size + 1, 0, none⟩ = some (.string x) := by
                have h := cell_of (heap_alloc_new' (wr.alloc (.cells #[.string y] 9)) (.cells #[.string x] 9)) 0
                rw [show (wr.alloc (.cells #[.string y] 9)).heap.size = wr.heap.size + 1 by simp] at h
                exact h
              refine wpOp_step rfl (fun K3 hK3 => ?_)
              refine Eq.mpr (if_pos (by kernel_rfl)) ?_
              go_wp2_with (go_at_call 28; refine (of_atX x hx5 (wr.heap.size + 1) _ (HTQ.out.keep hd2) hqa).mono ?_; rintro e w7 ⟨rfl, hcw7⟩)
              have hd3 : Chg (fun _ => False) wr w7 := hd2.trans hcw7 (fun _ _ h => h)
              refine ⟨hd3, ?_⟩
              try simp only [Act.put, List.setIfInBounds_toArray, List.set_cons_zero, List.set_cons_succ, Array.toArray_toList]
              refine wpAnyH_all (rs := [25]) (by kernel_rfl) (by simp) (fun i hi => ?_)
              obtain rfl : i = 25 := by simpa using hi
              refine wpOp_step rfl (fun K4 hK4 => ?_)
              refine Eq.mpr (if_pos (by kernel_rfl)) ?_
              go_wp2_with (go_at_call 28; refine (of_atX y hy5 wr.heap.size _ (HTQ.out.keep hd3) (hcw7.cell hqb (fun h => h))).mono ?_; rintro e w8 ⟨rfl, hcw8⟩)
              have hd4 : Chg (fun _ => False) wr w8 := hd3.trans hcw8 (fun _ _ h => h)
              refine ⟨hd4, ?_⟩
              refine wpAnyH_takeD (i := 26) (v := .bool R) (some 50) rfl (by kernel_rfl) (by kernel_rfl) (by kernel_rfl) (by kernel_rfl) (fun _ _ _ h => h) (yieldsIf_eql (by kernel_rfl) 57 57 (.tmp 42) (.tmp 49) (by kernel_rfl) (rowB 32 (ofB [x])) (rowB 32 (ofB [y])) (by kernel_rfl) (by kernel_rfl) (by kernel_rfl) R hRR) hd4 ?_
              refine wpAnyH_takeD (i := 27) (v := .bool R) (some 51) rfl (by kernel_rfl) (by kernel_rfl) (by kernel_rfl) (by kernel_rfl) (fun _ _ _ h => h) (.inl ⟨by kernel_rfl, fun W _ => by kernel_rfl⟩) hd4 ?_
              try simp only [Act.put, List.setIfInBounds_toArray, List.set_cons_zero, List.set_cons_succ]
              refine wpAnyH_done (by kernel_rfl) ?_ _
              have HF := hid hd4
              go_wp2_with fail
              go_meet
              exact ⟨R, rfl, HFIN.out, HF.out⟩
         case rest =>
          obtain ⟨R, rfl, hR, hcx⟩ := hcut
          have HR := hid hR
          have HCX := hid (HCQ.out.trans hcx (fun _ _ h => h))
          clear hR hcx
          cases R with
          | true =>
            go_wp2_with fail
            go_ret
            exact ⟨true, rfl, (fun h => by cases h), HC4.out.trans HCX.out (fun _ _ h => h)⟩
          | false =>
            go_wp2_with fail
            go_roundw
            case rel =>
              refine ⟨q + 1, by omega, by go_num, HCX.out, fun k' hk' => ?_⟩
              by_cases e : k' = q
              · subst e; exact HR.out rfl
              · exact HIN.out k' (by omega)
            case measure => simp [intOf]; omega
       · obtain rfl : q = k := by omega
         go_wp2_with fail
         go_roundw
         case rel =>
           refine ⟨q + 1, by omega, by go_num, HCQ.out, fun i' k' hi' => ?_⟩
           by_cases e : i' = q
           · subst e
             by_cases hk2 : k' < i'
             · exact HIN.out k' hk2
             · exact fun _ h => absurd h hk2
           · exact HALL.out i' k' (by omega)
         case measure => simp [intOf]; omega
    · obtain rfl : k = L.length := by omega
      go_wp2_with fail
      go_ret
      exact ⟨false, rfl, fun _ => noclash (fun i k hi => HALL.out i k hi), HC4.out.trans HCH.out (fun _ _ h => h)⟩
end Go.Proofs.YthglfmacjoecgaaGreatDoor
