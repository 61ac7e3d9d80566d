/- Texts of the proof, one behind the other: The digest of one text, in plain words: all blocks of the padded text, one behind the other, as the document has it. No program in sight; apiaryref02.consts and Of walked; apiaryref02.Of walked. -/
import Derived.Test.YthglfmacjoecgaaGreatDoorMg19
import Derived.Test.YthglfmacjoecgaaGreatDoorMg17
import Derived.StillTailTactics
namespace Go.Proofs.YthglfmacjoecgaaGreatDoor
open Go.RowKit

/-- A text, padded. -/
def wholeL (s : List UInt8) : List UInt8 := padR (s ++ [128]) ++ lensL (s.length : Nat) 8
theorem mixAll_fuel : ∀ (m m' : Nat) (f : Nat → Int) (l : List UInt8), l.length ≤ m → l.length ≤ m' → mixAll m f l = mixAll m' f l
  | m, m', f, l, h1, h2 => by
    by_cases h : l.length < 64
    · rw [mixAll_end m f l h, mixAll_end m' f l h]
    · obtain ⟨k, rfl⟩ : ∃ k, m = k + 1 := ⟨m - 1, by omega⟩
      obtain ⟨k', rfl⟩ : ∃ k', m' = k' + 1 := ⟨m' - 1, by omega⟩
      unfold mixAll
      rw [if_neg h, if_neg h]
      exact mixAll_fuel k k' _ _ (by simp; omega) (by simp; omega)
theorem mixAll_step (m : Nat) (f : Nat → Int) (l : List UInt8) (h : ¬ l.length < 64) : mixAll (m + 1) f l = mixAll m (mixR ⟨(l.take 64).toArray⟩ f) (l.drop 64) := by
  conv => lhs; unfold mixAll
  rw [if_neg h]
theorem take_ba (r : ByteArray) : (⟨(r.data.toList.take 64).toArray⟩ : ByteArray) = r.extract 0 64 := by
  apply ByteArray.ext
  apply Array.ext'
  simp [ByteArray.data_extract, List.extract_eq_take_drop]
theorem drop_ba (r : ByteArray) : (r.extract 64 r.size).data.toList = r.data.toList.drop 64 := by
  simp [ByteArray.data_extract, List.extract_eq_take_drop]
  exact List.take_of_length_le (by simp)
/-- What is absorbed first is mixed first. -/
theorem mixAll_absorb : ∀ (m : Nat) (f : Nat → Int) (r : ByteArray) (t : List UInt8) (k : Nat), r.size ≤ m → r.size + t.length ≤ k →
    mixAll k f (r.data.toList ++ t) = mixAll k (absorb m f r).1 ((absorb m f r).2.data.toList ++ t) ∧ (absorb m f r).2.size ≤ r.size ∧ (absorb m f r).2.size % 64 = r.size % 64
  | 0, f, r, t, k, h1, h2 => ⟨rfl, Nat.le_refl _, rfl⟩
  | m + 1, f, r, t, k, h1, h2 => by
    unfold absorb
    by_cases h : r.size < 64
    · rw [if_pos h]
      exact ⟨rfl, Nat.le_refl _, rfl⟩
    · rw [if_neg h]
      have hsz : (r.extract 64 r.size).size = r.size - 64 := by simp
      obtain ⟨i1, i2, i3⟩ := mixAll_absorb m (mixR (r.extract 0 64) f) (r.extract 64 r.size) t k (by omega) (by omega)
      refine ⟨?_, by omega, by omega⟩
      rw [← i1]
      obtain ⟨k', rfl⟩ : ∃ k', k = k' + 1 := ⟨k - 1, by omega⟩
      have hl : r.data.toList.length = r.size := by simp
      rw [mixAll_step k' f _ (by simp; omega)]
      rw [List.take_append_of_le_length (by omega), List.drop_append_of_le_length (by omega), take_ba, drop_ba]
      refine mixAll_fuel _ _ _ _ ?_ ?_
      · simp; omega
      · simp; omega
theorem remF_mod (a b : Nat) (h : a % 64 = b % 64) : remF a = remF b := by unfold remF; rw [h]
theorem of_whole (s : ByteArray) : ofB [s] = digB (mixAll (wholeL s.data.toList).length iv (wholeL s.data.toList)) := by
  have hl : s.data.toList.length = s.size := by simp
  have hq : addsR [s] = ((absorb s.size iv s).1, (absorb s.size iv s).2, ((s.size : Nat) : Int)) := by
    show addR (iv, .empty, 0) s = _
    unfold addR
    simp
  unfold ofB
  rw [hq]
  show digB (sumF (absorb s.size iv s).1 (absorb s.size iv s).2 ((s.size : Nat) : Int)) = _
  congr 1
  unfold sumF
  generalize hb : absorb s.size iv s = q
  have key := fun t k h => mixAll_absorb s.size iv s t k (Nat.le_refl _) h
  rw [hb] at key
  have hrl : q.2.data.toList.length = q.2.size := by simp
  have hm : q.2.size ≤ s.size ∧ q.2.size % 64 = s.size % 64 := ((key [] s.size (by simp)).2)
  have htail : wholeL s.data.toList = s.data.toList ++ ([128] ++ List.replicate (remF (q.2.size + 1)) 0 ++ lensL ((s.size : Nat) : Int) 8) := by
    unfold wholeL padR
    have : remF (s.data.toList ++ [128]).length = remF (q.2.size + 1) := remF_mod _ _ (by simp; omega)
    rw [this, hl]
    simp
  have htl2 : tailL q.2 ((s.size : Nat) : Int) = q.2.data.toList ++ ([128] ++ List.replicate (remF (q.2.size + 1)) 0 ++ lensL ((s.size : Nat) : Int) 8) := by
    unfold tailL padR
    have : (q.2.data.toList ++ [128]).length = q.2.size + 1 := by simp
    rw [this]
    simp
  rw [htail, htl2]
  clear htail htl2
  generalize [128] ++ List.replicate (remF (q.2.size + 1)) 0 ++ lensL ((s.size : Nat) : Int) 8 = tl
  have k1 := key tl (s.data.toList ++ tl).length (by rw [List.length_append, hl]; exact Nat.le_refl _)
  rw [k1.1]
  refine mixAll_fuel _ _ _ _ (Nat.le_refl _) ?_
  rw [List.length_append, List.length_append, hl, hrl]
  omega
end Go.Proofs.YthglfmacjoecgaaGreatDoor
namespace Go.Proofs.YthglfmacjoecgaaGreatDoor
open Go.RowKit

section
variable {P : Program} {w : World} {ops : Array Oper} {rest : List Oper} {o : Oper} {a : Act} {Q : Exit → Act → World → Prop}
theorem wpList_build1 (hg : o.guard = none) (t : TypeId) (xs : Array (Nat × Operand)) (hop : o.op = Op.build t xs) (z : Value) (hr : (Instr.build t (xs.map fun p => (p.1, a.eval p.2))).run P w = .ok z w)
    (h : wpList P ops Q rest (a.put o.dst z) w) : wpList P ops Q (o :: rest) a w := by
  refine wpList_plain hg fun K' hK' => ?_
  unfold Oper.wp
  have hr' : Sem.run P (Instr.build t (xs.map fun (i, x) => (i, a.eval x))) w = .ok z w := hr
  simp only [execOp, hop, Sem.run_bind, hr', Result.andThen, Sem.run_pure, Oper.upon]
  exact hK' _ _ h
end

set_option maxRecDepth 100000 in
set_option maxHeartbeats 2000000 in
theorem consts_any (w : World) : Calls Tryz.prog 108 #[] w (Rets (.agg (rowF 64 kf)) (Chg (fun _ => False) w)) := by
  go_enter Tryz.func108, Tryz.ntmps108
  go_wp2_with (first | (refine wpList_alloc0 rfl 184 rfl zc83 (alloc83 _) ?_; intro w4 ha4 hs4 hc4) | (refine wpList_build1 rfl 184 _ rfl (.agg (rowF 64 kf)) (by kernel_rfl) ?_) | (refine wpList_store0 rfl 184 _ _ rfl w.heap.size zc83 (rowF 64 kf) rfl rfl ha4 (by rw [rowF_size]; exact size83) rfl (rowF_one _ _) ?_; intro w5 ha5 hs5 hc5))
  refine bodyPost_ret (v := .agg (rowF 64 kf)) ?_ rfl ⟨rfl, ?_⟩
  · refine results_row Tryz.results108 _ _ w.heap.size rfl _ (run_loadVar_row _ w.heap.size 184 184 _ (0, 0) (.array 64 176) ha5 Tryz.underlying184 rfl (by rw [rowF_size]; kernel_rfl))
  · exact hc4.trans hc5 (fun i hi h => by omega)
end Go.Proofs.YthglfmacjoecgaaGreatDoor
namespace Go.Proofs.YthglfmacjoecgaaGreatDoor
open Go.RowKit

theorem build37 (w : World) : (Instr.build 57 #[]).run Tryz.prog w = .ok (.agg (rowB 32 (fun _ => 0))) w := by kernel_rfl
def strLen : Value → Nat
  | .string s => s.size
  | _ => 0
theorem elU8r : ElT Tryz.prog 125 5 1 1 := .mk' (z := .int .u8 0) Tryz.underlying125 (by kernel_rfl) rfl (by decide) rfl
theorem owns_emptyM (w : World) (e : TypeId) (size : Nat) : (w.alloc (.cells #[] e)).ownsRow 0 e size (.slice (some ⟨w.heap.size, 0, none⟩) 0 0) 0 [] :=
  ⟨by simp, .inr ⟨w.heap.size, 0, #[], rfl, Nat.zero_le _, heap_alloc_new w _, Nat.le_refl _, Nat.zero_le _, by simp, by simp⟩⟩

section
variable {P : Program} {w : World} {ops : Array Oper} {rest : List Oper} {o : Oper} {a : Act} {Q : Act → Prop}
theorem wpStill_load0 (hg : o.guard = none) (t : TypeId) (x : Operand) (hop : o.op = Op.load t x) (b : Nat) (cs : Array Value) (d : TypeDesc) (hx : a.eval x = .pointer (some ⟨b, 0, none⟩)) {T : TypeId} {fz : Nat × Nat} (hb : w.heap[b]? = some (.cells cs T fz))
    (hu : P.underlying t = some d) (hd : (match d with | .struct _ | .array _ _ => true | _ => false) = true) (hi : (P.info? t).map (·.size) = some cs.size)
    (h : wpStill P ops w Q rest (a.put o.dst (.agg cs))) : wpStill P ops w Q (o :: rest) a := by
  unfold wpStill
  rw [if_pos (by simp [Region.wanted, hg])]
  unfold Oper.still
  simp only [execOp, hop, hx, Instr.loadAt, Instr.sureAddr, Sem.run_bind, Sem.run_pure, Result.andThen_ok, run_loadVar_row w b T t cs fz d hb hu hd hi]
  exact ⟨rfl, h⟩
end

set_option maxRecDepth 100000 in
set_option maxHeartbeats 4000000 in
theorem rof_any (s : ByteArray) (hs : s.size ≤ 100000) (w : World) : Calls Tryz.prog 70 #[.string s] w (Rets (.agg (rowB 32 (ofB [s]))) (Chg (fun _ => False) w)) := by
  rw [of_whole]
  have hsz : s.data.toList.length = s.size := by simp
  go_enter Tryz.func70, Tryz.ntmps70
  go_wp2_with (first | (refine wpList_alloc0 rfl 57 rfl (rowB 32 (fun _ => 0)) (alloc37 _) ?_; intro w1 ha1 hs1 hc1))
  go_loop [0] (fun sv => ∃ (b : ByteArray) (j : Nat), sv = .string b ∧ b.data.toList = s.data.toList ++ 128 :: List.replicate j 0 ∧ b.size = s.size + 1 + j ∧ j + remF (s.size + 1 + j) = remF (s.size + 1)) (fun sv => remF (strLen sv))
  case atStart => exact ⟨_, 0, rfl, by simp [ByteArray.data_append], by rw [ByteArray.size_append]; rfl, by simp⟩
  case round =>
    obtain ⟨b, j, rfl, hb, hbs, hj⟩ := hrel
    have hr64 := remF_lt (s.size + 1)
    have ht : (b.size : Int).tmod 64 = (b.size : Int) % 64 := Int.tmod_eq_emod_of_nonneg (by omega)
    have hbb : b.size ≤ 200000 := by omega
    have hz1 : ¬ 9223372036854775807 < b.size + 1 := by omega
    have hz8 : ¬ 9223372036854775807 < b.size + 8 := by omega
    by_cases h56 : b.size % 64 = 56
    · have hb56 : ((b.size : Int) % 64 == 56) = true := by simpa using (show (b.size : Int) % 64 = 56 by omega)
      have hst := pad_stop h56
      have hpad : b.data.toList = padR (s.data.toList ++ [128]) := by
        rw [hb]
        unfold padR
        have e1 : (s.data.toList ++ [128]).length = s.size + 1 := by simp
        rw [hbs] at hst
        rw [e1, ← hj, hst]
        simp
      have HB := hid hpad
      have HBS := hid hbs
      clear hpad hb hj hst hbs
      go_wp2_with fail
      have hown0 := owns_emptyM w1 5 1
      rw [hs1] at hown0
      have HO := hid hown0
      have HC0 := hid ((Chg.refl (fun k => w.heap.size + 1 ≤ k) w1).alloc (.cells #[] 5))
      clear hown0
      go_loopw [4, 5] (fun v i wr => ∃ k : Nat, k ≤ 8 ∧ i = .int .i64 (7 - (k : Int)) ∧ wr.ownsRow 0 5 1 v k ((lensL (s.size : Nat) k).map bv8) ∧ (∀ b, v.ownBlock = some b → w.heap.size + 1 ≤ b) ∧ Chg (fun k => w.heap.size + 1 ≤ k) w1 wr) (fun _ i _ => (intOf i + 1).toNat)
      case atStart => exact ⟨0, by decide, rfl, HO.out, by simp [Value.ownBlock], HC0.out⟩
      case round =>
        obtain ⟨k, hk, rfl, hown, hov, hch⟩ := hrel
        have HV := hid hov
        have HCH := hid hch
        clear hov hch
        by_cases hkn : k < 8
        · have q0 : (0 : Int) ≤ 7 - (k : Int) := by omega
          obtain ⟨m, hm⟩ : ∃ m : Nat, m = 8 * (7 - k) := ⟨_, rfl⟩
          have v1 : IntKind.i64.wrap (8 * (s.size : Int)) = 8 * (s.size : Int) := IntWalk.i64_in _ (by omega)
          have v2 : IntKind.i64.wrap (8 * (7 - (k : Int))) = (m : Int) := by rw [IntWalk.i64_in _ (by omega)]; omega
          have m1 : min m 64 = m := by omega
          have HL : Hid (8 * (s.size : Int) / 2 ^ m % 256 = ((lenB (s.size : Nat) k).toNat : Int)) := by
            show _ = _
            rw [lenB_val, hm, IntKind.wrap_u64, IntKind.wrap_u64]
            rw [show ((((s.size : Nat) : Int) % 18446744073709551616 * 8) % 18446744073709551616) = 8 * (s.size : Int) by omega]
          clear hm
          go_wp2_with (refine wpList_append_new rfl _ _ 125 rfl elU8r hown rfl _ 1 1 rfl rfl rfl (by unfold maxLen; omega) (by omega) (by decide) ?_; intro g1 cap1 w2 hown1 hchg hg1)
          go_roundw
          case rel =>
            refine ⟨k + 1, by omega, by congr 1; omega, ?_, ?_, HCH.out.trans hchg (fun i hi h => HV.out i h)⟩
            · rw [lensL_next, List.map_append]
              rw [HL.out] at hown1
              exact hown1
            · intro b hb
              simp [Value.ownBlock] at hb
              subst hb
              rcases hg1 with h | h
              · exact HV.out _ h
              · exact Nat.le_trans (by have := HCH.out.size; omega) h
          case measure => simp [intOf]; omega
        · obtain rfl : k = 8 := by omega
          have hlo : ¬ (0 : Int) ≤ 7 - ((8 : Nat) : Int) := by omega
          have hlen8 : (lensL (s.size : Nat) 8).length = 8 := by simp [lensL]
          obtain ⟨g8, cap8, rfl, hcap8, hg8⟩ := owns_some hown (by decide)
          have hconv := run_convert_bytes_back (P := Tryz.prog) wr 125 9 5 ⟨g8, 0, none⟩ cap8 (lensL (s.size : Nat) 8) Tryz.underlying125 Tryz.underlying5 Tryz.underlying9 (fun j hj => by
            have hadd : (⟨g8, 0, none⟩ : Addr).add j = ⟨g8, j, none⟩ := by unfold Addr.add; split <;> simp_all
            have := hown.cellAt j (by rw [hlen8] at hj; omega)
            rw [hadd, this]
            simp [bv8, hj])
          rw [hlen8] at hconv
          have zl : (ByteArray.mk (lensL (s.size : Nat) 8).toArray).size = 8 := by show (lensL (s.size : Nat) 8).toArray.size = 8; simp [lensL]
          have hG0 := heap_alloc_new' wr (.cells (rowF 8 iv) 177)
          rw [iv_row] at hG0
          have hbw : b.size = s.size + 1 + remF (s.size + 1) := by
            have h1 := congrArg List.length HB.out
            unfold padR at h1
            simp at h1
            omega
          obtain ⟨X, hX⟩ : ∃ X : ByteArray, X = b ++ ⟨(lensL (s.size : Nat) 8).toArray⟩ := ⟨_, rfl⟩
          have hXl : X.data.toList = wholeL s.data.toList := by
            rw [hX, ByteArray.data_append, Array.toList_append, HB.out]
            unfold wholeL
            rw [hsz]
          have hXs : X.size = b.size + 8 := by rw [hX, ByteArray.size_append]; show b.size + (lensL (s.size : Nat) 8).toArray.size = _; simp [lensL]
          have hr64' := remF_lt (s.size + 1)
          have HXL := hid hXl
          have HXS := hid hXs
          have HH1 := hid hs1
          have HG0 := hid hG0
          have HH0 := hid ha1
          have hw8 : wr.heap.size < (wr.alloc (.cells #[.int .u32 1779033703, .int .u32 3144134277, .int .u32 1013904242, .int .u32 2773480762, .int .u32 1359893119, .int .u32 2600822924, .int .u32 528734635, .int .u32 1541459225] 177)).heap.size := by simp
          have HW8 := hid hw8
          clear hXl hXs hw8 hG0 ha1 hown hcap8 hg8
          go_wp2_with (first | (go_at_call 108; refine (consts_any _).mono ?_; rintro e w2 ⟨rfl, hc2⟩) | (refine wpList_alloc0 rfl 184 rfl zc83 (alloc83 _) ?_; intro w3 ha3 hs3 hc3) | (refine wpList_store0 rfl 184 _ _ rfl w2.heap.size zc83 (rowF 64 kf) rfl rfl ha3 (by rw [rowF_size]; exact size83) rfl (rowF_one _ _) ?_; intro w4 ha4 hs4 hc4))
          rw [← hX]
          clear hX
          have hG4 := (hc4.obj (hc3.obj (hc2.obj HG0.out (fun h => h)) (fun h => h)) (by have := HW8.out; have := hc2.size; omega))
          have hd4 : w4.heap[w.heap.size]? = some (.cells (rowB 32 (fun _ => 0)) 57 (0, 0)) := hc4.obj (hc3.obj (hc2.obj (heap_alloc_old' (HCH.out.obj HH0.out (by show ¬ w.heap.size + 1 ≤ w.heap.size; omega)) _) (fun h => h)) (fun h => h)) (by have := HW8.out; have := hc2.size; have := HCH.out.size; omega)
          have hcw4 : Chg (fun _ => False) w w4 := (((hc1.trans HCH.out (fun i hi h => by have : w.heap.size + 1 ≤ i := h; omega)).alloc _).trans hc2 (fun _ _ h => h)).trans ((hc3.mono (fun _ _ h => h.elim)).trans hc4 (fun _ _ h => h)) (fun i hi h => by have := hc2.size; have := HW8.out; have := HCH.out.size; have := hc1.size; omega)
          obtain ⟨G, hG⟩ : ∃ G, G = wr.heap.size := ⟨_, rfl⟩
          obtain ⟨K, hK⟩ : ∃ K, K = w2.heap.size := ⟨_, rfl⟩
          have hGK : G < K := by have := HW8.out; have := hc2.size; omega
          have hdG : w.heap.size < G := by have := HCH.out.size; omega
          rw [← hG] at hG4 ⊢
          rw [← hK] at ha4 ⊢
          have HG4 := hid hG4
          have HD4 := hid hd4
          have HK4 := hid ha4
          have HC4 := hid hcw4
          have hX64 : X.size % 64 = 0 := by have := HXS.out; omega
          have hXb : X.size ≤ 300000 := by have := HXS.out; omega
          have HX64 := hid hX64
          clear hz1 hz8 hbb ht zl hlen8 hconv hb56 hr64 hr64' hbw h56
          clear hG4 hd4 ha4 hcw4 hc2 hc3 hc4 hs3 hs4 hG hK hX64 ha3
          go_loopw [8] (fun i wx => ∃ (k : Nat) (f' : Nat → Int), i = .int .i64 ((64 * k : Nat) : Int) ∧ 64 * k ≤ X.size ∧ wx.heap[G]? = some (.cells (rowF 8 f') 177 (0, 0)) ∧ mixAll X.size iv (wholeL s.data.toList) = mixAll X.size f' ((wholeL s.data.toList).drop (64 * k)) ∧ Chg (fun q => q = G) w4 wx) (fun i _ => X.size - (intOf i).toNat)
          case atStart => exact ⟨0, iv, rfl, Nat.zero_le _, by rw [iv_row]; exact HG4.out, rfl, Chg.refl _ _⟩
          case round =>
            obtain ⟨k, f', rfl, hk, hbg, hmx, hchg⟩ := hrel
            obtain ⟨q, hq⟩ : ∃ q, q = 64 * k := ⟨_, rfl⟩
            rw [← hq] at hk hmx ⊢
            have HQ := hid hq
            clear hq
            by_cases hkn : q < X.size
            · have hkn' : (q : Int) < (X.size : Int) := by omega
              have hq64 : q + 64 ≤ X.size := by have := HX64.out; have := HQ.out; omega
              have hq1 : (q : Int) + 64 ≤ (X.size : Int) := by omega
              have hq0 : (0 : Int) ≤ (q : Int) + 64 := by omega
              have hq2 : (q : Int) ≤ (q : Int) + 64 := by omega
              have hw1 : wrap64 ((q : Int) + 64) = (q : Int) + 64 := by unfold wrap64; omega
              have hw2 : IntKind.i64.wrap ((q : Int) + 64) = (q : Int) + 64 := IntWalk.i64_in _ (by omega)
              have hq3 : ((q : Int) + 64).toNat = q + 64 := by omega
              have hbk := hchg.obj HK4.out (by omega)
              have HBG := hid hbg
              have HBK := hid hbk
              have HMX := hid hmx
              have HCG := hid hchg
              clear hbg hmx hchg hbk
              go_wp2_with fail
              refine wp_region_still_tail 7 (by kernel_rfl) (by kernel_rfl) ?_
              simp only [List.take_succ_cons, List.take_zero, List.drop_succ_cons, List.drop_zero]
              refine wpStill_load0 rfl 177 _ rfl G (rowF 8 f') (.array 8 176) rfl HBG.out Tryz.underlying177 rfl (by rw [rowF_size]; kernel_rfl) ?_
              refine wpStill_load0 rfl 184 _ rfl K (rowF 64 kf) (.array 64 176) rfl HBK.out Tryz.underlying184 rfl (by rw [rowF_size]; kernel_rfl) ?_
              repeat still_step
              try refine wpStill_nil ?_
              change wpList _ _ _ _ _ wr.drew
              have hbs64 : (X.extract q (q + 64)).size = 64 := by simp; omega
              go_wp2_with (first | (go_at_call 109; refine (block_any (X.extract q (q + 64)) hbs64 f' _).mono ?_; rintro e w9 ⟨rfl, hc9⟩; have hb9 := hc9.obj (HBG.out : wr.drew.heap[G]? = _) (fun h => h)) | (refine wpList_store0 rfl 177 _ _ rfl G (rowF 8 f') (rowF 8 (mixR (X.extract q (q + 64)) f')) rfl rfl hb9 (by rw [rowF_size]; exact size73) rfl (rowF_one _ _) ?_; intro w10 hb10 hs10 hc10))
              have HMX2 : Hid (mixAll X.size iv (wholeL s.data.toList) = mixAll X.size (mixR (X.extract q (q + 64)) f') ((wholeL s.data.toList).drop (q + 64))) := by
                show _ = _
                rw [HMX.out, ← HXL.out]
                have hXl : X.data.toList.length = X.size := by simp
                obtain ⟨m, hm⟩ : ∃ m, X.size = m + 1 := ⟨X.size - 1, by omega⟩
                have h1 : mixAll X.size f' (X.data.toList.drop q) = mixAll m (mixR ⟨((X.data.toList.drop q).take 64).toArray⟩ f') ((X.data.toList.drop q).drop 64) := by
                  rw [hm]
                  exact mixAll_step m f' _ (by rw [List.length_drop, hXl]; omega)
                have h2 : (⟨((X.data.toList.drop q).take 64).toArray⟩ : ByteArray) = X.extract q (q + 64) := by
                  apply ByteArray.ext
                  apply Array.ext'
                  simp [ByteArray.data_extract, List.extract_eq_take_drop]
                rw [h1, h2, List.drop_drop]
                exact mixAll_fuel _ _ _ _ (by rw [List.length_drop, hXl]; omega) (by rw [List.length_drop, hXl]; omega)
              have HCG2 := hid ((HCG.out.drew.trans hc9 (fun _ _ h => h.elim)).trans hc10 (fun _ _ h => h))
              have HB10 := hid hb10
              clear hb10 hs10 hc10 hc9 hb9
              go_wp2_with fail
              go_roundw
              case rel => exact ⟨k + 1, _, by have := HQ.out; congr 1; omega, by have := HQ.out; omega, HB10.out, by rw [show 64 * (k + 1) = q + 64 by have := HQ.out; omega]; exact HMX2.out, HCG2.out⟩
              case measure => simp [intOf]; omega
            · obtain rfl : q = X.size := by omega
              have hfin : mixAll X.size iv (wholeL s.data.toList) = f' := by
                rw [hmx]
                refine mixAll_end _ _ _ ?_
                rw [← HXL.out]
                simp
              have HFIN := hid hfin
              have hd5 := hchg.obj HD4.out (by omega)
              have HCW5 := hid (HC4.out.trans hchg (fun i hi h => by omega))
              have HBG := hid hbg
              have HD5 := hid hd5
              have hGl := heap_lt hbg
              clear hbg hchg hmx hfin hd5 HQ
              go_wp2_with (first | (refine wpList_build0 rfl 57 rfl (.agg (rowB 32 (fun _ => 0))) (build37 _) ?_) | (refine wpList_alloc0 rfl 57 rfl (rowB 32 (fun _ => 0)) (alloc37 _) ?_; intro w5 ha5 hs5 hc5) | (refine wpList_store0 rfl 57 _ _ rfl wr.heap.size (rowB 32 (fun _ => 0)) (rowB 32 (fun _ => 0)) rfl rfl ha5 (by rw [rowB_size]; exact size37) rfl (rowB_one _ _) ?_; intro w6 ha6 hs6 hc6))
              obtain ⟨D, hD⟩ : ∃ D, D = wr.heap.size := ⟨_, rfl⟩
              rw [← hD] at ha6 hc6 hGl ⊢
              have hbg6 := hc6.obj (hc5.obj HBG.out (fun h => h)) (by omega)
              have hd6 := hc6.obj (hc5.obj HD5.out (fun h => h)) (by omega)
              have hcw6 : Chg (fun _ => False) w w6 := (HCW5.out.trans hc5 (fun _ _ h => h)).trans hc6 (fun i hi h => by omega)
              have HBG6 := hid hbg6
              have HD6 := hid hd6
              have HA6 := hid ha6
              have HCW6 := hid hcw6
              have hwD : w.heap.size < D := by omega
              clear hbg6 hd6 ha6 hcw6 hc5 hc6 ha5 hs5 hs6 HBG HD5 HCW5 hD
              go_loopw [10] (fun i wx => ∃ k : Nat, k ≤ 32 ∧ i = .int .i64 k ∧ wx.heap[D]? = some (.cells (rowB 32 (fun i => if i < k then digB f' i else 0)) 57 (0, 0)) ∧ Chg (fun q => q = D) w6 wx) (fun i _ => 32 - (intOf i).toNat)
              case atStart => exact ⟨0, Nat.zero_le _, rfl, by rw [HA6.out]; rfl, Chg.refl _ _⟩
              case round =>
                obtain ⟨k, hk, rfl, hblk, hch⟩ := hrel
                by_cases hkn : k < 32
                · have hkn' : (k : Int) < 32 := by omega
                  have hq : IntKind.i64.wrap ((k : Int).tdiv 4) = ((k / 4 : Nat) : Int) := by rw [IntWalk.i64_quo _ _ (by omega)]; omega
                  have hr : (k : Int).tmod 4 = ((k % 4 : Nat) : Int) := by rw [Int.tmod_eq_emod_of_nonneg (by omega)]; omega
                  have hq8 : ((k / 4 : Nat) : Int) < 8 := by omega
                  have c1 := row_cell (hch.obj HBG6.out (by omega)) (k / 4) (by omega)
                  have cd := rowB_cell hblk k hkn
                  have fd := frozen_of hblk k
                  obtain ⟨r, hrr⟩ : ∃ r, r = k % 4 := ⟨_, rfl⟩
                  have hr4 : r < 4 := by omega
                  obtain ⟨m, hm⟩ : ∃ m, m = 24 - r * 8 := ⟨_, rfl⟩
                  have v1 : IntKind.i64.wrap (8 * (r : Int)) = 8 * (r : Int) := IntWalk.i64_in _ (by omega)
                  have v2 : IntKind.i64.wrap (24 - 8 * (r : Int)) = (m : Int) := by rw [IntWalk.i64_in _ (by omega)]; omega
                  have m1 : min m 32 = m := by omega
                  rw [← hrr] at hr
                  have HDV : Hid (f' (k / 4) / 2 ^ m % 256 = ((digB f' k).toNat : Int)) := by
                    show _ = _
                    rw [digB_val, hm, hrr]
                  have HB := hid hblk
                  have HC := hid hch
                  clear hblk hch hrr hm
                  go_wp2_with fail
                  go_roundw
                  case rel =>
                    refine ⟨k + 1, by omega, by go_num, ?_, HC.out.setCell (p := ⟨D, k, none⟩) (fun _ => rfl) _⟩
                    rw [HDV.out, heap_set_same HB.out, rowB_set]
                    refine congrArg (fun x => some (Obj.cells x _ _)) (rowB_congr fun i hi => ?_)
                    by_cases e : i = k
                    · subst e; rw [if_pos rfl, if_pos (by omega)]
                    · rw [if_neg e]
                      by_cases e2 : i < k
                      · rw [if_pos e2, if_pos (by omega)]
                      · rw [if_neg e2, if_neg (by omega)]
                  case measure => simp [intOf]; omega
                · obtain rfl : k = 32 := by omega
                  have hfin2 : wr.heap[D]? = some (.cells (rowB 32 (digB f')) 57 (0, 0)) := by
                    rw [hblk]; exact congrArg (fun x => some (Obj.cells x _ _)) (rowB_congr fun i hi => if_pos hi)
                  have hdd := hch.obj HD6.out (by omega)
                  have HCX := hid hch
                  clear hblk hch
                  go_wp2_with (first | (refine wpList_load0 rfl 57 _ rfl D (rowB 32 (digB f')) (.array 32 5) rfl hfin2 Tryz.underlying57 rfl (by rw [rowB_size]; kernel_rfl) ?_) | (refine wpList_store0 rfl 57 _ _ rfl w.heap.size (rowB 32 (fun _ => 0)) (rowB 32 (digB f')) rfl rfl hdd (by rw [rowB_size]; exact size37) rfl (rowB_one _ _) ?_; intro w9 hb9 hs9 hc9))
                  refine bodyPost_ret (v := .agg (rowB 32 (digB f'))) ?_ rfl ⟨?_, ?_⟩
                  · refine results_row Tryz.results70 _ _ w.heap.size rfl _ (run_loadVar_row _ w.heap.size 57 57 _ (0, 0) (.array 32 5) hb9 Tryz.underlying57 rfl (by rw [rowB_size]; kernel_rfl))
                  · have hLX : (wholeL s.data.toList).length = X.size := by rw [← HXL.out]; simp
                    rw [hLX, HFIN.out]
                  · exact (HCW6.out.trans HCX.out (fun i hi h => by omega)).trans hc9 (fun i hi h => by omega)
    · have hb56 : ((b.size : Int) % 64 == 56) = false := by simpa using (show ¬ (b.size : Int) % 64 = 56 by omega)
      have hnx := pad_next h56
      have hx1 : ¬ (b.size : Int) % 64 = 56 := by omega
      have hx2 : decide ((b.size : Int) % 64 = 56) = false := decide_eq_false hx1
      have hx3 : (!((b.size : Int) % 64 == 56)) = true := by rw [hb56]; rfl
      have HB := hid hb
      have HBS := hid hbs
      have HJ := hid hj
      rw [hbs] at hnx
      have HNX := hid hnx
      clear hb hj hbs hnx
      go_wp2_with fail
      go_round
      case rel => exact ⟨_, j + 1, rfl, by rw [ByteArray.data_append, Array.toList_append, HB.out]; simp [List.replicate_succ'], by rw [ByteArray.size_append, HBS.out]; rfl, by have := HJ.out; have := HNX.out; rw [show s.size + 1 + (j + 1) = s.size + 1 + j + 1 by omega]; omega⟩
      case measure =>
        show remF (b ++ _).size < remF b.size
        rw [ByteArray.size_append]
        show remF (b.size + 1) < remF b.size
        rw [HBS.out]
        have := HNX.out
        omega
end Go.Proofs.YthglfmacjoecgaaGreatDoor
