/- Texts of the proof, one behind the other: The digest of one text, in plain words: all blocks of the padded text, one behind the other, as the document has it. No program in sight; apiaryref02.consts and Of walked; apiaryref02.Of walked; apiaryref03.Bytes, bytes walked: a digest's bytes as a text; stamp.Row, apiaryref02.Row walked; What of a build stands on what, in plain words: names, the order, what an action needs, what is dirty. No program in sight; slices.IndexFunc, slices.ContainsFunc at the closures of trellis, their answers given; What an action needs, in plain words: by rounds, sorted; that these are all on which it stands; rings. No program in sight; Maps as lists of pairs: what a map's block holds, and the operations on it. -/
import Derived.Test.YthglfmacjoecgaaGreatDoorMg10
import Derived.Test.YthglfmacjoecgaaGreatDoorMg09
import Derived.StillTailTactics
import Derived.Test.YthglfmacjoecgaaGreatDoorMg05
import Derived.Test.YthglfmacjoecgaaGreatDoorMg01
import Derived.Test.YthglfmacjoecgaaGreatDoorMg04
import Derived.Maps.OwnSet
namespace Go.Proofs.YthglfmacjoecgaaGreatDoor
open Go.RowKit

/-- A text, padded. -/
def wholeL (s : List UInt8) : List UInt8 := padR (s ++ [128]) ++ lensL (s.length : Nat) 8
theorem mixAll_fuel : ∀ (m m' : Nat) (f : Nat → Int) (l : List UInt8), l.length ≤ m → l.length ≤ m' → mixAll m f l = mixAll m' f l
  | m, m', f, l, h1, h2 => by
    by_cases h : l.length < 64
    · rw [mixAll_end m f l h, mixAll_end m' f l h]
    · obtain ⟨k, rfl⟩ : ∃ k, m = k + 1 := ⟨m - 1, by omega⟩
      obtain ⟨k', rfl⟩ : ∃ k', m' = k' + 1 := ⟨m' - 1, by omega⟩
      unfold mixAll
      rw [if_neg h, if_neg h]
      exact mixAll_fuel k k' _ _ (by simp; omega) (by simp; omega)
theorem mixAll_step (m : Nat) (f : Nat → Int) (l : List UInt8) (h : ¬ l.length < 64) : mixAll (m + 1) f l = mixAll m (mixR ⟨(l.take 64).toArray⟩ f) (l.drop 64) := by
  conv => lhs; unfold mixAll
  rw [if_neg h]
theorem take_ba (r : ByteArray) : (⟨(r.data.toList.take 64).toArray⟩ : ByteArray) = r.extract 0 64 := by
  apply ByteArray.ext
  apply Array.ext'
  simp [ByteArray.data_extract, List.extract_eq_take_drop]
theorem drop_ba (r : ByteArray) : (r.extract 64 r.size).data.toList = r.data.toList.drop 64 := by
  simp [ByteArray.data_extract, List.extract_eq_take_drop]
  exact List.take_of_length_le (by simp)
/-- What is absorbed first is mixed first. -/
theorem mixAll_absorb : ∀ (m : Nat) (f : Nat → Int) (r : ByteArray) (t : List UInt8) (k : Nat), r.size ≤ m → r.size + t.length ≤ k →
    mixAll k f (r.data.toList ++ t) = mixAll k (absorb m f r).1 ((absorb m f r).2.data.toList ++ t) ∧ (absorb m f r).2.size ≤ r.size ∧ (absorb m f r).2.size % 64 = r.size % 64
  | 0, f, r, t, k, h1, h2 => ⟨rfl, Nat.le_refl _, rfl⟩
  | m + 1, f, r, t, k, h1, h2 => by
    unfold absorb
    by_cases h : r.size < 64
    · rw [if_pos h]
      exact ⟨rfl, Nat.le_refl _, rfl⟩
    · rw [if_neg h]
      have hsz : (r.extract 64 r.size).size = r.size - 64 := by simp
      obtain ⟨i1, i2, i3⟩ := mixAll_absorb m (mixR (r.extract 0 64) f) (r.extract 64 r.size) t k (by omega) (by omega)
      refine ⟨?_, by omega, by omega⟩
      rw [← i1]
      obtain ⟨k', rfl⟩ : ∃ k', k = k' + 1 := ⟨k - 1, by omega⟩
      have hl : r.data.toList.length = r.size := by simp
      rw [mixAll_step k' f _ (by simp; omega)]
      rw [List.take_append_of_le_length (by omega), List.drop_append_of_le_length (by omega), take_ba, drop_ba]
      refine mixAll_fuel _ _ _ _ ?_ ?_
      · simp; omega
      · simp; omega
theorem remF_mod (a b : Nat) (h : a % 64 = b % 64) : remF a = remF b := by unfold remF; rw [h]
theorem of_whole (s : ByteArray) : ofB [s] = digB (mixAll (wholeL s.data.toList).length iv (wholeL s.data.toList)) := by
  have hl : s.data.toList.length = s.size := by simp
  have hq : addsR [s] = ((absorb s.size iv s).1, (absorb s.size iv s).2, ((s.size : Nat) : Int)) := by
    show addR (iv, .empty, 0) s = _
    unfold addR
    simp
  unfold ofB
  rw [hq]
  show digB (sumF (absorb s.size iv s).1 (absorb s.size iv s).2 ((s.size : Nat) : Int)) = _
  congr 1
  unfold sumF
  generalize hb : absorb s.size iv s = q
  have key := fun t k h => mixAll_absorb s.size iv s t k (Nat.le_refl _) h
  rw [hb] at key
  have hrl : q.2.data.toList.length = q.2.size := by simp
  have hm : q.2.size ≤ s.size ∧ q.2.size % 64 = s.size % 64 := ((key [] s.size (by simp)).2)
  have htail : wholeL s.data.toList = s.data.toList ++ ([128] ++ List.replicate (remF (q.2.size + 1)) 0 ++ lensL ((s.size : Nat) : Int) 8) := by
    unfold wholeL padR
    have : remF (s.data.toList ++ [128]).length = remF (q.2.size + 1) := remF_mod _ _ (by simp; omega)
    rw [this, hl]
    simp
  have htl2 : tailL q.2 ((s.size : Nat) : Int) = q.2.data.toList ++ ([128] ++ List.replicate (remF (q.2.size + 1)) 0 ++ lensL ((s.size : Nat) : Int) 8) := by
    unfold tailL padR
    have : (q.2.data.toList ++ [128]).length = q.2.size + 1 := by simp
    rw [this]
    simp
  rw [htail, htl2]
  clear htail htl2
  generalize [128] ++ List.replicate (remF (q.2.size + 1)) 0 ++ lensL ((s.size : Nat) : Int) 8 = tl
  have k1 := key tl (s.data.toList ++ tl).length (by rw [List.length_append, hl]; exact Nat.le_refl _)
  rw [k1.1]
  refine mixAll_fuel _ _ _ _ (Nat.le_refl _) ?_
  rw [List.length_append, List.length_append, hl, hrl]
  omega
end Go.Proofs.YthglfmacjoecgaaGreatDoor
namespace Go.Proofs.YthglfmacjoecgaaGreatDoor
open Go.RowKit

section
variable {P : Program} {w : World} {ops : Array Oper} {rest : List Oper} {o : Oper} {a : Act} {Q : Exit → Act → World → Prop}
theorem wpList_build1 (hg : o.guard = none) (t : TypeId) (xs : Array (Nat × Operand)) (hop : o.op = Op.build t xs) (z : Value) (hr : (Instr.build t (xs.map fun p => (p.1, a.eval p.2))).run P w = .ok z w)
    (h : wpList P ops Q rest (a.put o.dst z) w) : wpList P ops Q (o :: rest) a w := by
  refine wpList_plain hg fun K' hK' => ?_
  unfold Oper.wp
  have hr' : Sem.run P (Instr.build t (xs.map fun (i, x) => (i, a.eval x))) w = .ok z w := hr
  simp only [execOp, hop, Sem.run_bind, hr', Result.andThen, Sem.run_pure, Oper.upon]
  exact hK' _ _ h
end

set_option maxRecDepth 100000 in
set_option maxHeartbeats 2000000 in
theorem consts_any (w : World) : Calls Tryz.prog 108 #[] w (Rets (.agg (rowF 64 kf)) (Chg (fun _ => False) w)) := by
  go_enter Tryz.func108, Tryz.ntmps108
  go_wp2_with (first | (refine wpList_alloc0 rfl 184 rfl zc83 (alloc83 _) ?_; intro w4 ha4 hs4 hc4) | (refine wpList_build1 rfl 184 _ rfl (.agg (rowF 64 kf)) (by kernel_rfl) ?_) | (refine wpList_store0 rfl 184 _ _ rfl w.heap.size zc83 (rowF 64 kf) rfl rfl ha4 (by rw [rowF_size]; exact size83) rfl (rowF_one _ _) ?_; intro w5 ha5 hs5 hc5))
  refine bodyPost_ret (v := .agg (rowF 64 kf)) ?_ rfl ⟨rfl, ?_⟩
  · refine results_row Tryz.results108 _ _ w.heap.size rfl _ (run_loadVar_row _ w.heap.size 184 184 _ (0, 0) (.array 64 176) ha5 Tryz.underlying184 rfl (by rw [rowF_size]; kernel_rfl))
  · exact hc4.trans hc5 (fun i hi h => by omega)
end Go.Proofs.YthglfmacjoecgaaGreatDoor
namespace Go.Proofs.YthglfmacjoecgaaGreatDoor
open Go.RowKit

theorem build37 (w : World) : (Instr.build 57 #[]).run Tryz.prog w = .ok (.agg (rowB 32 (fun _ => 0))) w := by kernel_rfl
def strLen : Value → Nat
  | .string s => s.size
  | _ => 0
theorem elU8r : ElT Tryz.prog 125 5 1 1 := .mk' (z := .int .u8 0) Tryz.underlying125 (by kernel_rfl) rfl (by decide) rfl
theorem owns_emptyM (w : World) (e : TypeId) (size : Nat) : (w.alloc (.cells #[] e)).ownsRow 0 e size (.slice (some ⟨w.heap.size, 0, none⟩) 0 0) 0 [] :=
  ⟨by simp, .inr ⟨w.heap.size, 0, #[], rfl, Nat.zero_le _, heap_alloc_new w _, Nat.le_refl _, Nat.zero_le _, by simp, by simp⟩⟩

section
variable {P : Program} {w : World} {ops : Array Oper} {rest : List Oper} {o : Oper} {a : Act} {Q : Act → Prop}
theorem wpStill_load0 (hg : o.guard = none) (t : TypeId) (x : Operand) (hop : o.op = Op.load t x) (b : Nat) (cs : Array Value) (d : TypeDesc) (hx : a.eval x = .pointer (some ⟨b, 0, none⟩)) {T : TypeId} {fz : Nat × Nat} (hb : w.heap[b]? = some (.cells cs T fz))
    (hu : P.underlying t = some d) (hd : (match d with | .struct _ | .array _ _ => true | _ => false) = true) (hi : (P.info? t).map (·.size) = some cs.size)
    (h : wpStill P ops w Q rest (a.put o.dst (.agg cs))) : wpStill P ops w Q (o :: rest) a := by
  unfold wpStill
  rw [if_pos (by simp [Region.wanted, hg])]
  unfold Oper.still
  simp only [execOp, hop, hx, Instr.loadAt, Instr.sureAddr, Sem.run_bind, Sem.run_pure, Result.andThen_ok, run_loadVar_row w b T t cs fz d hb hu hd hi]
  exact ⟨rfl, h⟩
end

set_option maxRecDepth 100000 in
set_option maxHeartbeats 4000000 in
theorem rof_any (s : ByteArray) (hs : s.size ≤ 100000) (w : World) : Calls Tryz.prog 70 #[.string s] w (Rets (.agg (rowB 32 (ofB [s]))) (Chg (fun _ => False) w)) := by
  rw [of_whole]
  have hsz : s.data.toList.length = s.size := by simp
  go_enter Tryz.func70, Tryz.ntmps70
  go_wp2_with (first | (refine wpList_alloc0 rfl 57 rfl (rowB 32 (fun _ => 0)) (alloc37 _) ?_; intro w1 ha1 hs1 hc1))
  go_loop [0] (fun sv => ∃ (b : ByteArray) (j : Nat), sv = .string b ∧ b.data.toList = s.data.toList ++ 128 :: List.replicate j 0 ∧ b.size = s.size + 1 + j ∧ j + remF (s.size + 1 + j) = remF (s.size + 1)) (fun sv => remF (strLen sv))
  case atStart => exact ⟨_, 0, rfl, by simp [ByteArray.data_append], by rw [ByteArray.size_append]; rfl, by simp⟩
  case round =>
    obtain ⟨b, j, rfl, hb, hbs, hj⟩ := hrel
    have hr64 := remF_lt (s.size + 1)
    have ht : (b.size : Int).tmod 64 = (b.size : Int) % 64 := Int.tmod_eq_emod_of_nonneg (by omega)
    have hbb : b.size ≤ 200000 := by omega
    have hz1 : ¬ 9223372036854775807 < b.size + 1 := by omega
    have hz8 : ¬ 9223372036854775807 < b.size + 8 := by omega
    by_cases h56 : b.size % 64 = 56
    · have hb56 : ((b.size : Int) % 64 == 56) = true := by simpa using (show (b.size : Int) % 64 = 56 by omega)
      have hst := pad_stop h56
      have hpad : b.data.toList = padR (s.data.toList ++ [128]) := by
        rw [hb]
        unfold padR
        have e1 : (s.data.toList ++ [128]).length = s.size + 1 := by simp
        rw [hbs] at hst
        rw [e1, ← hj, hst]
        simp
      have HB := hid hpad
      have HBS := hid hbs
      clear hpad hb hj hst hbs
      go_wp2_with fail
      have hown0 := owns_emptyM w1 5 1
      rw [hs1] at hown0
      have HO := hid hown0
      have HC0 := hid ((Chg.refl (fun k => w.heap.size + 1 ≤ k) w1).alloc (.cells #[] 5))
      clear hown0
      go_loopw [4, 5] (fun v i wr => ∃ k : Nat, k ≤ 8 ∧ i = .int .i64 (7 - (k : Int)) ∧ wr.ownsRow 0 5 1 v k ((lensL (s.size : Nat) k).map bv8) ∧ (∀ b, v.ownBlock = some b → w.heap.size + 1 ≤ b) ∧ Chg (fun k => w.heap.size + 1 ≤ k) w1 wr) (fun _ i _ => (intOf i + 1).toNat)
      case atStart => exact ⟨0, by decide, rfl, HO.out, by simp [Value.ownBlock], HC0.out⟩
      case round =>
        obtain ⟨k, hk, rfl, hown, hov, hch⟩ := hrel
        have HV := hid hov
        have HCH := hid hch
        clear hov hch
        by_cases hkn : k < 8
        · have q0 : (0 : Int) ≤ 7 - (k : Int) := by omega
          obtain ⟨m, hm⟩ : ∃ m : Nat, m = 8 * (7 - k) := ⟨_, rfl⟩
          have v1 : IntKind.i64.wrap (8 * (s.size : Int)) = 8 * (s.size : Int) := IntWalk.i64_in _ (by omega)
          have v2 : IntKind.i64.wrap (8 * (7 - (k : Int))) = (m : Int) := by rw [IntWalk.i64_in _ (by omega)]; omega
          have m1 : min m 64 = m := by omega
          have HL : Hid (8 * (s.size : Int) / 2 ^ m % 256 = ((lenB (s.size : Nat) k).toNat : Int)) := by
            show _ = _
            rw [lenB_val, hm, IntKind.wrap_u64, IntKind.wrap_u64]
            rw [show ((((s.size : Nat) : Int) % 18446744073709551616 * 8) % 18446744073709551616) = 8 * (s.size : Int) by omega]
          clear hm
          go_wp2_with (refine wpList_append_new rfl _ _ 125 rfl elU8r hown rfl _ 1 1 rfl rfl rfl (by unfold maxLen; omega) (by omega) (by decide) ?_; intro g1 cap1 w2 hown1 hchg hg1)
          go_roundw
          case rel =>
            refine ⟨k + 1, by omega, by congr 1; omega, ?_, ?_, HCH.out.trans hchg (fun i hi h => HV.out i h)⟩
            · rw [lensL_next, List.map_append]
              rw [HL.out] at hown1
              exact hown1
            · intro b hb
              simp [Value.ownBlock] at hb
              subst hb
              rcases hg1 with h | h
              · exact HV.out _ h
              · exact Nat.le_trans (by have := HCH.out.size; omega) h
          case measure => simp [intOf]; omega
        · obtain rfl : k = 8 := by omega
          have hlo : ¬ (0 : Int) ≤ 7 - ((8 : Nat) : Int) := by omega
          have hlen8 : (lensL (s.size : Nat) 8).length = 8 := by simp [lensL]
          obtain ⟨g8, cap8, rfl, hcap8, hg8⟩ := owns_some hown (by decide)
          have hconv := run_convert_bytes_back (P := Tryz.prog) wr 125 9 5 ⟨g8, 0, none⟩ cap8 (lensL (s.size : Nat) 8) Tryz.underlying125 Tryz.underlying5 Tryz.underlying9 (fun j hj => by
            have hadd : (⟨g8, 0, none⟩ : Addr).add j = ⟨g8, j, none⟩ := by unfold Addr.add; split <;> simp_all
            have := hown.cellAt j (by rw [hlen8] at hj; omega)
            rw [hadd, this]
            simp [bv8, hj])
          rw [hlen8] at hconv
          have zl : (ByteArray.mk (lensL (s.size : Nat) 8).toArray).size = 8 := by show (lensL (s.size : Nat) 8).toArray.size = 8; simp [lensL]
          have hG0 := heap_alloc_new' wr (.cells (rowF 8 iv) 177)
          rw [iv_row] at hG0
          have hbw : b.size = s.size + 1 + remF (s.size + 1) := by
            have h1 := congrArg List.length HB.out
            unfold padR at h1
            simp at h1
            omega
          obtain ⟨X, hX⟩ : ∃ X : ByteArray, X = b ++ ⟨(lensL (s.size : Nat) 8).toArray⟩ := ⟨_, rfl⟩
          have hXl : X.data.toList = wholeL s.data.toList := by
            rw [hX, ByteArray.data_append, Array.toList_append, HB.out]
            unfold wholeL
            rw [hsz]
          have hXs : X.size = b.size + 8 := by rw [hX, ByteArray.size_append]; show b.size + (lensL (s.size : Nat) 8).toArray.size = _; simp [lensL]
          have hr64' := remF_lt (s.size + 1)
          have HXL := hid hXl
          have HXS := hid hXs
          have HH1 := hid hs1
          have HG0 := hid hG0
          have HH0 := hid ha1
          have hw8 : wr.heap.size < (wr.alloc (.cells #[.int .u32 1779033703, .int .u32 3144134277, .int .u32 1013904242, .int .u32 2773480762, .int .u32 1359893119, .int .u32 2600822924, .int .u32 528734635, .int .u32 1541459225] 177)).heap.size := by simp
          have HW8 := hid hw8
          clear hXl hXs hw8 hG0 ha1 hown hcap8 hg8
          go_wp2_with (first | (go_at_call 108; refine (consts_any _).mono ?_; rintro e w2 ⟨rfl, hc2⟩) | (refine wpList_alloc0 rfl 184 rfl zc83 (alloc83 _) ?_; intro w3 ha3 hs3 hc3) | (refine wpList_store0 rfl 184 _ _ rfl w2.heap.size zc83 (rowF 64 kf) rfl rfl ha3 (by rw [rowF_size]; exact size83) rfl (rowF_one _ _) ?_; intro w4 ha4 hs4 hc4))
          rw [← hX]
          clear hX
          have hG4 := (hc4.obj (hc3.obj (hc2.obj HG0.out (fun h => h)) (fun h => h)) (by have := HW8.out; have := hc2.size; omega))
          have hd4 : w4.heap[w.heap.size]? = some (.cells (rowB 32 (fun _ => 0)) 57 (0, 0)) := hc4.obj (hc3.obj (hc2.obj (heap_alloc_old' (HCH.out.obj HH0.out (by show ¬ w.heap.size + 1 ≤ w.heap.size; omega)) _) (fun h => h)) (fun h => h)) (by have := HW8.out; have := hc2.size; have := HCH.out.size; omega)
          have hcw4 : Chg (fun _ => False) w w4 := (((hc1.trans HCH.out (fun i hi h => by have : w.heap.size + 1 ≤ i := h; omega)).alloc _).trans hc2 (fun _ _ h => h)).trans ((hc3.mono (fun _ _ h => h.elim)).trans hc4 (fun _ _ h => h)) (fun i hi h => by have := hc2.size; have := HW8.out; have := HCH.out.size; have := hc1.size; omega)
          obtain ⟨G, hG⟩ : ∃ G, G = wr.heap.size := ⟨_, rfl⟩
          obtain ⟨K, hK⟩ : ∃ K, K = w2.heap.size := ⟨_, rfl⟩
          have hGK : G < K := by have := HW8.out; have := hc2.size; omega
          have hdG : w.heap.size < G := by have := HCH.out.size; omega
          rw [← hG] at hG4 ⊢
          rw [← hK] at ha4 ⊢
          have HG4 := hid hG4
          have HD4 := hid hd4
          have HK4 := hid ha4
          have HC4 := hid hcw4
          have hX64 : X.size % 64 = 0 := by have := HXS.out; omega
          have hXb : X.size ≤ 300000 := by have := HXS.out; omega
          have HX64 := hid hX64
          clear hz1 hz8 hbb ht zl hlen8 hconv hb56 hr64 hr64' hbw h56
          clear hG4 hd4 ha4 hcw4 hc2 hc3 hc4 hs3 hs4 hG hK hX64 ha3
          go_loopw [8] (fun i wx => ∃ (k : Nat) (f' : Nat → Int), i = .int .i64 ((64 * k : Nat) : Int) ∧ 64 * k ≤ X.size ∧ wx.heap[G]? = some (.cells (rowF 8 f') 177 (0, 0)) ∧ mixAll X.size iv (wholeL s.data.toList) = mixAll X.size f' ((wholeL s.data.toList).drop (64 * k)) ∧ Chg (fun q => q = G) w4 wx) (fun i _ => X.size - (intOf i).toNat)
          case atStart => exact ⟨0, iv, rfl, Nat.zero_le _, by rw [iv_row]; exact HG4.out, rfl, Chg.refl _ _⟩
          case round =>
            obtain ⟨k, f', rfl, hk, hbg, hmx, hchg⟩ := hrel
            obtain ⟨q, hq⟩ : ∃ q, q = 64 * k := ⟨_, rfl⟩
            rw [← hq] at hk hmx ⊢
            have HQ := hid hq
            clear hq
            by_cases hkn : q < X.size
            · have hkn' : (q : Int) < (X.size : Int) := by omega
              have hq64 : q + 64 ≤ X.size := by have := HX64.out; have := HQ.out; omega
              have hq1 : (q : Int) + 64 ≤ (X.size : Int) := by omega
              have hq0 : (0 : Int) ≤ (q : Int) + 64 := by omega
              have hq2 : (q : Int) ≤ (q : Int) + 64 := by omega
              have hw1 : wrap64 ((q : Int) + 64) = (q : Int) + 64 := by unfold wrap64; omega
              have hw2 : IntKind.i64.wrap ((q : Int) + 64) = (q : Int) + 64 := IntWalk.i64_in _ (by omega)
              have hq3 : ((q : Int) + 64).toNat = q + 64 := by omega
              have hbk := hchg.obj HK4.out (by omega)
              have HBG := hid hbg
              have HBK := hid hbk
              have HMX := hid hmx
              have HCG := hid hchg
              clear hbg hmx hchg hbk
              go_wp2_with fail
              refine wp_region_still_tail 7 (by kernel_rfl) (by kernel_rfl) ?_
              simp only [List.take_succ_cons, List.take_zero, List.drop_succ_cons, List.drop_zero]
              refine wpStill_load0 rfl 177 _ rfl G (rowF 8 f') (.array 8 176) rfl HBG.out Tryz.underlying177 rfl (by rw [rowF_size]; kernel_rfl) ?_
              refine wpStill_load0 rfl 184 _ rfl K (rowF 64 kf) (.array 64 176) rfl HBK.out Tryz.underlying184 rfl (by rw [rowF_size]; kernel_rfl) ?_
              repeat still_step
              try refine wpStill_nil ?_
              change wpList _ _ _ _ _ wr.drew
              have hbs64 : (X.extract q (q + 64)).size = 64 := by simp; omega
              go_wp2_with (first | (go_at_call 109; refine (block_any (X.extract q (q + 64)) hbs64 f' _).mono ?_; rintro e w9 ⟨rfl, hc9⟩; have hb9 := hc9.obj (HBG.out : wr.drew.heap[G]? = _) (fun h => h)) | (refine wpList_store0 rfl 177 _ _ rfl G (rowF 8 f') (rowF 8 (mixR (X.extract q (q + 64)) f')) rfl rfl hb9 (by rw [rowF_size]; exact size73) rfl (rowF_one _ _) ?_; intro w10 hb10 hs10 hc10))
              have HMX2 : Hid (mixAll X.size iv (wholeL s.data.toList) = mixAll X.size (mixR (X.extract q (q + 64)) f') ((wholeL s.data.toList).drop (q + 64))) := by
                show _ = _
                rw [HMX.out, ← HXL.out]
                have hXl : X.data.toList.length = X.size := by simp
                obtain ⟨m, hm⟩ : ∃ m, X.size = m + 1 := ⟨X.size - 1, by omega⟩
                have h1 : mixAll X.size f' (X.data.toList.drop q) = mixAll m (mixR ⟨((X.data.toList.drop q).take 64).toArray⟩ f') ((X.data.toList.drop q).drop 64) := by
                  rw [hm]
                  exact mixAll_step m f' _ (by rw [List.length_drop, hXl]; omega)
                have h2 : (⟨((X.data.toList.drop q).take 64).toArray⟩ : ByteArray) = X.extract q (q + 64) := by
                  apply ByteArray.ext
                  apply Array.ext'
                  simp [ByteArray.data_extract, List.extract_eq_take_drop]
                rw [h1, h2, List.drop_drop]
                exact mixAll_fuel _ _ _ _ (by rw [List.length_drop, hXl]; omega) (by rw [List.length_drop, hXl]; omega)
              have HCG2 := hid ((HCG.out.drew.trans hc9 (fun _ _ h => h.elim)).trans hc10 (fun _ _ h => h))
              have HB10 := hid hb10
              clear hb10 hs10 hc10 hc9 hb9
              go_wp2_with fail
              go_roundw
              case rel => exact ⟨k + 1, _, by have := HQ.out; congr 1; omega, by have := HQ.out; omega, HB10.out, by rw [show 64 * (k + 1) = q + 64 by have := HQ.out; omega]; exact HMX2.out, HCG2.out⟩
              case measure => simp [intOf]; omega
            · obtain rfl : q = X.size := by omega
              have hfin : mixAll X.size iv (wholeL s.data.toList) = f' := by
                rw [hmx]
                refine mixAll_end _ _ _ ?_
                rw [← HXL.out]
                simp
              have HFIN := hid hfin
              have hd5 := hchg.obj HD4.out (by omega)
              have HCW5 := hid (HC4.out.trans hchg (fun i hi h => by omega))
              have HBG := hid hbg
              have HD5 := hid hd5
              have hGl := heap_lt hbg
              clear hbg hchg hmx hfin hd5 HQ
              go_wp2_with (first | (refine wpList_build0 rfl 57 rfl (.agg (rowB 32 (fun _ => 0))) (build37 _) ?_) | (refine wpList_alloc0 rfl 57 rfl (rowB 32 (fun _ => 0)) (alloc37 _) ?_; intro w5 ha5 hs5 hc5) | (refine wpList_store0 rfl 57 _ _ rfl wr.heap.size (rowB 32 (fun _ => 0)) (rowB 32 (fun _ => 0)) rfl rfl ha5 (by rw [rowB_size]; exact size37) rfl (rowB_one _ _) ?_; intro w6 ha6 hs6 hc6))
              obtain ⟨D, hD⟩ : ∃ D, D = wr.heap.size := ⟨_, rfl⟩
              rw [← hD] at ha6 hc6 hGl ⊢
              have hbg6 := hc6.obj (hc5.obj HBG.out (fun h => h)) (by omega)
              have hd6 := hc6.obj (hc5.obj HD5.out (fun h => h)) (by omega)
              have hcw6 : Chg (fun _ => False) w w6 := (HCW5.out.trans hc5 (fun _ _ h => h)).trans hc6 (fun i hi h => by omega)
              have HBG6 := hid hbg6
              have HD6 := hid hd6
              have HA6 := hid ha6
              have HCW6 := hid hcw6
              have hwD : w.heap.size < D := by omega
              clear hbg6 hd6 ha6 hcw6 hc5 hc6 ha5 hs5 hs6 HBG HD5 HCW5 hD
              go_loopw [10] (fun i wx => ∃ k : Nat, k ≤ 32 ∧ i = .int .i64 k ∧ wx.heap[D]? = some (.cells (rowB 32 (fun i => if i < k then digB f' i else 0)) 57 (0, 0)) ∧ Chg (fun q => q = D) w6 wx) (fun i _ => 32 - (intOf i).toNat)
              case atStart => exact ⟨0, Nat.zero_le _, rfl, by rw [HA6.out]; rfl, Chg.refl _ _⟩
              case round =>
                obtain ⟨k, hk, rfl, hblk, hch⟩ := hrel
                by_cases hkn : k < 32
                · have hkn' : (k : Int) < 32 := by omega
                  have hq : IntKind.i64.wrap ((k : Int).tdiv 4) = ((k / 4 : Nat) : Int) := by rw [IntWalk.i64_quo _ _ (by omega)]; omega
                  have hr : (k : Int).tmod 4 = ((k % 4 : Nat) : Int) := by rw [Int.tmod_eq_emod_of_nonneg (by omega)]; omega
                  have hq8 : ((k / 4 : Nat) : Int) < 8 := by omega
                  have c1 := row_cell (hch.obj HBG6.out (by omega)) (k / 4) (by omega)
                  have cd := rowB_cell hblk k hkn
                  have fd := frozen_of hblk k
                  obtain ⟨r, hrr⟩ : ∃ r, r = k % 4 := ⟨_, rfl⟩
                  have hr4 : r < 4 := by omega
                  obtain ⟨m, hm⟩ : ∃ m, m = 24 - r * 8 := ⟨_, rfl⟩
                  have v1 : IntKind.i64.wrap (8 * (r : Int)) = 8 * (r : Int) := IntWalk.i64_in _ (by omega)
                  have v2 : IntKind.i64.wrap (24 - 8 * (r : Int)) = (m : Int) := by rw [IntWalk.i64_in _ (by omega)]; omega
                  have m1 : min m 32 = m := by omega
                  rw [← hrr] at hr
                  have HDV : Hid (f' (k / 4) / 2 ^ m % 256 = ((digB f' k).toNat : Int)) := by
                    show _ = _
                    rw [digB_val, hm, hrr]
                  have HB := hid hblk
                  have HC := hid hch
                  clear hblk hch hrr hm
                  go_wp2_with fail
                  go_roundw
                  case rel =>
                    refine ⟨k + 1, by omega, by go_num, ?_, HC.out.setCell (p := ⟨D, k, none⟩) (fun _ => rfl) _⟩
                    rw [HDV.out, heap_set_same HB.out, rowB_set]
                    refine congrArg (fun x => some (Obj.cells x _ _)) (rowB_congr fun i hi => ?_)
                    by_cases e : i = k
                    · subst e; rw [if_pos rfl, if_pos (by omega)]
                    · rw [if_neg e]
                      by_cases e2 : i < k
                      · rw [if_pos e2, if_pos (by omega)]
                      · rw [if_neg e2, if_neg (by omega)]
                  case measure => simp [intOf]; omega
                · obtain rfl : k = 32 := by omega
                  have hfin2 : wr.heap[D]? = some (.cells (rowB 32 (digB f')) 57 (0, 0)) := by
                    rw [hblk]; exact congrArg (fun x => some (Obj.cells x _ _)) (rowB_congr fun i hi => if_pos hi)
                  have hdd := hch.obj HD6.out (by omega)
                  have HCX := hid hch
                  clear hblk hch
                  go_wp2_with (first | (refine wpList_load0 rfl 57 _ rfl D (rowB 32 (digB f')) (.array 32 5) rfl hfin2 Tryz.underlying57 rfl (by rw [rowB_size]; kernel_rfl) ?_) | (refine wpList_store0 rfl 57 _ _ rfl w.heap.size (rowB 32 (fun _ => 0)) (rowB 32 (digB f')) rfl rfl hdd (by rw [rowB_size]; exact size37) rfl (rowB_one _ _) ?_; intro w9 hb9 hs9 hc9))
                  refine bodyPost_ret (v := .agg (rowB 32 (digB f'))) ?_ rfl ⟨?_, ?_⟩
                  · refine results_row Tryz.results70 _ _ w.heap.size rfl _ (run_loadVar_row _ w.heap.size 57 57 _ (0, 0) (.array 32 5) hb9 Tryz.underlying57 rfl (by rw [rowB_size]; kernel_rfl))
                  · have hLX : (wholeL s.data.toList).length = X.size := by rw [← HXL.out]; simp
                    rw [hLX, HFIN.out]
                  · exact (HCW6.out.trans HCX.out (fun i hi h => by omega)).trans hc9 (fun i hi h => by omega)
    · have hb56 : ((b.size : Int) % 64 == 56) = false := by simpa using (show ¬ (b.size : Int) % 64 = 56 by omega)
      have hnx := pad_next h56
      have hx1 : ¬ (b.size : Int) % 64 = 56 := by omega
      have hx2 : decide ((b.size : Int) % 64 = 56) = false := decide_eq_false hx1
      have hx3 : (!((b.size : Int) % 64 == 56)) = true := by rw [hb56]; rfl
      have HB := hid hb
      have HBS := hid hbs
      have HJ := hid hj
      rw [hbs] at hnx
      have HNX := hid hnx
      clear hb hj hbs hnx
      go_wp2_with fail
      go_round
      case rel => exact ⟨_, j + 1, rfl, by rw [ByteArray.data_append, Array.toList_append, HB.out]; simp [List.replicate_succ'], by rw [ByteArray.size_append, HBS.out]; rfl, by have := HJ.out; have := HNX.out; rw [show s.size + 1 + (j + 1) = s.size + 1 + j + 1 by omega]; omega⟩
      case measure =>
        show remF (b ++ _).size < remF b.size
        rw [ByteArray.size_append]
        show remF (b.size + 1) < remF b.size
        rw [HBS.out]
        have := HNX.out
        omega
end Go.Proofs.YthglfmacjoecgaaGreatDoor
namespace Go.Proofs.YthglfmacjoecgaaGreatDoor
open Go.RowKit

/-- A digest's bytes. -/
def bytesS (f : Nat → UInt8) : ByteArray := ⟨((List.range 32).map f).toArray⟩

set_option maxRecDepth 100000 in
set_option maxHeartbeats 2000000 in
theorem rbytes_any (f : Nat → UInt8) (w : World) : Calls Tryz.prog 107 #[.agg (rowB 32 f)] w (Rets (.string (bytesS f)) (Chg (fun _ => False) w)) := by
  go_enter Tryz.func107, Tryz.ntmps107
  go_wp2_with (refine wpList_box1 rfl 57 _ rfl (rowB 32 f) rfl ?_; intro w1 ha1 hs1 hc1)
  have hown0 := owns_emptyM w1 5 1
  rw [hs1] at hown0
  have HO := hid hown0
  have HC0 := hid ((Chg.refl (fun k => w.heap.size + 1 ≤ k) w1).alloc (.cells #[] 5))
  have HA := hid ha1
  clear hown0 ha1
  go_loopw [3, 4] (fun v i wr => ∃ k : Nat, k ≤ 32 ∧ i = .int .i64 k ∧ wr.ownsRow 0 5 1 v k (((List.range k).map f).map bv8) ∧ (∀ b, v.ownBlock = some b → w.heap.size + 1 ≤ b) ∧ Chg (fun k => w.heap.size + 1 ≤ k) w1 wr) (fun _ i _ => 32 - (intOf i).toNat)
  case atStart => exact ⟨0, by decide, rfl, HO.out, by simp [Value.ownBlock], HC0.out⟩
  case round =>
    obtain ⟨k, hk, rfl, hown, hov, hch⟩ := hrel
    have HV := hid hov
    have HCH := hid hch
    by_cases hkn : k < 32
    · have hkn' : (k : Int) < 32 := by omega
      have c1 := rowB_cell (hch.obj HA.out (by show ¬ w.heap.size + 1 ≤ w.heap.size; omega)) k hkn
      clear hov hch
      go_wp2_with (refine wpList_append_new rfl _ _ 125 rfl elU8r hown rfl _ 1 1 rfl rfl rfl (by unfold maxLen; omega) (by omega) (by decide) ?_; intro g1 cap1 w2 hown1 hchg hg1)
      go_roundw
      case rel =>
        refine ⟨k + 1, by omega, by go_num, ?_, ?_, HCH.out.trans hchg (fun i hi h => HV.out i h)⟩
        · rw [List.range_succ, List.map_append, List.map_append]
          exact hown1
        · intro b hb
          simp [Value.ownBlock] at hb
          subst hb
          rcases hg1 with h | h
          · exact HV.out _ h
          · exact Nat.le_trans (by have := HCH.out.size; omega) h
      case measure => simp [intOf]; omega
    · obtain rfl : k = 32 := by omega
      obtain ⟨g8, cap8, rfl, hcap8, hg8⟩ := owns_some hown (by decide)
      have hlen : ((List.range 32).map f).length = 32 := by simp
      have hconv := run_convert_bytes_back (P := Tryz.prog) wr 125 9 5 ⟨g8, 0, none⟩ cap8 ((List.range 32).map f) Tryz.underlying125 Tryz.underlying5 Tryz.underlying9 (fun j hj => by
        have hadd : (⟨g8, 0, none⟩ : Addr).add j = ⟨g8, j, none⟩ := by unfold Addr.add; split <;> simp_all
        have := hown.cellAt j (by rw [hlen] at hj; omega)
        rw [hadd, this]
        rw [hlen] at hj
        simp [bv8, hj])
      rw [hlen] at hconv
      clear hlen hown hov hch
      go_wp2_with fail
      go_ret
      exact ⟨rfl, (hc1.trans HCH.out (fun i hi h => by have : w.heap.size + 1 ≤ i := h; omega))⟩

set_option maxRecDepth 100000 in
set_option maxHeartbeats 2000000 in
theorem rBytes_any (f : Nat → UInt8) (w : World) : Calls Tryz.prog 69 #[.agg (rowB 32 f)] w (Rets (.string (bytesS f)) (Chg (fun _ => False) w)) := by
  go_enter Tryz.func69, Tryz.ntmps69
  go_wp2_with (first | (refine wpList_box1 rfl 57 _ rfl (rowB 32 f) rfl ?_; intro w1 ha1 hs1 hc1) | (refine wpList_load0 rfl 57 _ rfl w.heap.size (rowB 32 f) (.array 32 5) rfl ha1 Tryz.underlying57 rfl (by rw [rowB_size]; kernel_rfl) ?_) | (go_at_call 107; refine (rbytes_any f _).mono ?_; rintro e w2 ⟨rfl, hc2⟩))
  go_ret
  exact ⟨rfl, hc1.trans hc2 (fun _ _ h => h)⟩
end Go.Proofs.YthglfmacjoecgaaGreatDoor
namespace Go.Proofs.YthglfmacjoecgaaGreatDoor
open Go.RowKit

theorem TabsOK.mono {B B' : Nat} {w : World} (h : TabsOK B w) (hB : B ≤ B') : TabsOK B' w := ⟨h.pow, h.wds, Nat.lt_of_lt_of_le h.gp hB, Nat.lt_of_lt_of_le h.gw hB⟩
theorem TabsOK.keep {B : Nat} {w w' : World} (h : TabsOK B w) (hc : Chg (fun _ => False) w w') : TabsOK B w' := h.chg (hc.mono (fun _ _ h => h.elim))
/-- stamp.Of at one text in a row just laid. -/
theorem of_one {B : Nat} (x : ByteArray) (hx : x.size ≤ 100000) (w : World) (hT : TabsOK B w) (hB : B ≤ w.heap.size) :
    Calls Tryz.prog 28 #[.slice (some ⟨w.heap.size, 0, none⟩) 1 1] (w.alloc (.cells #[.string x] 9)) (Rets (.agg (rowB 32 (ofB [x]))) (Chg (fun _ => False) (w.alloc (.cells #[.string x] 9)))) := by
  have hT2 := hT.keep ((Chg.refl (fun _ => False) w).alloc (.cells #[.string x] 9))
  refine of_any _ [x] w.heap.size 1 1 rfl (by simp) (by simp [sumSize]; omega) (fun i hi => ?_) (by simp) hT2.wds (by have := hT.gw; show gWds < _; simp; omega)
  obtain rfl : i = 0 := by simp at hi; omega
  exact cell_of (heap_alloc_new' w _) 0

set_option maxRecDepth 100000 in
set_option maxHeartbeats 2000000 in
theorem srow_any {B : Nat} (ts : List (List UInt8)) (hr : (rowN ts).length ≤ 90000) (hl : ts.length ≤ 1000) (v : Value) (w : World) (hin : NamesAt w v ts) (hT : TabsOK B w) (hB : B ≤ w.heap.size) :
    Calls Tryz.prog 67 #[v] w (Rets (.agg (rowB 32 (ofB [bs (rowN ts)]))) (Chg (fun _ => False) w)) := by
  have hrow : ∀ W, Chg (fun _ => False) w W → Calls Tryz.prog 63 #[v] W (Rets (.string (bs (rowN ts))) (Chg (fun _ => False) W)) := fun W hW => row_any ts hr hl v W (hin.chg hW (fun _ _ h => h))
  have hX : (bs (rowN ts)).size ≤ 100000 := by rw [bs_size]; omega
  obtain ⟨X, hXX⟩ : ∃ X, X = bs (rowN ts) := ⟨_, rfl⟩
  rw [← hXX] at hrow hX ⊢
  have hof : ∀ W, Chg (fun _ => False) w W → Calls Tryz.prog 28 #[.slice (some ⟨W.heap.size, 0, none⟩) 1 1] (W.alloc (.cells #[.string X] 9)) (Rets (.agg (rowB 32 (ofB [X]))) (Chg (fun _ => False) (W.alloc (.cells #[.string X] 9)))) := fun W hW =>
    of_one X hX W (hT.keep hW) (Nat.le_trans hB hW.size)
  have HROW := hid hrow
  have HOF := hid hof
  clear hrow hof hXX hin hT hr
  generalize ofB [X] = D at *
  go_enter Tryz.func67, Tryz.ntmps67
  go_wp2_with (first | (refine wpList_alloc0 rfl 57 rfl (rowB 32 (fun _ => 0)) (alloc37 _) ?_; intro w1 ha1 hs1 hc1) | (go_at_call 63; refine (HROW.out _ hc1).mono ?_; rintro e w2 ⟨rfl, hc2⟩; have hc12 := hc1.trans hc2 (fun _ _ h => h)) | (go_at_call 28; refine (HOF.out _ hc12).mono ?_; rintro e w3 ⟨rfl, hc3⟩; have hc13 := (hc2.alloc (.cells #[.string X] 9)).trans hc3 (fun _ _ h => h); have hblk := hc13.obj ha1 (fun h => h)) | (refine wpList_store0 rfl 57 _ _ rfl w.heap.size (rowB 32 (fun _ => 0)) (rowB 32 D) rfl rfl hblk (by rw [rowB_size]; exact size37) rfl (rowB_one _ _) ?_; intro w5 hb5 hs5 hc5))
  refine bodyPost_ret (v := .agg (rowB 32 D)) ?_ rfl ⟨rfl, ?_⟩
  · exact results_row Tryz.results67 _ _ w.heap.size rfl _ (run_loadVar_row _ w.heap.size 57 57 _ (0, 0) (.array 32 5) hb5 Tryz.underlying57 rfl (by rw [rowB_size]; kernel_rfl))
  · exact (hc1.trans hc13 (fun _ _ h => h)).trans hc5 (fun i hi h => by omega)

set_option maxRecDepth 100000 in
set_option maxHeartbeats 2000000 in
theorem rsrow_any (ts : List (List UInt8)) (hr : (rowN ts).length ≤ 90000) (hl : ts.length ≤ 1000) (v : Value) (w : World) (hin : NamesAt w v ts) :
    Calls Tryz.prog 71 #[v] w (Rets (.agg (rowB 32 (ofB [bs (rowN ts)]))) (Chg (fun _ => False) w)) := by
  have hrow : ∀ W, Chg (fun _ => False) w W → Calls Tryz.prog 110 #[v] W (Rets (.string (bs (rowN ts))) (Chg (fun _ => False) W)) := fun W hW => rrow_any ts hr hl v W (hin.chg hW (fun _ _ h => h))
  have hX : (bs (rowN ts)).size ≤ 100000 := by rw [bs_size]; omega
  obtain ⟨X, hXX⟩ : ∃ X, X = bs (rowN ts) := ⟨_, rfl⟩
  rw [← hXX] at hrow hX ⊢
  have HOF := hid (rof_any X hX)
  have HROW := hid hrow
  clear hrow hXX hin hr
  generalize ofB [X] = D at *
  go_enter Tryz.func71, Tryz.ntmps71
  go_wp2_with (first | (refine wpList_alloc0 rfl 57 rfl (rowB 32 (fun _ => 0)) (alloc37 _) ?_; intro w1 ha1 hs1 hc1) | (go_at_call 110; refine (HROW.out _ hc1).mono ?_; rintro e w2 ⟨rfl, hc2⟩) | (go_at_call 70; refine (HOF.out _).mono ?_; rintro e w3 ⟨rfl, hc3⟩; have hc13 := hc2.trans hc3 (fun _ _ h => h); have hblk := hc13.obj ha1 (fun h => h)) | (refine wpList_store0 rfl 57 _ _ rfl w.heap.size (rowB 32 (fun _ => 0)) (rowB 32 D) rfl rfl hblk (by rw [rowB_size]; exact size37) rfl (rowB_one _ _) ?_; intro w5 hb5 hs5 hc5))
  refine bodyPost_ret (v := .agg (rowB 32 D)) ?_ rfl ⟨rfl, ?_⟩
  · exact results_row Tryz.results71 _ _ w.heap.size rfl _ (run_loadVar_row _ w.heap.size 57 57 _ (0, 0) (.array 32 5) hb5 Tryz.underlying57 rfl (by rw [rowB_size]; kernel_rfl))
  · exact (hc1.trans hc13 (fun _ _ h => h)).trans hc5 (fun i hi h => by omega)
end Go.Proofs.YthglfmacjoecgaaGreatDoor
namespace Go.Proofs.YthglfmacjoecgaaGreatDoor
open Go

abbrev Nm := List UInt8
def nameAt (g : GrR) (i : Nat) : Nm := (g.acts.getD i noAct).name
def insAt (g : GrR) (i : Nat) : List Nm := (g.acts.getD i noAct).ins
def namesL (g : GrR) : List Nm := g.srcs ++ g.acts.map (·.name)
/-- The place of the action of a name. -/
def placeOf (g : GrR) (s : Nm) : Option Nat := g.acts.findIdx? (fun a => a.name == s)

theorem getD_of_lt {α : Type} (l : List α) (d : α) (i : Nat) (h : i < l.length) : l.getD i d = l[i] := by
  simp [List.getD_eq_getElem?_getD, h]
theorem nameAt_lt (g : GrR) (i : Nat) (h : i < g.acts.length) : nameAt g i = g.acts[i].name := by unfold nameAt; rw [getD_of_lt _ _ _ h]
theorem insAt_lt (g : GrR) (i : Nat) (h : i < g.acts.length) : insAt g i = g.acts[i].ins := by unfold insAt; rw [getD_of_lt _ _ _ h]
theorem insAt_ge (g : GrR) (i : Nat) (h : ¬ i < g.acts.length) : insAt g i = [] := by
  unfold insAt
  rw [List.getD_eq_getElem?_getD, List.getElem?_eq_none (by omega)]; rfl

/-- A build that can be but for rings. -/
structure Wov (g : GrR) : Prop where
  ok : grOK g = true
  nd : (namesL g).Nodup
  ins : ∀ a ∈ g.acts, ∀ s ∈ a.ins, s ∈ namesL g

theorem Wov.srcs8 {g : GrR} (h : Wov g) : g.srcs.length ≤ 8 := ((grOK_iff g).1 h.ok).1
theorem Wov.acts12 {g : GrR} (h : Wov g) : g.acts.length ≤ 12 := ((grOK_iff g).1 h.ok).2.1
theorem Wov.inj {g : GrR} (h : Wov g) {i j : Nat} (hi : i < g.acts.length) (hj : j < g.acts.length) (e : nameAt g i = nameAt g j) : i = j := by
  have hn : (g.acts.map (·.name)).Nodup := (List.nodup_append.1 h.nd).2.1
  rw [nameAt_lt g i hi, nameAt_lt g j hj] at e
  have := List.pairwise_iff_getElem.1 hn
  by_cases hij : i = j
  · exact hij
  · rcases Nat.lt_or_gt_of_ne hij with h1 | h1
    · exact absurd (by rw [List.getElem_map, List.getElem_map]; exact e) (this i j (by simpa using hi) (by simpa using hj) h1)
    · exact absurd (by rw [List.getElem_map, List.getElem_map]; exact e.symm) (this j i (by simpa using hj) (by simpa using hi) h1)
theorem Wov.apart {g : GrR} (h : Wov g) {i : Nat} (hi : i < g.acts.length) : nameAt g i ∉ g.srcs := by
  intro hs
  have := (List.nodup_append.1 h.nd).2.2 _ hs (nameAt g i) (by rw [nameAt_lt g i hi]; exact List.mem_map.2 ⟨_, List.getElem_mem hi, rfl⟩)
  exact this rfl

theorem placeOf_some {g : GrR} {s : Nm} {i : Nat} (h : placeOf g s = some i) : i < g.acts.length ∧ nameAt g i = s := by
  unfold placeOf at h
  rw [List.findIdx?_eq_some_iff_getElem] at h
  obtain ⟨hi, he, _⟩ := h
  refine ⟨hi, ?_⟩
  rw [nameAt_lt g i hi]
  simpa using he
theorem placeOf_none {g : GrR} {s : Nm} (h : placeOf g s = none) : ∀ i, i < g.acts.length → nameAt g i ≠ s := by
  unfold placeOf at h
  rw [List.findIdx?_eq_none_iff] at h
  intro i hi e
  rw [nameAt_lt g i hi] at e
  have := h _ (List.getElem_mem hi)
  simp [e] at this
theorem Wov.place {g : GrR} (h : Wov g) {i : Nat} (hi : i < g.acts.length) : placeOf g (nameAt g i) = some i := by
  cases hp : placeOf g (nameAt g i) with
  | none => exact absurd rfl (placeOf_none hp i hi)
  | some j =>
    obtain ⟨hj, e⟩ := placeOf_some hp
    rw [h.inj hj hi e]
theorem mem_names {g : GrR} {s : Nm} : s ∈ namesL g ↔ s ∈ g.srcs ∨ ∃ i, i < g.acts.length ∧ nameAt g i = s := by
  unfold namesL
  rw [List.mem_append, List.mem_map]
  constructor
  · rintro (h | ⟨a, ha, rfl⟩)
    · exact .inl h
    · obtain ⟨i, hi, rfl⟩ := List.mem_iff_getElem.1 ha
      exact .inr ⟨i, hi, nameAt_lt g i hi⟩
  · rintro (h | ⟨i, hi, rfl⟩)
    · exact .inl h
    · exact .inr ⟨_, List.getElem_mem hi, (nameAt_lt g i hi).symm⟩
theorem Wov.insAt {g : GrR} (h : Wov g) {i : Nat} (hi : i < g.acts.length) {s : Nm} (hs : s ∈ insAt g i) : s ∈ namesL g := by
  rw [insAt_lt g i hi] at hs
  exact h.ins _ (List.getElem_mem hi) s hs
theorem Wov.src_or {g : GrR} (h : Wov g) {s : Nm} (hs : s ∈ namesL g) : (s ∈ g.srcs ∧ placeOf g s = none) ∨ ∃ i, i < g.acts.length ∧ nameAt g i = s ∧ placeOf g s = some i ∧ s ∉ g.srcs := by
  rcases mem_names.1 hs with h1 | ⟨i, hi, rfl⟩
  · left
    refine ⟨h1, ?_⟩
    cases hp : placeOf g s with
    | none => rfl
    | some j =>
      obtain ⟨hj, e⟩ := placeOf_some hp
      exact absurd (e ▸ h1) (h.apart hj)
  · exact .inr ⟨i, hi, rfl, h.place hi, h.apart hi⟩

/-- Whether an action can be made, these being made. -/
def readyB (g : GrR) (l : List Nat) (a : ActR) : Bool := !(l.map (nameAt g)).contains a.name && a.ins.all fun s => g.srcs.contains s || (l.map (nameAt g)).contains s
def stepR (g : GrR) (l : List Nat) : Option Nat := g.acts.findIdx? (readyB g l)
def orderGo (g : GrR) : Nat → List Nat → List Nat
  | 0, l => l
  | n + 1, l => match stepR g l with
    | none => l
    | some i => orderGo g n (l ++ [i])
def orderR (g : GrR) : List Nat := orderGo g g.acts.length []

theorem readyB_iff {g : GrR} {l : List Nat} {a : ActR} : readyB g l a = true ↔ (∀ j ∈ l, nameAt g j ≠ a.name) ∧ ∀ s ∈ a.ins, s ∈ g.srcs ∨ ∃ j ∈ l, nameAt g j = s := by
  unfold readyB
  simp [List.all_eq_true]
theorem stepR_some {g : GrR} {l : List Nat} {i : Nat} (h : stepR g l = some i) : i < g.acts.length ∧ (∀ j ∈ l, nameAt g j ≠ nameAt g i) ∧ (∀ s ∈ insAt g i, s ∈ g.srcs ∨ ∃ j ∈ l, nameAt g j = s) ∧
    ∀ k, k < i → readyB g l (g.acts.getD k noAct) = false := by
  unfold stepR at h
  rw [List.findIdx?_eq_some_iff_getElem] at h
  obtain ⟨hi, he, hf⟩ := h
  obtain ⟨r1, r2⟩ := readyB_iff.1 he
  refine ⟨hi, ?_, ?_, fun k hk => ?_⟩
  · rw [nameAt_lt g i hi]; exact r1
  · rw [insAt_lt g i hi]; exact r2
  · rw [getD_of_lt _ _ _ (by omega)]
    simpa using hf k hk
theorem stepR_none {g : GrR} {l : List Nat} (h : stepR g l = none) : ∀ i, i < g.acts.length → readyB g l (g.acts.getD i noAct) = false := by
  unfold stepR at h
  rw [List.findIdx?_eq_none_iff] at h
  intro i hi
  rw [getD_of_lt _ _ _ hi]
  simpa using h _ (List.getElem_mem hi)

/-- Each behind what it stands on. -/
structure Ordd (g : GrR) (l : List Nat) : Prop where
  nd : l.Nodup
  lt : ∀ i ∈ l, i < g.acts.length
  sup : ∀ k (h : k < l.length), ∀ s ∈ insAt g l[k], s ∈ g.srcs ∨ ∃ j, ∃ (hj : j < k), nameAt g (l[j]'(by omega)) = s
theorem Ordd.nil (g : GrR) : Ordd g [] := ⟨List.nodup_nil, by simp, by simp⟩
theorem Ordd.snoc {g : GrR} {l : List Nat} (h : Ordd g l) {i : Nat} (hs : stepR g l = some i) : Ordd g (l ++ [i]) := by
  obtain ⟨h1, h2, h3, _⟩ := stepR_some hs
  refine ⟨?_, ?_, ?_⟩
  · rw [List.nodup_append]
    refine ⟨h.nd, by simp, ?_⟩
    intro a ha b hb
    simp only [List.mem_singleton] at hb
    subst hb
    intro e
    exact h2 a ha (by rw [e])
  · intro j hj
    rcases List.mem_append.1 hj with hj | hj
    · exact h.lt j hj
    · simp only [List.mem_singleton] at hj; subst hj; exact h1
  · intro k hk s hs
    by_cases hkl : k < l.length
    · rw [List.getElem_append_left hkl] at hs
      rcases h.sup k hkl s hs with h4 | ⟨j, hj, h4⟩
      · exact .inl h4
      · exact .inr ⟨j, hj, by rw [List.getElem_append_left (by omega)]; exact h4⟩
    · have hk2 : k = l.length := by simp at hk; omega
      subst hk2
      rw [List.getElem_append_right (by omega)] at hs
      simp only [Nat.sub_self, List.getElem_cons_zero] at hs
      rcases h3 s hs with h4 | ⟨j, hj, h4⟩
      · exact .inl h4
      · obtain ⟨q, hq, rfl⟩ := List.mem_iff_getElem.1 hj
        exact .inr ⟨q, hq, by rw [List.getElem_append_left hq]; exact h4⟩
theorem sub_length {α : Type} [DecidableEq α] : ∀ (l m : List α), l.Nodup → (∀ x ∈ l, x ∈ m) → l.length ≤ m.length
  | [], _, _, _ => Nat.zero_le _
  | x :: l, m, hn, hs => by
    rw [List.nodup_cons] at hn
    have hx := hs x List.mem_cons_self
    have h1 := sub_length l (m.erase x) hn.2 (fun y hy => by
      have hne : y ≠ x := fun e => hn.1 (e ▸ hy)
      exact (List.mem_erase_of_ne hne).2 (hs y (List.mem_cons_of_mem _ hy)))
    rw [List.length_erase_of_mem hx] at h1
    have := List.length_pos_of_mem hx
    simp; omega
theorem nodup_lt_length {l : List Nat} {n : Nat} (hn : l.Nodup) (hl : ∀ i ∈ l, i < n) : l.length ≤ n := by
  have := sub_length l (List.range n) hn (fun i hi => List.mem_range.2 (hl i hi))
  simpa using this
theorem Ordd.le {g : GrR} {l : List Nat} (h : Ordd g l) : l.length ≤ g.acts.length := nodup_lt_length h.nd h.lt
theorem orderGo_ordd (g : GrR) : ∀ (n : Nat) (l : List Nat), Ordd g l → Ordd g (orderGo g n l)
  | 0, l, h => h
  | n + 1, l, h => by
    unfold orderGo
    cases hs : stepR g l with
    | none => exact h
    | some i => exact orderGo_ordd g n _ (h.snoc hs)
theorem nodup_full {l : List Nat} {n : Nat} (hn : l.Nodup) (hl : ∀ i ∈ l, i < n) (h : l.length = n) : ∀ i, i < n → i ∈ l := by
  intro i hi
  by_cases hm : i ∈ l
  · exact hm
  · have := nodup_lt_length (n := n) (List.nodup_cons.2 ⟨hm, hn⟩) (fun j hj => by
      rcases List.mem_cons.1 hj with rfl | hj
      · exact hi
      · exact hl j hj)
    simp at this; omega
theorem Ordd.full {g : GrR} {l : List Nat} (h : Ordd g l) (hl : l.length = g.acts.length) : ∀ i, i < g.acts.length → i ∈ l := nodup_full h.nd h.lt hl
theorem Ordd.stop {g : GrR} {l : List Nat} (h : Ordd g l) (hl : g.acts.length ≤ l.length) : stepR g l = none := by
  cases hs : stepR g l with
  | none => rfl
  | some i =>
    obtain ⟨h1, h2, _⟩ := stepR_some hs
    exact absurd rfl (h2 i (h.full (Nat.le_antisymm h.le hl) i h1))
theorem orderGo_stop (g : GrR) : ∀ (n : Nat) (l : List Nat), Ordd g l → g.acts.length ≤ n + l.length → stepR g (orderGo g n l) = none
  | 0, l, h, hn => h.stop (by omega)
  | n + 1, l, h, hn => by
    unfold orderGo
    cases hs : stepR g l with
    | none => exact hs
    | some i => exact orderGo_stop g n _ (h.snoc hs) (by simp; omega)
theorem orderR_ordd (g : GrR) : Ordd g (orderR g) := orderGo_ordd g _ _ (Ordd.nil g)
theorem orderR_stop (g : GrR) : stepR g (orderR g) = none := orderGo_stop g _ _ (Ordd.nil g) (by simp)
theorem orderGo_more (g : GrR) : ∀ (n m : Nat) (l : List Nat), stepR g (orderGo g n l) = none → n ≤ m → orderGo g m l = orderGo g n l
  | 0, 0, _, _, _ => rfl
  | 0, m + 1, l, h, _ => by
    have h : stepR g l = none := h
    show (match stepR g l with | none => l | some i => orderGo g m (l ++ [i])) = l
    rw [h]
  | n + 1, 0, _, _, hm => by omega
  | n + 1, m + 1, l, h, hm => by
    unfold orderGo at h ⊢
    cases hs : stepR g l with
    | none => rfl
    | some i =>
      rw [hs] at h
      exact orderGo_more g n m _ h (by omega)

/-- Check: the error's number. -/
def dupB (g : GrR) : Bool := !decide (namesL g).Nodup
def missB (g : GrR) : Bool := g.acts.any fun a => a.ins.any fun s => !(namesL g).contains s
def wovenR (g : GrR) : Nat := if grOK g = false then 1 else if dupB g = true then 21 else if missB g = true then 22 else 0
def checkR (g : GrR) : Nat := if wovenR g ≠ 0 then wovenR g else if (orderR g).length ≠ g.acts.length then 23 else 0
theorem wovenR_zero {g : GrR} : wovenR g = 0 ↔ Wov g := by
  unfold wovenR
  constructor
  · intro h
    split at h
    · cases h
    split at h
    · cases h
    split at h
    · cases h
    rename_i h1 h2 h3
    refine ⟨by simpa using h1, by simpa [dupB] using h2, ?_⟩
    intro a ha s hs
    cases hc : (namesL g).contains s with
    | true => simpa using hc
    | false =>
      exfalso
      apply h3
      unfold missB
      rw [List.any_eq_true]
      exact ⟨a, ha, by rw [List.any_eq_true]; exact ⟨s, hs, by rw [hc]; rfl⟩⟩
  · intro h
    rw [if_neg (by rw [h.ok]; simp), if_neg (by simp [dupB, h.nd]), if_neg]
    intro hm
    unfold missB at hm
    rw [List.any_eq_true] at hm
    obtain ⟨a, ha, hm⟩ := hm
    rw [List.any_eq_true] at hm
    obtain ⟨s, hs, hm⟩ := hm
    have := h.ins a ha s hs
    simp [this] at hm
theorem checkR_zero {g : GrR} : checkR g = 0 ↔ Wov g ∧ (orderR g).length = g.acts.length := by
  unfold checkR
  rw [← wovenR_zero]
  by_cases h : wovenR g = 0
  · rw [if_neg (by simp [h])]
    by_cases h2 : (orderR g).length = g.acts.length
    · simp [h, h2]
    · simp [h, h2]
  · rw [if_pos h]; simp [h]
end Go.Proofs.YthglfmacjoecgaaGreatDoor
namespace Go.Proofs.YthglfmacjoecgaaGreatDoor
open Go.RowKit

/-- The place of the first one; -1: there is none. -/
def placeI {α : Type} (P : α → Bool) (l : List α) : Int := match l.findIdx? P with
  | some i => (i : Int)
  | none => -1
theorem placeI_none {α : Type} {P : α → Bool} {l : List α} (h : ∀ x ∈ l, P x = false) : placeI P l = -1 := by
  have : l.findIdx? P = none := by rw [List.findIdx?_eq_none_iff]; intro x hx; simp [h x hx]
  unfold placeI; rw [this]
theorem placeI_at {α : Type} {P : α → Bool} {l : List α} (k : Nat) (hk : k < l.length) (h1 : P l[k] = true) (h2 : ∀ j (h : j < l.length), j < k → P l[j] = false) : placeI P l = k := by
  have : l.findIdx? P = some k := by
    rw [List.findIdx?_eq_some_iff_getElem]
    exact ⟨hk, h1, fun j hj => by simp [h2 j (by omega) hj]⟩
  unfold placeI; rw [this]
theorem placeI_neg {α : Type} {P : α → Bool} {l : List α} : placeI P l < 0 ↔ l.any P = false := by
  unfold placeI
  cases h : l.findIdx? P with
  | none =>
    rw [List.findIdx?_eq_none_iff] at h
    have : l.any P = false := by rw [List.any_eq_false]; intro x hx; simp [h x hx]
    simp [this]
  | some i =>
    rw [List.findIdx?_eq_some_iff_getElem] at h
    obtain ⟨hi, hp, _⟩ := h
    have : l.any P = true := by rw [List.any_eq_true]; exact ⟨_, List.getElem_mem hi, hp⟩
    simp [this]

set_option maxRecDepth 100000 in
set_option maxHeartbeats 1000000 in
theorem ixs_waits (p q : Option Addr) (Pn : Nm → Bool) (v : Value) (ss : List Nm) (w : World) (hin : NamesAt w v ss)
    (hf : ∀ s ∈ ss, ∀ W, Chg (fun _ => False) w W → Calls Tryz.prog 133 #[.string (bs s), .pointer p, .pointer q] W (Rets (.bool (Pn s)) (Chg (fun _ => False) W))) :
    Calls Tryz.prog 92 #[v, .func (.func 133) #[] #[.pointer p, .pointer q]] w (Rets (.int .i64 (placeI Pn ss)) (Chg (fun _ => False) w)) := by
  have hlenI := hin.len
  have hmx := hin.le
  unfold maxLen at hmx
  have H := hid hin
  have HF := hid hf
  clear hin hf
  go_enter Tryz.func92, Tryz.ntmps92
  go_wp2_with fail
  go_loopw [8] (fun i wr => ∃ k : Nat, k ≤ ss.length ∧ i = .int .i64 k ∧ Chg (fun _ => False) w wr ∧ ∀ j (h : j < ss.length), j < k → Pn ss[j] = false) (fun i _ => ss.length - (intOf i).toNat)
  case atStart => exact ⟨0, Nat.zero_le _, rfl, Chg.refl _ _, fun j _ h => absurd h (Nat.not_lt_zero _)⟩
  case round =>
    obtain ⟨k, hk, rfl, hch, hall⟩ := hrel
    have HA := hid hall
    have HC := hid hch
    have S2 := H.out.chg hch (fun _ _ h => h)
    clear hall hch
    by_cases hkn : k < ss.length
    · have hkn' : (k : Int) < ss.length := by omega
      obtain ⟨ad, hix, hadc, hadb⟩ := S2.ix k hkn
      have hn := HF.out ss[k] (List.getElem_mem hkn)
      clear S2
      cases hw : Pn ss[k] with
      | false =>
        rw [hw] at hn
        have HW := hid hw
        clear hw
        generalize bs ss[k] = nm at *
        go_wp2_with (go_at_call 133; refine (hn _ HC.out).mono ?_; rintro e w' ⟨rfl, hc⟩)
        go_roundw
        case rel =>
          refine ⟨k + 1, by omega, by go_num, HC.out.trans hc (fun _ _ h => h), fun j hj hjk => ?_⟩
          by_cases e : j = k
          · subst e; exact HW.out
          · exact HA.out j hj (by omega)
        case measure => simp [intOf]; omega
      | true =>
        have hp : placeI Pn ss = k := placeI_at k hkn hw HA.out
        rw [hw] at hn
        have HP := hid hp
        clear hw hp
        generalize bs ss[k] = nm at *
        go_wp2_with (go_at_call 133; refine (hn _ HC.out).mono ?_; rintro e w' ⟨rfl, hc⟩)
        go_ret
        exact ⟨congrArg (fun z => Ending.returned (.int .i64 z)) HP.out.symm, HC.out.trans hc (fun _ _ h => h)⟩
    · obtain rfl : k = ss.length := by omega
      have hp : placeI Pn ss = -1 := placeI_none (fun s hs => by
        obtain ⟨j, hj, rfl⟩ := List.mem_iff_getElem.1 hs
        exact HA.out j hj hj)
      have HP := hid hp
      clear hp S2
      go_wp2_with fail
      go_ret
      exact ⟨congrArg (fun z => Ending.returned (.int .i64 z)) HP.out.symm, HC.out⟩
theorem cfs_waits (p q : Option Addr) (Pn : Nm → Bool) (v : Value) (ss : List Nm) (w : World) (hin : NamesAt w v ss)
    (hf : ∀ s ∈ ss, ∀ W, Chg (fun _ => False) w W → Calls Tryz.prog 133 #[.string (bs s), .pointer p, .pointer q] W (Rets (.bool (Pn s)) (Chg (fun _ => False) W))) :
    Calls Tryz.prog 57 #[v, .func (.func 133) #[] #[.pointer p, .pointer q]] w (Rets (.bool (ss.any Pn)) (Chg (fun _ => False) w)) := by
  have hix := ixs_waits p q Pn v ss w hin hf
  have hneg := placeI_neg (P := Pn) (l := ss)
  clear hin hf
  generalize placeI Pn ss = r at *
  have HN := hid hneg
  clear hneg
  go_enter Tryz.func57, Tryz.ntmps57
  go_wp2_with (go_at_call 92; refine hix.mono ?_; rintro e w' ⟨rfl, hc⟩)
  go_ret
  refine ⟨?_, hc⟩
  have h1 := HN.out
  by_cases h : r < 0
  · rw [h1.1 h]; simp [h]
  · have h2 : ss.any Pn = true := by
      cases h3 : ss.any Pn with
      | true => rfl
      | false => exact absurd (h1.2 h3) h
    rw [h2]; simp; omega
set_option maxRecDepth 100000 in
set_option maxHeartbeats 1000000 in
theorem ixs_hit (p q : Option Addr) (Pn : Nm → Bool) (v : Value) (ss : List Nm) (w : World) (hin : NamesAt w v ss)
    (hf : ∀ s ∈ ss, ∀ W, Chg (fun _ => False) w W → Calls Tryz.prog 75 #[.string (bs s), .pointer p, .pointer q] W (Rets (.bool (Pn s)) (Chg (fun _ => False) W))) :
    Calls Tryz.prog 92 #[v, .func (.func 75) #[] #[.pointer p, .pointer q]] w (Rets (.int .i64 (placeI Pn ss)) (Chg (fun _ => False) w)) := by
  have hlenI := hin.len
  have hmx := hin.le
  unfold maxLen at hmx
  have H := hid hin
  have HF := hid hf
  clear hin hf
  go_enter Tryz.func92, Tryz.ntmps92
  go_wp2_with fail
  go_loopw [8] (fun i wr => ∃ k : Nat, k ≤ ss.length ∧ i = .int .i64 k ∧ Chg (fun _ => False) w wr ∧ ∀ j (h : j < ss.length), j < k → Pn ss[j] = false) (fun i _ => ss.length - (intOf i).toNat)
  case atStart => exact ⟨0, Nat.zero_le _, rfl, Chg.refl _ _, fun j _ h => absurd h (Nat.not_lt_zero _)⟩
  case round =>
    obtain ⟨k, hk, rfl, hch, hall⟩ := hrel
    have HA := hid hall
    have HC := hid hch
    have S2 := H.out.chg hch (fun _ _ h => h)
    clear hall hch
    by_cases hkn : k < ss.length
    · have hkn' : (k : Int) < ss.length := by omega
      obtain ⟨ad, hix, hadc, hadb⟩ := S2.ix k hkn
      have hn := HF.out ss[k] (List.getElem_mem hkn)
      clear S2
      cases hw : Pn ss[k] with
      | false =>
        rw [hw] at hn
        have HW := hid hw
        clear hw
        generalize bs ss[k] = nm at *
        go_wp2_with (go_at_call 75; refine (hn _ HC.out).mono ?_; rintro e w' ⟨rfl, hc⟩)
        go_roundw
        case rel =>
          refine ⟨k + 1, by omega, by go_num, HC.out.trans hc (fun _ _ h => h), fun j hj hjk => ?_⟩
          by_cases e : j = k
          · subst e; exact HW.out
          · exact HA.out j hj (by omega)
        case measure => simp [intOf]; omega
      | true =>
        have hp : placeI Pn ss = k := placeI_at k hkn hw HA.out
        rw [hw] at hn
        have HP := hid hp
        clear hw hp
        generalize bs ss[k] = nm at *
        go_wp2_with (go_at_call 75; refine (hn _ HC.out).mono ?_; rintro e w' ⟨rfl, hc⟩)
        go_ret
        exact ⟨congrArg (fun z => Ending.returned (.int .i64 z)) HP.out.symm, HC.out.trans hc (fun _ _ h => h)⟩
    · obtain rfl : k = ss.length := by omega
      have hp : placeI Pn ss = -1 := placeI_none (fun s hs => by
        obtain ⟨j, hj, rfl⟩ := List.mem_iff_getElem.1 hs
        exact HA.out j hj hj)
      have HP := hid hp
      clear hp S2
      go_wp2_with fail
      go_ret
      exact ⟨congrArg (fun z => Ending.returned (.int .i64 z)) HP.out.symm, HC.out⟩
theorem cfs_hit (p q : Option Addr) (Pn : Nm → Bool) (v : Value) (ss : List Nm) (w : World) (hin : NamesAt w v ss)
    (hf : ∀ s ∈ ss, ∀ W, Chg (fun _ => False) w W → Calls Tryz.prog 75 #[.string (bs s), .pointer p, .pointer q] W (Rets (.bool (Pn s)) (Chg (fun _ => False) W))) :
    Calls Tryz.prog 57 #[v, .func (.func 75) #[] #[.pointer p, .pointer q]] w (Rets (.bool (ss.any Pn)) (Chg (fun _ => False) w)) := by
  have hix := ixs_hit p q Pn v ss w hin hf
  have hneg := placeI_neg (P := Pn) (l := ss)
  clear hin hf
  generalize placeI Pn ss = r at *
  have HN := hid hneg
  clear hneg
  go_enter Tryz.func57, Tryz.ntmps57
  go_wp2_with (go_at_call 92; refine hix.mono ?_; rintro e w' ⟨rfl, hc⟩)
  go_ret
  refine ⟨?_, hc⟩
  have h1 := HN.out
  by_cases h : r < 0
  · rw [h1.1 h]; simp [h]
  · have h2 : ss.any Pn = true := by
      cases h3 : ss.any Pn with
      | true => rfl
      | false => exact absurd (h1.2 h3) h
    rw [h2]; simp; omega
set_option maxRecDepth 100000 in
set_option maxHeartbeats 1000000 in
theorem ixa_ready (p q : Option Addr) (Pn : ActR → Bool) (v : Value) (xs : List ActR) (iv : Nat → Value) (w : World) (hin : ActsAt w v xs iv)
    (hf : ∀ k (h : k < xs.length), ∀ W, Chg (fun _ => False) w W → Calls Tryz.prog 134 #[actV xs[k] (iv k), .pointer p, .pointer q] W (Rets (.bool (Pn xs[k])) (Chg (fun _ => False) W))) :
    Calls Tryz.prog 135 #[v, .func (.func 134) #[] #[.pointer p, .pointer q]] w (Rets (.int .i64 (placeI Pn xs)) (Chg (fun _ => False) w)) := by
  have hlenI := hin.len
  have hmx := hin.rows.le
  unfold maxLen at hmx
  have H := hid hin
  have HF := hid hf
  clear hin hf
  go_enter Tryz.func135, Tryz.ntmps135
  go_wp2_with fail
  go_loopw [8] (fun i wr => ∃ k : Nat, k ≤ xs.length ∧ i = .int .i64 k ∧ Chg (fun _ => False) w wr ∧ ∀ j (h : j < xs.length), j < k → Pn xs[j] = false) (fun i _ => xs.length - (intOf i).toNat)
  case atStart => exact ⟨0, Nat.zero_le _, rfl, Chg.refl _ _, fun j _ h => absurd h (Nat.not_lt_zero _)⟩
  case round =>
    obtain ⟨k, hk, rfl, hch, hall⟩ := hrel
    have HA := hid hall
    have HC := hid hch
    have S2 := H.out.chg hch (fun _ _ h => h)
    clear hall hch
    by_cases hkn : k < xs.length
    · have hkn' : (k : Int) < xs.length := by omega
      obtain ⟨bb, oo, hix, hlt, e0, e1, e2, hns, hw1, hw2⟩ := S2.at k hkn
      have hn := HF.out k hkn
      unfold actV at hn
      clear S2 hns hw1 hw2
      cases hw : Pn xs[k] with
      | false =>
        rw [hw] at hn
        have HW := hid hw
        clear hw
        generalize bs xs[k].name = nm at *
        generalize bs xs[k].code = cd at *
        go_wp2_with (go_at_call 134; refine (hn _ HC.out).mono ?_; rintro e w' ⟨rfl, hc⟩)
        go_roundw
        case rel =>
          refine ⟨k + 1, by omega, by go_num, HC.out.trans hc (fun _ _ h => h), fun j hj hjk => ?_⟩
          by_cases e : j = k
          · subst e; exact HW.out
          · exact HA.out j hj (by omega)
        case measure => simp [intOf]; omega
      | true =>
        have hp : placeI Pn xs = k := placeI_at k hkn hw HA.out
        rw [hw] at hn
        have HP := hid hp
        clear hw hp
        generalize bs xs[k].name = nm at *
        generalize bs xs[k].code = cd at *
        go_wp2_with (go_at_call 134; refine (hn _ HC.out).mono ?_; rintro e w' ⟨rfl, hc⟩)
        go_ret
        exact ⟨congrArg (fun z => Ending.returned (.int .i64 z)) HP.out.symm, HC.out.trans hc (fun _ _ h => h)⟩
    · obtain rfl : k = xs.length := by omega
      have hp : placeI Pn xs = -1 := placeI_none (fun s hs => by
        obtain ⟨j, hj, rfl⟩ := List.mem_iff_getElem.1 hs
        exact HA.out j hj hj)
      have HP := hid hp
      clear hp S2
      go_wp2_with fail
      go_ret
      exact ⟨congrArg (fun z => Ending.returned (.int .i64 z)) HP.out.symm, HC.out⟩
end Go.Proofs.YthglfmacjoecgaaGreatDoor
namespace Go.Proofs.YthglfmacjoecgaaGreatDoor
open Go

def actIns (g : GrR) (s : Nm) : List Nm := match placeOf g s with
  | some i => insAt g i
  | none => []
/-- All on which an action stands. -/
inductive Needs (g : GrR) (i : Nat) : Nm → Prop
  | base {s : Nm} : s ∈ insAt g i → Needs g i s
  | step {t s : Nm} : Needs g i t → s ∈ actIns g t → Needs g i s
/-- .. over so many others. -/
inductive NeedsD (g : GrR) (i : Nat) : Nat → Nm → Prop
  | base {s : Nm} : s ∈ insAt g i → NeedsD g i 0 s
  | step {d : Nat} {t s : Nm} : NeedsD g i d t → s ∈ actIns g t → NeedsD g i (d + 1) s
theorem Needs.deep {g : GrR} {i : Nat} {s : Nm} (h : Needs g i s) : ∃ d, NeedsD g i d s := by
  induction h with
  | base h => exact ⟨0, .base h⟩
  | step _ h ih => obtain ⟨d, hd⟩ := ih; exact ⟨d + 1, .step hd h⟩
theorem NeedsD.needs {g : GrR} {i d : Nat} {s : Nm} (h : NeedsD g i d s) : Needs g i s := by
  induction h with
  | base h => exact .base h
  | step _ h ih => exact .step ih h
theorem Needs.names {g : GrR} (hw : Wov g) {i : Nat} (hi : i < g.acts.length) {s : Nm} (h : Needs g i s) : s ∈ namesL g := by
  cases h with
  | base h => exact hw.insAt hi h
  | step ht h =>
    unfold actIns at h
    split at h
    · rename_i j hj
      exact hw.insAt (placeOf_some hj).1 h
    · exact absurd h (by simp)
/-- The first step of a way. -/
theorem Needs.front {g : GrR} {i : Nat} {s : Nm} (h : Needs g i s) : s ∈ insAt g i ∨ ∃ t ∈ insAt g i, ∃ j, placeOf g t = some j ∧ Needs g j s := by
  induction h with
  | base h => exact .inl h
  | @step t s ht h ih =>
    right
    rcases ih with h1 | ⟨u, hu, j, hj, h2⟩
    · unfold actIns at h
      split at h
      · rename_i j hj
        exact ⟨t, h1, j, hj, .base h⟩
      · exact absurd h (by simp)
    · exact ⟨u, hu, j, hj, .step h2 h⟩
theorem Needs.behind {g : GrR} {i j : Nat} {t s : Nm} (ht : t ∈ insAt g i) (hj : placeOf g t = some j) (h : Needs g j s) : Needs g i s := by
  induction h with
  | base h => exact .step (.base ht) (by unfold actIns; rw [hj]; exact h)
  | step _ h ih => exact .step ih h

/-- Where a name stands in the order, that an action needs. -/
theorem NeedsD.rank {g : GrR} (hw : Wov g) {l : List Nat} (ho : Ordd g l) {k : Nat} (hk : k < l.length) {d : Nat} {s : Nm} (h : NeedsD g l[k] d s) :
    d ≤ k ∧ (s ∈ g.srcs ∨ ∃ j, ∃ (hj : j < l.length), nameAt g l[j] = s ∧ j + d < k) := by
  induction h with
  | base h =>
    refine ⟨Nat.zero_le _, ?_⟩
    rcases ho.sup k hk _ h with h1 | ⟨j, hj, h1⟩
    · exact .inl h1
    · exact .inr ⟨j, by omega, h1, by omega⟩
  | @step d t s ht h ih =>
    obtain ⟨h1, h2⟩ := ih
    rcases h2 with h2 | ⟨j, hj, rfl, hjd⟩
    · exfalso
      unfold actIns at h
      split at h
      · rename_i q hq
        obtain ⟨hq1, hq2⟩ := placeOf_some hq
        exact hw.apart hq1 (hq2 ▸ h2)
      · exact absurd h (by simp)
    · refine ⟨by omega, ?_⟩
      unfold actIns at h
      rw [hw.place (ho.lt _ (List.getElem_mem hj))] at h
      rcases ho.sup j hj _ h with h3 | ⟨q, hq, h3⟩
      · exact .inl h3
      · exact .inr ⟨q, by omega, h3, by omega⟩
/-- A build that can be. -/
structure Can (g : GrR) : Prop where
  w : Wov g
  full : (orderR g).length = g.acts.length
theorem can_iff {g : GrR} : checkR g = 0 ↔ Can g := checkR_zero.trans ⟨fun h => ⟨h.1, h.2⟩, fun h => ⟨h.1, h.2⟩⟩
theorem Can.pos {g : GrR} (h : Can g) {i : Nat} (hi : i < g.acts.length) : ∃ k, ∃ (hk : k < (orderR g).length), (orderR g)[k] = i := by
  obtain ⟨k, hk, e⟩ := List.mem_iff_getElem.1 ((orderR_ordd g).full h.full i hi)
  exact ⟨k, hk, e⟩
theorem Can.irrefl {g : GrR} (h : Can g) {i : Nat} (hi : i < g.acts.length) : ¬ Needs g i (nameAt g i) := by
  intro hn
  obtain ⟨k, hk, rfl⟩ := h.pos hi
  obtain ⟨d, hd⟩ := hn.deep
  have ho := orderR_ordd g
  obtain ⟨_, h2⟩ := hd.rank h.w ho hk
  rcases h2 with h2 | ⟨j, hj, e, hjd⟩
  · exact h.w.apart hi h2
  · have := h.w.inj (ho.lt _ (List.getElem_mem hj)) hi e
    have := (List.pairwise_iff_getElem.1 ho.nd) j k hj hk (by omega)
    exact this ‹_›
theorem Can.depth {g : GrR} (h : Can g) {i : Nat} (hi : i < g.acts.length) {s : Nm} (hn : Needs g i s) : ∃ d, d ≤ g.acts.length ∧ NeedsD g i d s := by
  obtain ⟨k, hk, rfl⟩ := h.pos hi
  obtain ⟨d, hd⟩ := hn.deep
  have := (hd.rank h.w (orderR_ordd g) hk).1
  exact ⟨d, by have := h.full; omega, hd⟩

/-- A text among rising ones, once. -/
def insL (s : Nm) : List Nm → List Nm
  | [] => [s]
  | x :: r => if s ≤ x then s :: (x :: r).filter (fun y => y != s) else x :: insL s r
def Rise (l : List Nm) : Prop := l.Pairwise (· < ·)
theorem mem_insL (s : Nm) : ∀ (l : List Nm) (x : Nm), x ∈ insL s l ↔ x = s ∨ x ∈ l
  | [], x => by simp [insL]
  | y :: r, x => by
    unfold insL
    split
    · simp only [List.mem_cons, List.mem_filter]
      by_cases hx : x = s
      · simp [hx]
      · simp [hx]
    · simp only [List.mem_cons, mem_insL s r x]
      constructor
      · rintro (h | h | h)
        · exact .inr (.inl h)
        · exact .inl h
        · exact .inr (.inr h)
      · rintro (h | h | h)
        · exact .inr (.inl h)
        · exact .inl h
        · exact .inr (.inr h)
theorem nm_lt_of_le_ne {a b : Nm} (h : a ≤ b) (hn : a ≠ b) : a < b := by
  rw [← List.not_le]
  intro h2
  exact hn (List.le_antisymm h h2)
theorem insL_rise (s : Nm) : ∀ (l : List Nm), Rise l → Rise (insL s l)
  | [], _ => by simp [Rise, insL]
  | x :: r, h => by
    unfold Rise at h ⊢
    have h0 := h
    rw [List.pairwise_cons] at h
    unfold insL
    split
    · rename_i hs
      rw [List.pairwise_cons]
      refine ⟨fun y hy => ?_, h0.filter _⟩
      obtain ⟨hy, hne⟩ := List.mem_filter.1 hy
      have hle : s ≤ y := by
        rcases List.mem_cons.1 hy with rfl | hy
        · exact hs
        · exact List.le_trans hs (List.le_of_lt (h.1 y hy))
      exact nm_lt_of_le_ne hle (fun e => by simp [e] at hne)
    · rename_i hs
      rw [List.pairwise_cons]
      refine ⟨fun y hy => ?_, insL_rise s r h.2⟩
      rcases (mem_insL s r y).1 hy with rfl | hy
      · exact List.not_le.1 hs
      · exact h.1 y hy
theorem rise_ext : ∀ {a b : List Nm}, Rise a → Rise b → (∀ x, x ∈ a ↔ x ∈ b) → a = b
  | [], [], _, _, _ => rfl
  | [], y :: b, _, _, h => absurd ((h y).2 List.mem_cons_self) (by simp)
  | x :: a, [], _, _, h => absurd ((h x).1 List.mem_cons_self) (by simp)
  | x :: a, y :: b, ha, hb, h => by
    unfold Rise at ha hb
    rw [List.pairwise_cons] at ha hb
    have hxy : x = y := by
      rcases List.mem_cons.1 ((h x).1 List.mem_cons_self) with e | h1
      · exact e
      · rcases List.mem_cons.1 ((h y).2 List.mem_cons_self) with e | h2
        · exact e.symm
        · exact absurd (List.lt_trans (hb.1 x h1) (ha.1 y h2)) (List.lt_irrefl _)
    subst hxy
    rw [rise_ext ha.2 hb.2 (fun z => ?_)]
    constructor
    · intro hz
      rcases List.mem_cons.1 ((h z).1 (List.mem_cons_of_mem _ hz)) with rfl | h1
      · exact absurd (ha.1 z hz) (List.lt_irrefl _)
      · exact h1
    · intro hz
      rcases List.mem_cons.1 ((h z).2 (List.mem_cons_of_mem _ hz)) with rfl | h1
      · exact absurd (hb.1 z hz) (List.lt_irrefl _)
      · exact h1

def insAll (l : List Nm) (ss : List Nm) : List Nm := ss.foldl (fun o s => insL s o) l
theorem mem_insAll : ∀ (ss l : List Nm) (x : Nm), x ∈ insAll l ss ↔ x ∈ l ∨ x ∈ ss
  | [], l, x => by simp [insAll]
  | s :: ss, l, x => by
    show x ∈ insAll (insL s l) ss ↔ _
    rw [mem_insAll ss (insL s l) x, mem_insL]
    simp only [List.mem_cons]
    constructor
    · rintro ((h | h) | h)
      · exact .inr (.inl h)
      · exact .inl h
      · exact .inr (.inr h)
    · rintro (h | h | h)
      · exact .inl (.inr h)
      · exact .inl (.inl h)
      · exact .inr h
theorem insAll_rise : ∀ (ss l : List Nm), Rise l → Rise (insAll l ss)
  | [], _, h => h
  | s :: ss, l, h => insAll_rise ss (insL s l) (insL_rise s l h)
/-- What the texts of a list stand on is laid to it. -/
def growR (g : GrR) (o l : List Nm) : List Nm := l.foldl (fun o t => insAll o (actIns g t)) o
theorem mem_growR (g : GrR) : ∀ (l o : List Nm) (x : Nm), x ∈ growR g o l ↔ x ∈ o ∨ ∃ t ∈ l, x ∈ actIns g t
  | [], o, x => by simp [growR]
  | t :: l, o, x => by
    show x ∈ growR g (insAll o (actIns g t)) l ↔ _
    rw [mem_growR g l _ x, mem_insAll]
    simp only [List.mem_cons]
    constructor
    · rintro ((h | h) | ⟨u, hu, h⟩)
      · exact .inl h
      · exact .inr ⟨t, .inl rfl, h⟩
      · exact .inr ⟨u, .inr hu, h⟩
    · rintro (h | ⟨u, rfl | hu, h⟩)
      · exact .inl (.inl h)
      · exact .inl (.inr h)
      · exact .inr ⟨u, hu, h⟩
theorem growR_rise (g : GrR) : ∀ (l o : List Nm), Rise o → Rise (growR g o l)
  | [], _, h => h
  | _ :: l, o, h => growR_rise g l _ (insAll_rise _ o h)
def needsK (g : GrR) (i : Nat) : Nat → List Nm
  | 0 => insAll [] (insAt g i)
  | r + 1 => growR g (needsK g i r) (needsK g i r)
def needsR (g : GrR) (i : Nat) : List Nm := needsK g i g.acts.length
theorem needsK_rise (g : GrR) (i : Nat) : ∀ r, Rise (needsK g i r)
  | 0 => insAll_rise _ _ List.Pairwise.nil
  | r + 1 => growR_rise g _ _ (needsK_rise g i r)
theorem needsK_needs (g : GrR) (i : Nat) : ∀ r x, x ∈ needsK g i r → Needs g i x
  | 0, x, h => by
    rcases (mem_insAll _ _ x).1 h with h | h
    · exact absurd h (by simp)
    · exact .base h
  | r + 1, x, h => by
    rcases (mem_growR g _ _ x).1 h with h | ⟨t, ht, h⟩
    · exact needsK_needs g i r x h
    · exact .step (needsK_needs g i r t ht) h
theorem needsK_mono (g : GrR) (i : Nat) : ∀ r d x, x ∈ needsK g i r → x ∈ needsK g i (r + d)
  | _, 0, _, h => h
  | r, d + 1, x, h => (mem_growR g _ _ x).2 (.inl (needsK_mono g i r d x h))
theorem needsK_deep (g : GrR) (i : Nat) {d : Nat} {x : Nm} (h : NeedsD g i d x) : x ∈ needsK g i d := by
  induction h with
  | base h => exact (mem_insAll _ _ _).2 (.inr h)
  | step _ h ih => exact (mem_growR g _ _ _).2 (.inr ⟨_, ih, h⟩)
theorem needsR_rise (g : GrR) (i : Nat) : Rise (needsR g i) := needsK_rise g i _
theorem Can.mem_needs {g : GrR} (h : Can g) {i : Nat} (hi : i < g.acts.length) {s : Nm} : s ∈ needsR g i ↔ Needs g i s := by
  constructor
  · exact needsK_needs g i _ s
  · intro hn
    obtain ⟨d, hd, hx⟩ := h.depth hi hn
    have := needsK_mono g i d (g.acts.length - d) s (needsK_deep g i hx)
    rwa [show d + (g.acts.length - d) = g.acts.length by omega] at this
/-- What is found by taking up each once is all. -/
theorem needs_closed {g : GrR} {i : Nat} {out : List Nm} (h0 : ∀ s ∈ insAt g i, s ∈ out) (h1 : ∀ t ∈ out, ∀ s ∈ actIns g t, s ∈ out) (h2 : ∀ s ∈ out, Needs g i s) (s : Nm) : s ∈ out ↔ Needs g i s := by
  refine ⟨h2 s, fun h => ?_⟩
  induction h with
  | base h => exact h0 _ h
  | step _ h ih => exact h1 _ ih _ h

def dirtyB (g : GrR) (names : List Nm) (i : Nat) : Bool := names.any fun s => s == nameAt g i || (needsR g i).contains s
def dirtyR (g : GrR) (names : List Nm) : List Nat := (List.range g.acts.length).filter (dirtyB g names)
theorem dirtyB_iff {g : GrR} {names : List Nm} {i : Nat} : dirtyB g names i = true ↔ nameAt g i ∈ names ∨ ∃ s ∈ needsR g i, s ∈ names := by
  unfold dirtyB
  rw [List.any_eq_true]
  constructor
  · rintro ⟨s, hs, h⟩
    simp only [Bool.or_eq_true, beq_iff_eq, List.contains_iff_mem] at h
    rcases h with rfl | h
    · exact .inl hs
    · exact .inr ⟨s, h, hs⟩
  · rintro (h | ⟨s, h, hs⟩)
    · exact ⟨_, h, by simp⟩
    · exact ⟨s, hs, by simp [h]⟩
end Go.Proofs.YthglfmacjoecgaaGreatDoor
namespace Go.Proofs.YthglfmacjoecgaaGreatDoor
open Go.RowKit

theorem ba_beq (a b : ByteArray) : (a == b) = decide (a = b) := by
  rcases a with ⟨a⟩; rcases b with ⟨b⟩
  show (a == b) = _
  by_cases h : a = b <;> simp [h]
theorem int_beq (a b : Int) : (a == b) = decide (a = b) := by
  by_cases h : a = b <;> simp [h]

theorem map_erase {α β : Type} (f : α → β) : ∀ (l : List α) (j : Nat), (l.eraseIdx j).map f = (l.map f).eraseIdx j
  | [], _ => by simp
  | _ :: _, 0 => by simp
  | _ :: l, j + 1 => by simp [map_erase f l j]

def lfind {κ ν : Type} [DecidableEq κ] (k : κ) : List (κ × ν) → Nat → Option (Nat × ν)
  | [], _ => none
  | p :: r, i => if k = p.1 then some (i, p.2) else lfind k r (i + 1)

/-- How a key's type is compared. -/
structure KeyT (P : Program) (kt : TypeId) {κ : Type} [DecidableEq κ] (enc : κ → Value) : Prop where
  find : ∀ {ν : Type} (encv : ν → Value) (es : List MapEntry) (l : List (κ × ν)) (k : κ) (w : World), es.map (fun e => (e.key, e.val)) = l.map (fun p => (enc p.1, encv p.2)) →
    (Instr.findKey kt (enc k) es).run P w = .ok ((lfind k l 0).map fun x => (x.1, encv x.2)) w
  check : ∀ b k w, (Instr.checkKey b 10000 kt (enc k)).run P w = .ok () w
  same : ∀ k, Instr.sameBits 10000 (enc k) (enc k) = true

theorem findAsking_run {P : Program} {kt : TypeId} {κ ν : Type} [DecidableEq κ] (enc : κ → Value) (encv : ν → Value) (k : κ) (w : World)
    (heq : ∀ k', (Op.equal kt (enc k) (enc k')).run P w = .ok (decide (k = k')) w) : ∀ (es : List MapEntry) (l : List (κ × ν)) (i : Nat), es.map (fun e => (e.key, e.val)) = l.map (fun p => (enc p.1, encv p.2)) →
    (Instr.findAsking kt (enc k) es i).run P w = .ok ((lfind k l i).map fun x => (x.1, encv x.2)) w
  | [], [], i, _ => by simp [Instr.findAsking, lfind]
  | [], _ :: _, _, h => by simp at h
  | _ :: _, [], _, h => by simp at h
  | e :: es, p :: l, i, h => by
    simp only [List.map_cons, List.cons.injEq, Prod.mk.injEq] at h
    have ih := findAsking_run enc encv k w heq es l (i + 1) h.2
    unfold Instr.findAsking lfind
    rw [h.1.1]
    by_cases hk : k = p.1
    · subst hk; simp [heq, h.1.2]
    · simp [heq, hk, ih]

theorem findNow_run {κ ν : Type} [DecidableEq κ] (d : TypeDesc) (enc : κ → Value) (encv : ν → Value) (k : κ)
    (heq : ∀ k', Instr.sameNow d (enc k) (enc k') = some (decide (k = k'))) : ∀ (es : List MapEntry) (l : List (κ × ν)) (i : Nat), es.map (fun e => (e.key, e.val)) = l.map (fun p => (enc p.1, encv p.2)) →
    Instr.findNow d (enc k) es i = some ((lfind k l i).map fun x => (x.1, encv x.2))
  | [], [], i, _ => by simp [Instr.findNow, lfind]
  | [], _ :: _, _, h => by simp at h
  | _ :: _, [], _, h => by simp at h
  | e :: es, p :: l, i, h => by
    simp only [List.map_cons, List.cons.injEq, Prod.mk.injEq] at h
    have ih := findNow_run d enc encv k heq es l (i + 1) h.2
    unfold Instr.findNow lfind
    rw [h.1.1, heq]
    by_cases hk : k = p.1
    · simp [hk, h.1.2]
    · simp [hk, ih]

theorem findKey_asking {P : Program} {kt : TypeId} {d : TypeDesc} (hk : P.underlying kt = some d) (hs : ∀ a b, Instr.sameNow d a b = none) {κ ν : Type} [DecidableEq κ] (enc : κ → Value) (encv : ν → Value)
    (heq : ∀ k k' w, (Op.equal kt (enc k) (enc k')).run P w = .ok (decide (k = k')) w) (es : List MapEntry) (l : List (κ × ν)) (k : κ) (w : World) (h : es.map (fun e => (e.key, e.val)) = l.map (fun p => (enc p.1, encv p.2))) :
    (Instr.findKey kt (enc k) es).run P w = .ok ((lfind k l 0).map fun x => (x.1, encv x.2)) w := by
  have ha := findAsking_run enc encv k w (fun k' => heq k k' w) es l 0 h
  cases es with
  | nil => cases l with
    | nil => simp [Instr.findKey, run_underlying hk, Instr.findNow, lfind]
    | cons p l => simp at h
  | cons e es => simp [Instr.findKey, run_underlying hk, Instr.findNow, hs, ha]

theorem keyT_string {P : Program} {kt : TypeId} (hk : P.underlying kt = some .string) : KeyT P kt (fun s : ByteArray => .string s) where
  find encv es l k w h := by
    have h0 := findNow_run .string (fun s : ByteArray => Value.string s) encv k (fun k' => by simp only [Instr.sameNow]; rw [ba_beq]) es l 0 h
    simp [Instr.findKey, run_underlying hk, h0]
  check b k w := by show (Instr.checkKey b (9999 + 1) kt _).run P w = _; unfold Instr.checkKey; simp [run_underlying hk]
  same k := by show Instr.sameBits (9999 + 1) _ _ = _; unfold Instr.sameBits; simp [ba_beq]

theorem keyT_int {P : Program} {kt : TypeId} {q : IntKind} (hk : P.underlying kt = some (.int q)) : KeyT P kt (fun n : Int => .int q n) where
  find encv es l k w h := by
    have h0 := findNow_run (.int q) (fun n : Int => Value.int q n) encv k (fun k' => by simp only [Instr.sameNow, if_true]; rw [int_beq]) es l 0 h
    simp [Instr.findKey, run_underlying hk, h0]
  check b k w := by show (Instr.checkKey b (9999 + 1) kt _).run P w = _; unfold Instr.checkKey; simp [run_underlying hk]
  same k := by show Instr.sameBits (9999 + 1) _ _ = _; unfold Instr.sameBits; simp

/-- Block r is a map; its entries, in the order in which they were born, are l. -/
def MapL (w : World) (r : Nat) {κ ν : Type} (enc : κ → Value) (encv : ν → Value) (l : List (κ × ν)) : Prop :=
  ∃ es clock, w.heap[r]? = some (.map es clock) ∧ es.toList.map (fun e => (e.key, e.val)) = l.map (fun p => (enc p.1, encv p.2))

def lput {κ ν : Type} [DecidableEq κ] (k : κ) (x : ν) (l : List (κ × ν)) : List (κ × ν) :=
  match lfind k l 0 with
  | some (i, _) => l.set i (k, x)
  | none => l ++ [(k, x)]
def ldel {κ ν : Type} [DecidableEq κ] (k : κ) (l : List (κ × ν)) : List (κ × ν) :=
  match lfind k l 0 with
  | some (i, _) => l.eraseIdx i
  | none => l

theorem setBlock_chg (w : World) (r : Nat) (o : Obj) : Chg (fun k => k = r) w (Go.ChangeMaps.setBlock w r o) :=
  ⟨rfl, rfl, rfl, by simp [Go.ChangeMaps.setBlock], fun k _ hn => by simp only [Go.ChangeMaps.setBlock]; rw [Array.getElem?_setIfInBounds, if_neg (fun e => hn e.symm)]⟩

section
variable {κ ν : Type} {enc : κ → Value} {encv : ν → Value} {l : List (κ × ν)} {P : Program} {w : World} {r : Nat}

theorem MapL.lt (h : MapL w r enc encv l) : r < w.heap.size := by obtain ⟨_, _, h, _⟩ := h; exact heap_lt h
theorem MapL.chg {F : Nat → Prop} {w' : World} (h : MapL w r enc encv l) (hc : Chg F w w') (hF : ¬ F r) : MapL w' r enc encv l := by
  obtain ⟨es, clock, h1, h2⟩ := h
  exact ⟨es, clock, hc.obj h1 hF, h2⟩
theorem MapL.fresh (w : World) : MapL (w.alloc (.map #[] 0)) w.heap.size enc encv ([] : List (κ × ν)) := ⟨#[], 0, heap_alloc_new w _, rfl⟩

theorem MapL.len (h : MapL w r enc encv l) {kt t e : TypeId} (ht : P.underlying t = some (.map kt e)) (ty : TypeId) :
    (Builtin.len_ #[t] ty #[.map (some r)]).run P w = .ok (.int .i64 l.length) w := by
  obtain ⟨es, clock, h1, h2⟩ := h
  have hs : es.size = l.length := by have := congrArg List.length h2; simpa using this
  simp [Builtin.len_, run_underlying ht, MapKept.run_getObj_map h1, hs]
  rfl

variable [DecidableEq κ]
theorem lfind_bound {k : κ} : ∀ {l : List (κ × ν)} {i j : Nat} {x : ν}, lfind k l i = some (j, x) → i ≤ j ∧ j < i + l.length ∧ l[j - i]? = some (k, x)
  | [], _, _, _, h => by simp [lfind] at h
  | p :: l, i, j, x, h => by
    unfold lfind at h
    split at h
    · rename_i hk
      simp only [Option.some.injEq, Prod.mk.injEq] at h
      obtain ⟨rfl, rfl⟩ := h
      refine ⟨Nat.le_refl _, by simp, by simp [hk]⟩
    · obtain ⟨h1, h2, h3⟩ := lfind_bound h
      refine ⟨by omega, by simp; omega, ?_⟩
      rw [show j - i = (j - (i + 1)) + 1 from by omega, List.getElem?_cons_succ]
      exact h3
theorem lfind_none {k : κ} : ∀ {l : List (κ × ν)} {i : Nat}, lfind k l i = none ↔ ∀ p ∈ l, p.1 ≠ k
  | [], _ => by simp [lfind]
  | p :: l, i => by
    unfold lfind
    split
    · rename_i hk; simp [hk]
    · rename_i hk
      rw [lfind_none]
      simp only [List.mem_cons, forall_eq_or_imp]
      exact ⟨fun h => ⟨fun e => hk e.symm, h⟩, fun h => h.2⟩

theorem MapL.look (h : MapL w r enc encv l) {kt t e : TypeId} (K : KeyT P kt enc) (ht : P.underlying t = some (.map kt e)) {z : Value} (hz : (zeroValue e).run P w = .ok z w) (k : κ) (c : Bool) :
    (Instr.lookup t (.map (some r)) (enc k) c).run P w = .ok (if c then .tuple #[((lfind k l 0).map fun x => encv x.2).getD z, .bool (lfind k l 0).isSome] else ((lfind k l 0).map fun x => encv x.2).getD z) w := by
  obtain ⟨es, clock, h1, h2⟩ := h
  have hf := K.find encv es.toList l k w h2
  cases hl : lfind k l 0 with
  | none =>
    rw [hl] at hf
    simp [Instr.lookup, run_underlying ht, MapKept.run_getObj_map h1, K.check, hf, hz]
  | some x =>
    rw [hl] at hf
    simp [Instr.lookup, run_underlying ht, MapKept.run_getObj_map h1, K.check, hf]

theorem MapL.put (h : MapL w r enc encv l) {kt t e : TypeId} (K : KeyT P kt enc) (ht : P.underlying t = some (.map kt e)) (k : κ) (x : ν) :
    ∃ w', (Instr.mapUpdate t (.map (some r)) (enc k) (encv x)).run P w = .ok () w' ∧ MapL w' r enc encv (lput k x l) ∧ Chg (fun i => i = r) w w' := by
  obtain ⟨es, clock, h1, h2⟩ := h
  have hf := K.find encv es.toList l k w h2
  cases hl : lfind k l 0 with
  | none =>
    rw [hl] at hf
    refine ⟨Go.ChangeMaps.setBlock w r (.map (es.push { key := enc k, val := encv x, born := clock }) (clock + 1)), ?_, ⟨es.push { key := enc k, val := encv x, born := clock }, clock + 1, ?_, ?_⟩, setBlock_chg _ _ _⟩
    · simp [Instr.mapUpdate, run_underlying ht, MapKept.run_getObj_map h1, K.check, hf, MapKept.run_setObj_map _ h1, Go.ChangeMaps.setBlock]
    · simp only [Go.ChangeMaps.setBlock]; rw [Array.getElem?_setIfInBounds_self_of_lt (heap_lt h1)]
    · simp [lput, hl, h2]
  | some j =>
    obtain ⟨j, y⟩ := j
    rw [hl] at hf
    obtain ⟨_, hj, hg⟩ := lfind_bound hl
    simp only [Nat.sub_zero, Nat.zero_add] at hj hg
    have hes : (es.toList.map (fun e => (e.key, e.val)))[j]? = some (enc k, encv y) := by rw [h2]; simp [hg]
    obtain ⟨e', he', hkv⟩ : ∃ e', es[j]? = some e' ∧ (e'.key, e'.val) = (enc k, encv y) := by simpa using hes
    simp only [Prod.mk.injEq] at hkv
    refine ⟨Go.ChangeMaps.setBlock w r (.map (es.modify j fun e => { e with key := enc k, val := encv x }) clock), ?_, ⟨es.modify j fun e => { e with key := enc k, val := encv x }, clock, ?_, ?_⟩, setBlock_chg _ _ _⟩
    · simp [Instr.mapUpdate, run_underlying ht, MapKept.run_getObj_map h1, K.check, hf, he', hkv.1, Instr.keyThatStays, K.same, MapKept.run_setObj_map _ h1, Go.ChangeMaps.setBlock]
    · simp only [Go.ChangeMaps.setBlock]; rw [Array.getElem?_setIfInBounds_self_of_lt (heap_lt h1)]
    · simp only [lput, hl]
      apply List.ext_getElem?
      intro m
      have hm : (es.toList.map (fun e => (e.key, e.val)))[m]? = (l.map (fun p => (enc p.1, encv p.2)))[m]? := by rw [h2]
      simp only [List.getElem?_map, Array.getElem?_toList] at hm ⊢
      rw [Array.getElem?_modify, List.getElem?_set]
      by_cases hjm : j = m
      · subst hjm
        simp [he', hj]
      · simp only [hjm, if_false]; exact hm

theorem MapL.del (h : MapL w r enc encv l) {kt t e : TypeId} (K : KeyT P kt enc) (ht : P.underlying t = some (.map kt e)) (k : κ) (ty : TypeId) :
    ∃ w', (Builtin.delete_ #[t, kt] ty #[.map (some r), enc k]).run P w = .ok (.tuple #[]) w' ∧ MapL w' r enc encv (ldel k l) ∧ Chg (fun i => i = r) w w' := by
  obtain ⟨es, clock, h1, h2⟩ := h
  have hf := K.find encv es.toList l k w h2
  cases hl : lfind k l 0 with
  | none =>
    rw [hl] at hf
    refine ⟨Go.ChangeMaps.setBlock w r (.map es clock), ?_, ⟨es, clock, ?_, ?_⟩, setBlock_chg _ _ _⟩
    · simp [Builtin.delete_, run_underlying ht, MapKept.run_getObj_map h1, K.check, hf, MapKept.run_setObj_map _ h1, Go.ChangeMaps.setBlock]
    · simp only [Go.ChangeMaps.setBlock]; rw [Array.getElem?_setIfInBounds_self_of_lt (heap_lt h1)]
    · simp [ldel, hl, h2]
  | some j =>
    obtain ⟨j, y⟩ := j
    rw [hl] at hf
    refine ⟨Go.ChangeMaps.setBlock w r (.map (es.eraseIdxIfInBounds j) clock), ?_, ⟨es.eraseIdxIfInBounds j, clock, ?_, ?_⟩, setBlock_chg _ _ _⟩
    · simp [Builtin.delete_, run_underlying ht, MapKept.run_getObj_map h1, K.check, hf, MapKept.run_setObj_map _ h1, Go.ChangeMaps.setBlock]
    · simp only [Go.ChangeMaps.setBlock]; rw [Array.getElem?_setIfInBounds_self_of_lt (heap_lt h1)]
    · simp only [ldel, hl]
      have hE : (es.eraseIdxIfInBounds j).toList = es.toList.eraseIdx j := by simp
      rw [hE, map_erase, h2, map_erase]

variable {ops : Array Oper} {rest : List Oper} {o : Oper} {a : Act} {Q : Exit → Act → World → Prop}
theorem wpList_lookup_l (hg : o.guard = none) (m x : Operand) (t : TypeId) (c : Bool) (hop : o.op = Op.lookup t m x c) {kt e : TypeId} (K : KeyT P kt enc) (ht : P.underlying t = some (.map kt e))
    {z : Value} (hz : (zeroValue e).run P w = .ok z w) (hown : MapL w r enc encv l) (hm : a.eval m = .map (some r)) (k : κ) (hx : a.eval x = enc k)
    (hK : wpList P ops Q rest (a.put o.dst (if c then .tuple #[((lfind k l 0).map fun x => encv x.2).getD z, .bool (lfind k l 0).isSome] else ((lfind k l 0).map fun x => encv x.2).getD z)) w) :
    wpList P ops Q (o :: rest) a w := by
  refine wpList_plain hg fun K' hK' => ?_
  have hrun := hown.look K ht hz k c
  unfold Oper.wp
  simp only [execOp, hop, hm, hx, hrun, Sem.run_bind, Result.andThen, Oper.upon, Sem.run_pure]
  exact hK' _ _ hK
theorem wpList_mapUpdate_l (hg : o.guard = none) (m x v : Operand) (t : TypeId) (hop : o.op = Op.mapUpdate t m x v) {kt e : TypeId} (K : KeyT P kt enc) (ht : P.underlying t = some (.map kt e))
    (hown : MapL w r enc encv l) (hm : a.eval m = .map (some r)) (k : κ) (hx : a.eval x = enc k) (y : ν) (hv : a.eval v = encv y)
    (hK : ∀ w', MapL w' r enc encv (lput k y l) → Chg (fun i => i = r) w w' → wpList P ops Q rest (a.put o.dst undef) w') :
    wpList P ops Q (o :: rest) a w := by
  refine wpList_plain hg fun K' hK' => ?_
  obtain ⟨w', hrun, r1, r2⟩ := hown.put K ht k y
  unfold Oper.wp
  simp [execOp, hop, hm, hx, hv, hrun, Result.andThen]
  exact hK' _ _ (hK w' r1 r2)
theorem wpList_delete_l (hg : o.guard = none) (m x : Operand) (t kt : TypeId) (hop : o.op = Op.call { callee := Callee.builtin Builtin.delete, args := #[m, x], argTypes := #[t, kt] })
    {e : TypeId} (K : KeyT P kt enc) (ht : P.underlying t = some (.map kt e))
    (hown : MapL w r enc encv l) (hm : a.eval m = .map (some r)) (k : κ) (hx : a.eval x = enc k)
    (hK : ∀ w', MapL w' r enc encv (ldel k l) → Chg (fun i => i = r) w w' → wpList P ops Q rest (a.put o.dst (.tuple #[])) w') :
    wpList P ops Q (o :: rest) a w := by
  refine wpList_plain hg fun K' hK' => ?_
  obtain ⟨w', hrun, r1, r2⟩ := hown.del K ht k o.type
  unfold Oper.wp
  simp [execOp, hop, resolve, invoke, builtin, hm, hx, hrun, Result.andThen]
  exact hK' _ _ (hK w' r1 r2)
end
end Go.Proofs.YthglfmacjoecgaaGreatDoor
