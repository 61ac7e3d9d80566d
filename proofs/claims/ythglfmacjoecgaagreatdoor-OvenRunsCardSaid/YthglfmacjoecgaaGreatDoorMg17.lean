/- Texts of the proof, one behind the other: A row of bytes that may bear a conversion's mark; one byte appended; (*stamp.Press).Sum walked; stamp.Of walked: the digest of texts. -/
import Derived.Test.YthglfmacjoecgaaGreatDoorMg16
import Derived.Lib.FrozenHead2
import Derived.Lib.SlBytesRow
namespace Go.Proofs.YthglfmacjoecgaaGreatDoor
open Go.RowKit

def bv8 (b : UInt8) : Value := .int .u8 (b.toNat : Nat)
/-- The slice v of n bytes is a row of the call's own; nothing within it is frozen. -/
def RowM (w : World) (v : Value) (l : List UInt8) : Prop :=
  ∃ g cap cur fz, v = .slice (some ⟨g, 0, none⟩) l.length cap ∧ w.heap[g]? = some (.cells cur 5 fz) ∧ (fz = (0, 0) ∨ cur.size ≤ fz.1) ∧ l.length ≤ cap ∧ cap ≤ maxLen ∧ cur.size = cap ∧ cur.toList.take l.length = l.map bv8
theorem RowM.len {w0 : World} {v : Value} {l : List UInt8} (h : RowM w0 v l) (w : World) (ty : TypeId) : (Builtin.len_ #[125] ty #[v]).run Tryz.prog w = .ok (.int .i64 l.length) w := by
  obtain ⟨g, cap, cur, fz, rfl, _⟩ := h
  simp [Builtin.len_, run_underlying Tryz.underlying125]; rfl
theorem RowM.chg {F : Nat → Prop} {w w' : World} {v : Value} {l : List UInt8} (h : RowM w v l) (hc : Chg F w w') (hF : ∀ k, v.ownBlock = some k → ¬ F k) : RowM w' v l := by
  obtain ⟨g, cap, cur, fz, rfl, hg, r⟩ := h
  exact ⟨g, cap, cur, fz, rfl, hc.obj hg (hF g rfl), r⟩
theorem RowM.lt {w : World} {v : Value} {l : List UInt8} (h : RowM w v l) : ∀ k, v.ownBlock = some k → k < w.heap.size := by
  obtain ⟨g, cap, cur, fz, rfl, hg, r⟩ := h
  intro k hk
  simp [Value.ownBlock] at hk
  subst hk
  exact heap_lt hg
theorem infoU8 : ∃ i, Tryz.prog.info? 5 = some i ∧ i.zero = some (.int .u8 0) ∧ i.size = 1 ∧ i.bytes = 1 := by
  obtain ⟨i, hi, h0, h3, h2⟩ := info_parts (P := Tryz.prog) (e := 5) (z := .int .u8 0) (size := 1) (bytes := 1) (by kernel_rfl)
  exact ⟨i, hi, h0, h3, h2⟩

theorem conv_row (w : World) (s : ByteArray) (hs : s.size ≤ maxLen) : ∃ v w1, (convert 9 125 (.string s)).run Tryz.prog w = .ok v w1 ∧ RowM w1 v s.data.toList ∧ Chg (fun _ => False) w w1 ∧ w1.heap.size = w.heap.size + 1 ∧ v.ownBlock = some w.heap.size := by
  have hge := grownCap_ge w s.size 0 5
  have hcs : (Lib.bytesCells w 5 s).size = grownCap w s.size 0 5 := by
    unfold Lib.bytesCells
    have : s.data.size = s.size := rfl
    simp only [Array.size_append, Array.size_map, Array.size_replicate]
    omega
  have hl : s.data.toList.length = s.size := by simp
  refine ⟨_, _, Lib.run_convert_string_bytes w _ _ 5 s Tryz.underlying9 Tryz.underlying125 Tryz.underlying5, ?_, ⟨rfl, rfl, rfl, by rw [Lib.bytesWorld_size]; omega, fun k hk _ => Lib.bytesWorld_at_old w _ s k hk⟩, Lib.bytesWorld_size w _ s, rfl⟩
  refine ⟨w.heap.size, _, _, _, by rw [hl], Lib.bytesWorld_at_new w _ s, .inr (Nat.le_refl _), by rw [hl]; exact hge, grownCap_le_maxLen w s.size 0 _ hs, hcs, ?_⟩
  unfold Lib.bytesCells
  rw [Array.toList_append, List.take_left' (by simp)]
  rw [Array.toList_map]
  rfl

theorem run_append1 (w : World) (ty : TypeId) (v : Value) (l : List UInt8) (h : RowM w v l) (ad : Addr) (c : Nat) (x : UInt8) (hx : w.cell? ad = some (bv8 x)) (hb : l.length + 1 ≤ 140737488355328) :
    ∃ v' w', (Builtin.append_ #[125, 125] ty #[v, .slice (some ad) 1 c]).run Tryz.prog w = .ok v' w' ∧ RowM w' v' (l ++ [x]) ∧ Chg (fun k => v.ownBlock = some k) w w' ∧ (∀ k, v'.ownBlock = some k → v.ownBlock = some k ∨ w.heap.size ≤ k) := by
  obtain ⟨i, hi, hz, hsize, hbytes⟩ := infoU8
  obtain ⟨g, cap, cur, fz, rfl, hg, hfz, hnc, hcm, hcs, htake⟩ := h
  have hnews : ∀ j u, [bv8 x][j]? = some u → w.cell? (ad.add j) = some u := by
    intro j u hj
    match j, hj with
    | 0, hj => simp at hj; subst hj; rw [Addr.add_zero']; exact hx
    | j + 1, hj => simp at hj
  by_cases hroom : l.length + 1 ≤ cap
  · have hf := run_firstCells_some (P := Tryz.prog) w i.size 1 ad 1 c [bv8 x] (by simp [hsize]) hnews
    rw [hsize] at hf
    have hcell : w.cell? ⟨g, l.length, none⟩ = some cur[l.length] := by rw [cell_of hg]; exact Array.getElem?_eq_getElem (by omega)
    have hfro : w.frozen? ⟨g, l.length, none⟩ = false := by
      simp only [World.frozen?, hg]
      rcases hfz with rfl | hfz
      · simp
      · simp; omega
    have hst : (storeCells ⟨g, l.length, none⟩ [bv8 x] 0).run Tryz.prog w = .ok () (w.setCell ⟨g, l.length, none⟩ (bv8 x)) := by
      have := run_storeCells_cells (P := Tryz.prog) g l.length [bv8 x] 0 w (fun j hj => by
        obtain rfl : j = 0 := by simpa using hj
        show (w.cell? ⟨g, l.length, none⟩).isSome = true
        rw [hcell]; rfl) (fun j hj => by
        obtain rfl : j = 0 := by simpa using hj
        exact hfro) (by simp [bv8, Value.oneCell'])
      simpa [World.setCells] using this
    refine ⟨.slice (some ⟨g, 0, none⟩) (l.length + 1) cap, w.setCell ⟨g, l.length, none⟩ (bv8 x), ?_, ?_, ?_, ?_⟩
    · simp [Builtin.append_, run_underlying Tryz.underlying125, sizeOf, typeInfo, hi, Builtin.lenOf, hroom, hf, Addr.add_lit, hsize, hst]
    · refine ⟨g, cap, cur.setIfInBounds l.length (bv8 x), fz, by simp, heap_set_same hg _ _, by simpa using hfz, by simpa using hroom, hcm, by simpa using hcs, ?_⟩
      rw [List.length_append, List.length_singleton, Array.toList_setIfInBounds, List.take_set, List.map_append, ← htake]
      apply List.ext_getElem?
      intro j
      rw [List.getElem?_set]
      by_cases e : l.length = j
      · subst e
        have : (List.take l.length cur.toList).length = l.length := by simp; omega
        rw [if_pos rfl, if_pos (by simp; omega), List.getElem?_append_right (by omega), this]
        simp
      · rw [if_neg e]
        by_cases e2 : j < l.length
        · rw [List.getElem?_append_left (by simp; omega), List.getElem?_take, List.getElem?_take, if_pos (by omega), if_pos e2]
        · rw [List.getElem?_take, if_neg (by omega), List.getElem?_append_right (by simp; omega)]
          rw [List.getElem?_eq_none (by simp; omega)]
    · exact (Chg.refl (fun k => (Value.slice (some ⟨g, 0, none⟩) l.length cap).ownBlock = some k) w).setCell (p := ⟨g, l.length, none⟩) (fun _ => rfl) _
    · intro k hk; exact .inl hk
  · have holds : ∀ j u, (l.map bv8)[j]? = some u → w.cell? ((⟨g, 0, none⟩ : Addr).add j) = some u := by
      intro j u hj
      have hadd : (⟨g, 0, none⟩ : Addr).add j = ⟨g, j, none⟩ := by unfold Addr.add; split <;> simp_all
      rw [hadd, cell_of hg]
      rw [← htake, List.getElem?_take] at hj
      split at hj
      · simpa using hj
      · cases hj
    have hr := run_append_grow (P := Tryz.prog) w 125 ty 5 i (.int .u8 0) Tryz.underlying125 hi hz ⟨g, 0, none⟩ l.length cap (l.map bv8) (by simp [hsize]) holds ad 1 c [bv8 x] (by simp [hsize]) hnews (by omega) (by omega) (growslice_fits (by omega) (by rw [hbytes]; omega))
    have hge := grownCap_ge w (l.length + 1) cap 5
    have hcm2 : grownCap w (l.length + 1) cap 5 ≤ maxLen := grownCap_le_maxLen w (l.length + 1) cap _ (by unfold maxLen; omega)
    refine ⟨_, _, hr, ⟨w.heap.size, grownCap w (l.length + 1) cap 5, _, (0, 0), by simp, heap_alloc_new w.drew _, .inl rfl, by simpa using hge, hcm2, ?_, ?_⟩, ⟨rfl, rfl, rfl, by simp, fun k hk _ => heap_alloc_old w.drew _ hk⟩, ?_⟩
    · simp only [Array.size_append, List.size_toArray, size_zeroCells, List.length_map, List.length_singleton]
      simp [Value.cells]
      omega
    · simp only [Array.toList_append, List.append_assoc]
      rw [← List.append_assoc, List.map_append, List.length_append, List.length_singleton]
      exact List.take_left' (by simp)
    · intro k hk; simp [Value.ownBlock] at hk; exact .inr (by omega)
section
variable {w : World} {ops : Array Oper} {rest : List Oper} {o : Oper} {a : Act} {Q : Exit → Act → World → Prop}
/-- 'append(s, x)' at such a row, the byte just laid by this very statement. -/
theorem wpList_append1 (hgd : o.guard = none) (s x : Operand) (ho : o.op = .call { callee := .builtin .append, args := #[s, x], argTypes := #[125, 125] })
    {v : Value} {l : List UInt8} (h : RowM w v l) (hs : a.eval s = v) (b : UInt8) (arr : Array Value) (ha : arr = #[bv8 b]) (n c : Nat) (hn : n = 1) (hx : a.eval x = .slice (some ⟨w.heap.size, 0, none⟩) n c) (hb : l.length + 1 ≤ 140737488355328)
    (k : ∀ v' w', RowM w' v' (l ++ [b]) → Chg (fun k => v.ownBlock = some k) w w' → (∀ k, v'.ownBlock = some k → v.ownBlock = some k ∨ w.heap.size ≤ k) → wpList Tryz.prog ops Q rest (a.put o.dst v') w') :
    wpList Tryz.prog ops Q (o :: rest) a (w.alloc (.cells arr 5)) := by
  subst ha hn
  refine wpList_plain hgd fun K hK => ?_
  have h' : RowM (w.alloc (.cells #[bv8 b] 5)) v l := h.chg ((Chg.refl (fun _ => False) w).alloc _) (fun _ _ h => h)
  obtain ⟨v', w', hr, h1, h2, h3⟩ := run_append1 (w.alloc (.cells #[bv8 b] 5)) o.type v l h' ⟨w.heap.size, 0, none⟩ c b ((cell_of (heap_alloc_new w _) 0).trans rfl) hb
  unfold Oper.wp execOp
  simp only [ho, resolve, invoke, builtin, Sem.run_bind, Sem.run_pure, Result.andThen_ok, List.map_toArray, List.map_cons, List.map_nil, hs, hx, hr]
  refine hK _ _ (k v' w' h1 (((Chg.refl _ w).alloc _).trans h2 (fun _ _ h => h)) (fun k hk => (h3 k hk).imp id (fun h => by simp at h; omega)))
end
end Go.Proofs.YthglfmacjoecgaaGreatDoor
namespace Go.Proofs.YthglfmacjoecgaaGreatDoor
open Go.RowKit

def sliceLen : Value → Nat
  | .slice _ n _ => n
  | _ => 0
theorem RowM.sl {w : World} {v : Value} {l : List UInt8} (h : RowM w v l) : sliceLen v = l.length := by
  obtain ⟨g, cap, cur, fz, rfl, _⟩ := h
  rfl
def remF (n : Nat) : Nat := (120 - n % 64) % 64
/-- Zeros behind a text, so that there is room for its length. -/
def padR (l : List UInt8) : List UInt8 := l ++ List.replicate (remF l.length) 0
theorem pad_stop {n : Nat} (h : n % 64 = 56) : remF n = 0 := by unfold remF; omega
theorem pad_next {n : Nat} (h : n % 64 ≠ 56) : remF n = remF (n + 1) + 1 := by unfold remF; omega
theorem pad_size (n : Nat) : (n + remF n) % 64 = 56 := by unfold remF; omega
/-- The bytes of a length. -/
def lenB (n : Int) (i : Nat) : UInt8 := UInt8.ofNat ((IntKind.u64.wrap (IntKind.u64.wrap n * 8) / 2 ^ (8 * (7 - i))) % 256).toNat
theorem lenB_val (n : Int) (k : Nat) : ((lenB n k).toNat : Int) = IntKind.u64.wrap (IntKind.u64.wrap n * 8) / 2 ^ (8 * (7 - k)) % 256 := by
  unfold lenB
  generalize IntKind.u64.wrap (IntKind.u64.wrap n * 8) / 2 ^ (8 * (7 - k)) = x
  rw [UInt8.toNat_ofNat']
  omega
def lensL (n : Int) (k : Nat) : List UInt8 := (List.range k).map (lenB n)
theorem lensL_next (n : Int) (k : Nat) : lensL n (k + 1) = lensL n k ++ [lenB n k] := by unfold lensL; rw [List.range_succ, List.map_append]; rfl
/-- What is summed up at the end. -/
def tailL (rest : ByteArray) (n : Int) : List UInt8 := padR (rest.data.toList ++ [128]) ++ lensL n 8
def mixAll : Nat → (Nat → Int) → List UInt8 → (Nat → Int)
  | 0, f, _ => f
  | m + 1, f, l => if l.length < 64 then f else mixAll m (mixR ⟨(l.take 64).toArray⟩ f) (l.drop 64)
theorem mixAll_end (m : Nat) (f : Nat → Int) (l : List UInt8) (h : l.length < 64) : mixAll m f l = f := by
  cases m with
  | zero => rfl
  | succ m => unfold mixAll; rw [if_pos h]
def sumF (f : Nat → Int) (rest : ByteArray) (n : Int) : Nat → Int := mixAll (tailL rest n).length f (tailL rest n)
theorem tailL_len (rest : ByteArray) (n : Int) : (tailL rest n).length % 64 = 0 := by
  unfold tailL padR lensL
  have := pad_size (rest.data.toList ++ [128]).length
  simp only [List.length_append, List.length_replicate, List.length_map, List.length_range] at *
  omega
theorem remF_lt (n : Nat) : remF n < 64 := by unfold remF; omega

set_option maxRecDepth 100000 in
set_option maxHeartbeats 4000000 in
theorem ssum_any (w : World) (b : Nat) (f : Nat → Int) (rest : ByteArray) (n : Int) (hr : rest.size < 64) (hP : PressAt w b f rest n) (hT : Lib.TabIs Tryz.prog w "apiary/stamp.words" .u32 wordsL) (hgw : gWd < w.heap.size) :
    Calls Tryz.prog 66 #[.pointer (some ⟨b, 0, none⟩)] w (Rets (.agg (rowB 32 (digB (sumF f rest n)))) (Chg (fun _ => False) w)) := by
  obtain ⟨cs, hS, h8, h9⟩ := hP
  have hbw := heap_lt hS.heap
  have HS := hid hS
  have H8 := hid h8
  have H9 := hid h9
  have HT := hid hT
  clear hS h8 h9 hT
  go_enter Tryz.func66, Tryz.ntmps66
  go_wp2_with (first | (refine wpList_alloc0 rfl 57 rfl (rowB 32 (fun _ => 0)) (alloc37 _) ?_; intro w1 ha1 hs1 hc1; have x8 := hc1.cell ((cell_of HS.out.heap 8).trans H8.out) (fun h => h); obtain ⟨v0, wc, hconv, hrow, hcc, hscc, hvo⟩ := conv_row w1 rest (by unfold maxLen; omega); have HHS1 := hid hs1; have HCC := hid hcc; have HVO := hid hvo; have HSC := hid hscc; clear hs1 hcc hvo hscc) | (at_builtin; go_loud (refine wpList_append1 rfl _ _ rfl hrow rfl 128 _ rfl _ _ rfl rfl (by simp; omega) ?_; intro v2 w2 hrow2 hc2 hvo2)))
  have hl0 : Hid (padR (rest.data.toList ++ [128]) = padR (rest.data.toList ++ [128])) := rfl
  have H2 : Hid ((∀ k, v2.ownBlock = some k → w1.heap.size ≤ k) ∧ Chg (fun _ => False) w1 w2) := by
    refine ⟨fun k hk => ?_, ?_⟩
    · rcases hvo2 k hk with h | h
      · rw [HVO.out] at h; cases h; exact Nat.le_refl _
      · have := HSC.out; omega
    · refine HCC.out.trans hc2 (fun i hi h => ?_)
      rw [HVO.out] at h; cases h; exact absurd hi (Nat.lt_irrefl _)
  clear hc2 hvo2 hrow hconv x8
  go_loopw [3] (fun v wr => ∃ l : List UInt8, RowM wr v l ∧ padR l = padR (rest.data.toList ++ [128]) ∧ l.length ≤ 200 - remF l.length ∧ (∀ k, v.ownBlock = some k → w1.heap.size ≤ k) ∧ Chg (fun _ => False) w1 wr) (fun v _ => remF (sliceLen v))
  case atStart => exact ⟨_, hrow2, rfl, by have := remF_lt (rest.data.toList ++ [128]).length; simp at this ⊢; omega, H2.out.1, H2.out.2⟩
  case round =>
    obtain ⟨l, hrw, hpad, hll, hvo, hch⟩ := hrel
    have hlenV := fun W ty => hrw.len W ty
    have hmod : (l.length : Int).tmod 64 = ((l.length % 64 : Nat) : Int) := by rw [Int.tmod_eq_emod_of_nonneg (by omega)]; omega
    have HPAD := hid hpad
    have HVO2 := hid hvo
    have HCH := hid hch
    clear hpad hvo hch hrow2
    by_cases h56 : l.length % 64 = 56
    · have h56' : (((l.length % 64 : Nat) : Int) == 56) = true := by simp [h56]
      have hl0 : l = padR (rest.data.toList ++ [128]) := by
        rw [← HPAD.out]; unfold padR; rw [pad_stop h56]; simp
      have hlen8 : l.length ≤ 200 := by omega
      have HL0 := hid hl0
      clear hl0 HPAD hll
      go_wp2_with fail
      clear hlenV hmod
      obtain ⟨wo, hwo⟩ : ∃ wo : World, wo = wr := ⟨_, rfl⟩
      rw [← hwo] at hrw HCH ⊢
      clear hwo
      go_loopw [3, 23] (fun v i wr => ∃ k : Nat, k ≤ 8 ∧ i = .int .i64 k ∧ RowM wr v (l ++ lensL n k) ∧ (∀ k, v.ownBlock = some k → w1.heap.size ≤ k) ∧ Chg (fun _ => False) w1 wr) (fun _ i _ => 8 - (intOf i).toNat)
      case atStart => exact ⟨0, Nat.zero_le _, rfl, by simpa [lensL] using hrw, HVO2.out, HCH.out⟩
      case round =>
        obtain ⟨k, hk, rfl, hrw2, hvo, hch⟩ := hrel
        have hll2 : (lensL n k).length = k := by simp [lensL]
        by_cases hkn : k < 8
        · have hkn' : (k : Int) < 8 := by omega
          have x9 := (hc1.trans hch (fun _ _ h => h)).cell ((cell_of HS.out.heap 9).trans H9.out) (fun h => h)
          have hw7 : IntKind.i64.wrap (7 - (k : Int)) = ((7 - k : Nat) : Int) := by rw [IntWalk.i64_in _ (by omega)]; omega
          have hw8 : IntKind.i64.wrap (8 * ((7 - k : Nat) : Int)) = ((8 * (7 - k) : Nat) : Int) := by rw [IntWalk.i64_in _ (by omega)]; omega
          have HVO3 := hid hvo
          have HCH3 := hid hch
          clear hvo hch hrw
          go_wp2_with (at_builtin; go_loud (refine wpList_append1 rfl _ _ rfl hrw2 rfl (lenB n k) _ (by unfold bv8; rw [lenB_val]) _ _ rfl rfl (by rw [List.length_append, hll2]; omega) ?_; intro v3 w3 hrow3 hc3 hvo3))
          go_roundw
          case rel =>
            refine ⟨k + 1, by omega, by go_num, by rw [lensL_next, ← List.append_assoc]; exact hrow3, fun i hi => ?_, HCH3.out.trans hc3 (fun i hi h => absurd (HVO3.out _ h) (by omega))⟩
            rcases hvo3 i hi with h | h
            · exact HVO3.out _ h
            · exact Nat.le_trans HCH3.out.size h
          case measure => simp [intOf]; omega
        · obtain rfl : k = 8 := by omega
          have hE : l ++ lensL n 8 = tailL rest n := by rw [HL0.out]; rfl
          rw [hE] at hrw2
          have hS1 : StAt wr b 181 cs f := ⟨(hc1.trans hch (fun _ _ h => h)).obj HS.out.heap (fun h => h), HS.out.word⟩
          have hTl := tailL_len rest n
          have hTs : (tailL rest n).length ≤ 300 := by rw [← hE, List.length_append, hll2]; omega
          have HVO3 := hid hvo
          have HCH3 := hid hch
          have HS1 := hid hS1
          clear hvo hch hS1 hE hll2 hrw
          go_wp2_with (first | (refine wpList_loadst rfl 178 _ rfl b rfl (rowF 8 f) (.array 8 176) HS1.out.range Tryz.underlying178 rfl (by rw [rowF_size]; kernel_rfl) ?_) | (refine wpList_alloc0 rfl 178 rfl (rowF 8 (fun _ => 0)) (alloc74 _) ?_; intro w5 ha5 hs5 hc5) | (refine wpList_store0 rfl 178 _ _ rfl wr.heap.size (rowF 8 (fun _ => 0)) (rowF 8 f) rfl rfl ha5 (by rw [rowF_size]; exact size74) rfl (rowF_one _ _) ?_; intro w6 hb6 hs6 hc6))
          go_frame
          have hrw6 : RowM w6 u3 (tailL rest n) := hrw2.chg ((hc5.mono (fun _ _ h => h.elim)).trans hc6 (fun _ _ h => h)) (fun k hk e => by have := hrw2.lt k hk; omega)
          have hcw6 : Chg (fun _ => False) w w6 := ((((hc1.trans HCH3.out (fun _ _ h => h)).trans hc5 (fun _ _ h => h))).trans hc6 (fun i hi h => by have := HCH3.out.size; have := hc1.size; omega))
          have hbs : w.heap.size ≤ wr.heap.size := Nat.le_trans hc1.size HCH3.out.size
          have hd6 : w6.heap[w.heap.size]? = some (.cells (rowB 32 (fun _ => 0)) 57 (0, 0)) := hc6.obj (hc5.obj (HCH3.out.obj ha1 (fun h => h)) (fun h => h)) (by have h1 := heap_lt ha1; have := HCH3.out.size; omega)
          have hdb : w.heap.size ≠ wr.heap.size := by have h1 := heap_lt ha1; have := HCH3.out.size; omega
          have HD6 := hid hd6
          clear hd6
          obtain ⟨bs, hbse⟩ : ∃ bs, bs = wr.heap.size := ⟨_, rfl⟩
          have hgbs : ∀ k, u3.ownBlock = some k → k < bs := fun k hk => by have := hrw2.lt k hk; omega
          rw [← hbse] at hb6 hbs hdb ⊢
          have HSUM : Hid (sumF f rest n = mixAll (tailL rest n).length f (tailL rest n)) := hid rfl
          generalize tailL rest n = l at hrw6 hTl hTs HSUM
          obtain ⟨g, cap, cur, fz, rfl, hg, hfz, hnc, hcm, hcs, htake⟩ := hrw6
          have hgb : g ≠ bs := by have := hgbs g rfl; omega
          have hcells : ∀ i (h : i < l.length), w6.cell? ⟨g, i, none⟩ = some (bv8 l[i]) := by
            intro i hi
            rw [cell_of hg]
            have h1 : (cur.toList.take l.length)[i]? = (l.map bv8)[i]? := by rw [htake]
            rw [List.getElem?_take, if_pos hi] at h1
            rw [← Array.getElem?_toList, h1]
            simp [List.getElem?_eq_getElem hi]
          have HCE := hid hcells
          have HCW := hid hcw6
          have HB6 := hid hb6
          clear hrw2 hcells hcw6 hb6 ha5 hs5 hc5 hs6 hc6 hg hfz hcs htake hgbs hbse HVO3 HCH3 HS1 HVO2 HCH H2
          go_loopw [3] (fun v wx => ∃ off m st a c cs5, off ≤ l.length ∧ off % 64 = 0 ∧ v = .slice (some a) (l.length - off) c ∧ (off < l.length → a = ⟨g, off, none⟩ ∧ c = cap - off) ∧ l.length - off ≤ m ∧ mixAll m st (l.drop off) = mixAll l.length f l ∧ StAt wx bs 178 cs5 st ∧ Chg (fun k => k = bs) w6 wx) (fun v _ => sliceLen v)
          case atStart => exact ⟨0, l.length, f, _, _, _, Nat.zero_le _, rfl, rfl, fun _ => ⟨rfl, rfl⟩, Nat.le_refl _, rfl, StAt.row HB6.out, Chg.refl _ _⟩
          case round =>
            obtain ⟨off, m, st, a, c, cs5, hoff, hmod, rfl, hac, hm, hmix, hst, hch⟩ := hrel
            by_cases hend : off = l.length
            · subst hend
              have hlz : (l.length : Int) - (l.length : Int) = 0 := by omega
              have hlz2 : l.length - l.length = 0 := by omega
              have hfst : st = mixAll l.length f l := by
                rw [← hmix]
                exact (mixAll_end m st (l.drop l.length) (by simp)).symm
              have hdig := digest_any wr bs _ cs5 st hst
              have HFS := hid hfst
              have HCH9 := hid hch
              clear hmix hst hch hfst
              go_wp2_with (first | (go_at_call 106; refine hdig.mono ?_; rintro e w8 ⟨rfl, hc8⟩; have hd8 := hc8.obj (HCH9.out.obj HD6.out hdb) (fun h => h)) | (refine wpList_store0 rfl 57 _ _ rfl w.heap.size (rowB 32 (fun _ => 0)) (rowB 32 (digB st)) rfl rfl hd8 (by rw [rowB_size]; exact size37) rfl (rowB_one _ _) ?_; intro w9 hb9 hs9 hc9))
              refine bodyPost_ret (v := .agg (rowB 32 (digB st))) ?_ rfl ⟨by rw [HSUM.out, HFS.out], ?_⟩
              · exact results_row Tryz.results66 _ _ w.heap.size rfl _ (run_loadVar_row _ w.heap.size 57 57 _ (0, 0) (.array 32 5) hb9 Tryz.underlying57 rfl (by rw [rowB_size]; kernel_rfl))
              · exact ((HCW.out.trans HCH9.out (fun i hi h => by omega)).trans hc8 (fun _ _ h => h)).trans hc9 (fun i hi h => by omega)
            · have hlt : off < l.length := by omega
              obtain ⟨rfl, rfl⟩ := hac hlt
              have h64 : 64 ≤ l.length - off := by omega
              have h64' : (0 : Int) < ((l.length - off : Nat) : Int) := by omega
              have h65 : (64 : Int) ≤ ((l.length - off : Nat) : Int) := by omega
              have h66 : (64 : Int) ≤ ((cap - off : Nat) : Int) := by omega
              obtain ⟨m', rfl⟩ : ∃ m', m = m' + 1 := ⟨m - 1, by omega⟩
              have hbl : ((l.drop off).take 64).length = 64 := by simp; omega
              obtain ⟨blk, hblk⟩ : ∃ blk : ByteArray, blk = ⟨((l.drop off).take 64).toArray⟩ := ⟨_, rfl⟩
              have hbks : blk.size = 64 := by rw [hblk]; exact hbl
              have hby : Lib.Bytes wr g off blk := by
                intro i hi
                have hi2 : off + i < l.length := by rw [hbks] at hi; omega
                rw [hch.cell (p := ⟨g, off + i, none⟩) (HCE.out (off + i) hi2) hgb]
                subst hblk
                show some (bv8 l[off + i]) = some (.int .u8 ((((l.drop off).take 64).toArray[i]'hi).toNat : Int))
                simp [bv8]
              have hcv := Lib.run_convert_whole (P := Tryz.prog) wr 125 5 9 Tryz.underlying125 Tryz.underlying5 Tryz.underlying9 g off blk hby (cap - off)
              rw [hbks] at hcv
              have hTx := words_chg HT.out (HCW.out.trans hch (fun i hi h => absurd h (by omega))) (fun h => h)
              have hmixc := mix_any blk hbks wr bs _ cs5 st hst hTx (by omega)
              have hnext : mixAll m' (mixR blk st) (l.drop (off + 64)) = mixAll l.length f l := by
                rw [← hmix]
                conv => rhs; unfold mixAll
                rw [if_neg (by simp; omega), hblk, List.drop_drop]
              have HNX := hid hnext
              have HCH9 := hid hch
              clear hmix hst hch hnext hblk hby hTx hac
              go_wp2_with (go_at_call 105; refine hmixc.mono ?_; rintro e w8 ⟨rfl, cs8, hS8, hs8, hr8, hc8⟩)
              all_goals
                refine ⟨⟨off + 64, by omega, by omega, m', mixR blk st, _, _, ⟨rfl, by omega, rfl⟩, fun h => ?_, by omega, HNX.out, ⟨_, hS8⟩, HCH9.out.trans hc8 (fun _ _ h => h)⟩, by simp [sliceLen]; omega⟩
                first | exact absurd h (by omega) | exact ⟨rfl, by omega⟩
    · have h56' : (((l.length % 64 : Nat) : Int) == 56) = false := by simp; omega
      go_wp2_with (at_builtin; go_loud (refine wpList_append1 rfl _ _ rfl hrw rfl 0 _ rfl _ _ rfl rfl (by omega) ?_; intro v3 w3 hrow3 hc3 hvo3))
      go_roundw
      case rel =>
        refine ⟨l ++ [0], hrow3, ?_, ?_, fun k hk => ?_, HCH.out.trans hc3 (fun i hi h => absurd (HVO2.out _ h) (by omega))⟩
        · rw [← HPAD.out]
          unfold padR
          rw [List.length_append, List.length_singleton, List.append_assoc, pad_next h56, List.replicate_succ]
          rfl
        · rw [List.length_append, List.length_singleton]
          have h1 := pad_next h56
          have h2 := remF_lt l.length
          have h3 := hll
          omega
        · rcases hvo3 k hk with h | h
          · exact HVO2.out _ h
          · exact Nat.le_trans HCH.out.size h
      case measure =>
        rw [hrow3.sl, hrw.sl, List.length_append, List.length_singleton]
        have := pad_next h56
        omega
end Go.Proofs.YthglfmacjoecgaaGreatDoor
namespace Go.Proofs.YthglfmacjoecgaaGreatDoor
open Go.RowKit

/-- The digest of texts one behind the other, byte by byte. -/
def ofB (ss : List ByteArray) : Nat → UInt8 := digB (sumF (addsR ss).1 (addsR ss).2.1 (addsR ss).2.2)

/-- Of with what its parts answer named: no walk looks into them. -/
structure OfParts (ss : List ByteArray) (f : Nat → Int) (r : ByteArray) (m : Int) (D : Nat → UInt8) : Prop where
  less : r.size < 64
  add : ∀ (w : World) (b : Nat) (g n c : Nat) (_ : n = ss.length) (_ : ss.length ≤ 1000) (_ : sumSize ss ≤ 140737488355328) (_ : ∀ i (h : i < ss.length), w.cell? ⟨g, i, none⟩ = some (.string ss[i])) (_ : g ≠ b)
    (_ : PressAt w b iv .empty 0) (_ : Lib.TabIs Tryz.prog w "apiary/stamp.words" .u32 wordsL) (_ : gWd ≠ b),
    Calls Tryz.prog 65 #[.pointer (some ⟨b, 0, none⟩), .slice (some ⟨g, 0, none⟩) n c] w
      (fun e w' => e = .returned (.pointer (some ⟨b, 0, none⟩)) ∧ PressAt w' b f r m ∧ Chg (fun k => k = b) w w')
  sum : ∀ (w : World) (b : Nat) (_ : PressAt w b f r m) (_ : Lib.TabIs Tryz.prog w "apiary/stamp.words" .u32 wordsL) (_ : gWd < w.heap.size),
    Calls Tryz.prog 66 #[.pointer (some ⟨b, 0, none⟩)] w (Rets (.agg (rowB 32 D)) (Chg (fun _ => False) w))
theorem ofParts (ss : List ByteArray) : OfParts ss (addsR ss).1 (addsR ss).2.1 (addsR ss).2.2 (ofB ss) :=
  ⟨addsR_less ss, fun w b g n c h1 h2 h3 h4 h5 h6 h7 h8 => sadd_any w b ss g n c h1 h2 h3 h4 h5 h6 h7 h8, fun w b h1 h2 h3 => ssum_any w b _ _ _ (addsR_less ss) h1 h2 h3⟩

set_option maxRecDepth 100000 in
set_option maxHeartbeats 1000000 in
theorem of_parts (w : World) (ss : List ByteArray) (g n c : Nat) (hn : n = ss.length) (hl : ss.length ≤ 1000) (hsz : sumSize ss ≤ 140737488355328) (hc : ∀ i (h : i < ss.length), w.cell? ⟨g, i, none⟩ = some (.string ss[i])) (hg : g < w.heap.size)
    (hT : Lib.TabIs Tryz.prog w "apiary/stamp.words" .u32 wordsL) (hgw : gWd < w.heap.size) (f : Nat → Int) (r : ByteArray) (m : Int) (D : Nat → UInt8) (hO : OfParts ss f r m D) :
    Calls Tryz.prog 28 #[.slice (some ⟨g, 0, none⟩) n c] w (Rets (.agg (rowB 32 D)) (Chg (fun _ => False) w)) := by
  have HC := hid hc
  have HT := hid hT
  have HO := hid hO
  clear hc hT hO
  go_enter Tryz.func28, Tryz.ntmps28
  go_wp2_with (first | (refine wpList_alloc0 rfl 57 rfl (rowB 32 (fun _ => 0)) (alloc37 _) ?_; intro w1 ha1 hs1 hc1; have HA1 := hid ha1; have HS1 := hid hs1; have HC1 := hid hc1; clear ha1 hs1 hc1) | (go_at_call 64; refine (snew_any _).mono ?_; rintro e w2 ⟨b, rfl, hb2, hP2, hc2⟩; have HC2 := hid (HC1.out.trans hc2 (fun _ _ h => h)); have HB2 := hid hb2; have HP2 := hid hP2; have HA2 := hid (hc2.obj HA1.out (fun h => h)); clear hb2 hP2 hc2))
  have hb0 : w.heap.size < b := by have h1 := HB2.out; have h2 := HS1.out; omega
  refine (HO.out.add w2 b g _ c rfl hl hsz (fun i hi => HC2.out.cell (HC.out i hi) (fun h => h)) (by omega) HP2.out (words_chg HT.out HC2.out (fun h => h)) (by omega)).mono ?_
  rintro e w3 ⟨rfl, hP3, hc3⟩
  have HC3 := hid (HC2.out.trans hc3 (fun i hi h => by omega))
  have HA3 := hid (hc3.obj HA2.out (by omega))
  have HP3 := hid hP3
  clear hc3 hP3
  have hsum := HO.out.sum w3 b HP3.out (words_chg HT.out HC3.out (fun h => h)) (Nat.lt_of_lt_of_le hgw HC3.out.size)
  go_wp2_with (first | (go_at_call 66; refine hsum.mono ?_; rintro e w4 ⟨rfl, hc4⟩; have HC4 := hid (HC3.out.trans hc4 (fun _ _ h => h)); have HA4 := hid (hc4.obj HA3.out (fun h => h)); clear hc4) | (refine wpList_store0 rfl 57 _ _ rfl w.heap.size (rowB 32 (fun _ => 0)) (rowB 32 D) rfl rfl HA4.out (by rw [rowB_size]; exact size37) rfl (rowB_one _ _) ?_; intro w5 hb5 hs5 hc5))
  refine bodyPost_ret (v := .agg (rowB 32 D)) ?_ rfl ⟨rfl, ?_⟩
  · exact results_row Tryz.results28 _ _ w.heap.size rfl _ (run_loadVar_row _ w.heap.size 57 57 _ (0, 0) (.array 32 5) hb5 Tryz.underlying57 rfl (by rw [rowB_size]; kernel_rfl))
  · exact HC4.out.trans hc5 (fun i hi h => by omega)

theorem of_any (w : World) (ss : List ByteArray) (g n c : Nat) (hn : n = ss.length) (hl : ss.length ≤ 1000) (hsz : sumSize ss ≤ 140737488355328) (hc : ∀ i (h : i < ss.length), w.cell? ⟨g, i, none⟩ = some (.string ss[i])) (hg : g < w.heap.size)
    (hT : Lib.TabIs Tryz.prog w "apiary/stamp.words" .u32 wordsL) (hgw : gWd < w.heap.size) :
    Calls Tryz.prog 28 #[.slice (some ⟨g, 0, none⟩) n c] w (Rets (.agg (rowB 32 (ofB ss))) (Chg (fun _ => False) w)) :=
  of_parts w ss g n c hn hl hsz hc hg hT hgw _ _ _ _ (ofParts ss)
end Go.Proofs.YthglfmacjoecgaaGreatDoor
