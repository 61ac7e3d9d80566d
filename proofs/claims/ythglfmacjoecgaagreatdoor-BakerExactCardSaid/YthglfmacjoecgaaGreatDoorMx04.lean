/- Texts of the proof, one behind the other: A row of bytes that may bear a conversion's mark; one byte appended; (*stamp.Press).Sum walked; stamp.Of walked: the digest of texts; mill.step's letter 'h' walked; apiaryref02.turn walked; words turned and joined, in plain words; apiaryref02.block walked: its words; The digest of one text, in plain words: all blocks of the padded text, one behind the other, as the document has it. No program in sight; apiaryref02.consts and Of walked; apiaryref02.Of walked; apiaryref03.Bytes, bytes walked: a digest's bytes as a text; stamp.Row, apiaryref02.Row walked. -/
import Derived.Test.YthglfmacjoecgaaGreatDoorMx03
import Derived.Lib.FrozenHead2
import Derived.Lib.SlBytesRow
import Derived.StillTailTactics
import Derived.Deep.RegionHeld3
import Derived.Test.YthglfmacjoecgaaGreatDoorMx01
import Derived.BigQuiet
import Derived.Test.YthglfmacjoecgaaGreatDoorMx02
namespace Go.Proofs.YthglfmacjoecgaaGreatDoor
open Go.RowKit

def bv8 (b : UInt8) : Value := .int .u8 (b.toNat : Nat)
/-- The slice v of n bytes is a row of the call's own; nothing within it is frozen. -/
def RowM (w : World) (v : Value) (l : List UInt8) : Prop :=
  ∃ g cap cur fz, v = .slice (some ⟨g, 0, none⟩) l.length cap ∧ w.heap[g]? = some (.cells cur 5 fz) ∧ (fz = (0, 0) ∨ cur.size ≤ fz.1) ∧ l.length ≤ cap ∧ cap ≤ maxLen ∧ cur.size = cap ∧ cur.toList.take l.length = l.map bv8
theorem RowM.len {w0 : World} {v : Value} {l : List UInt8} (h : RowM w0 v l) (w : World) (ty : TypeId) : (Builtin.len_ #[125] ty #[v]).run Tryz.prog w = .ok (.int .i64 l.length) w := by
  obtain ⟨g, cap, cur, fz, rfl, _⟩ := h
  simp [Builtin.len_, run_underlying Tryz.underlying125]; rfl
theorem RowM.chg {F : Nat → Prop} {w w' : World} {v : Value} {l : List UInt8} (h : RowM w v l) (hc : Chg F w w') (hF : ∀ k, v.ownBlock = some k → ¬ F k) : RowM w' v l := by
  obtain ⟨g, cap, cur, fz, rfl, hg, r⟩ := h
  exact ⟨g, cap, cur, fz, rfl, hc.obj hg (hF g rfl), r⟩
theorem RowM.lt {w : World} {v : Value} {l : List UInt8} (h : RowM w v l) : ∀ k, v.ownBlock = some k → k < w.heap.size := by
  obtain ⟨g, cap, cur, fz, rfl, hg, r⟩ := h
  intro k hk
  simp [Value.ownBlock] at hk
  subst hk
  exact heap_lt hg
theorem infoU8 : ∃ i, Tryz.prog.info? 5 = some i ∧ i.zero = some (.int .u8 0) ∧ i.size = 1 ∧ i.bytes = 1 := by
  obtain ⟨i, hi, h0, h3, h2⟩ := info_parts (P := Tryz.prog) (e := 5) (z := .int .u8 0) (size := 1) (bytes := 1) (by kernel_rfl)
  exact ⟨i, hi, h0, h3, h2⟩

theorem conv_row (w : World) (s : ByteArray) (hs : s.size ≤ maxLen) : ∃ v w1, (convert 9 125 (.string s)).run Tryz.prog w = .ok v w1 ∧ RowM w1 v s.data.toList ∧ Chg (fun _ => False) w w1 ∧ w1.heap.size = w.heap.size + 1 ∧ v.ownBlock = some w.heap.size := by
  have hge := grownCap_ge w s.size 0 5
  have hcs : (Lib.bytesCells w 5 s).size = grownCap w s.size 0 5 := by
    unfold Lib.bytesCells
    have : s.data.size = s.size := rfl
    simp only [Array.size_append, Array.size_map, Array.size_replicate]
    omega
  have hl : s.data.toList.length = s.size := by simp
  refine ⟨_, _, Lib.run_convert_string_bytes w _ _ 5 s Tryz.underlying9 Tryz.underlying125 Tryz.underlying5, ?_, ⟨rfl, rfl, rfl, by rw [Lib.bytesWorld_size]; omega, fun k hk _ => Lib.bytesWorld_at_old w _ s k hk⟩, Lib.bytesWorld_size w _ s, rfl⟩
  refine ⟨w.heap.size, _, _, _, by rw [hl], Lib.bytesWorld_at_new w _ s, .inr (Nat.le_refl _), by rw [hl]; exact hge, grownCap_le_maxLen w s.size 0 _ hs, hcs, ?_⟩
  unfold Lib.bytesCells
  rw [Array.toList_append, List.take_left' (by simp)]
  rw [Array.toList_map]
  rfl

theorem run_append1 (w : World) (ty : TypeId) (v : Value) (l : List UInt8) (h : RowM w v l) (ad : Addr) (c : Nat) (x : UInt8) (hx : w.cell? ad = some (bv8 x)) (hb : l.length + 1 ≤ 140737488355328) :
    ∃ v' w', (Builtin.append_ #[125, 125] ty #[v, .slice (some ad) 1 c]).run Tryz.prog w = .ok v' w' ∧ RowM w' v' (l ++ [x]) ∧ Chg (fun k => v.ownBlock = some k) w w' ∧ (∀ k, v'.ownBlock = some k → v.ownBlock = some k ∨ w.heap.size ≤ k) := by
  obtain ⟨i, hi, hz, hsize, hbytes⟩ := infoU8
  obtain ⟨g, cap, cur, fz, rfl, hg, hfz, hnc, hcm, hcs, htake⟩ := h
  have hnews : ∀ j u, [bv8 x][j]? = some u → w.cell? (ad.add j) = some u := by
    intro j u hj
    match j, hj with
    | 0, hj => simp at hj; subst hj; rw [Addr.add_zero']; exact hx
    | j + 1, hj => simp at hj
  by_cases hroom : l.length + 1 ≤ cap
  · have hf := run_firstCells_some (P := Tryz.prog) w i.size 1 ad 1 c [bv8 x] (by simp [hsize]) hnews
    rw [hsize] at hf
    have hcell : w.cell? ⟨g, l.length, none⟩ = some cur[l.length] := by rw [cell_of hg]; exact Array.getElem?_eq_getElem (by omega)
    have hfro : w.frozen? ⟨g, l.length, none⟩ = false := by
      simp only [World.frozen?, hg]
      rcases hfz with rfl | hfz
      · simp
      · simp; omega
    have hst : (storeCells ⟨g, l.length, none⟩ [bv8 x] 0).run Tryz.prog w = .ok () (w.setCell ⟨g, l.length, none⟩ (bv8 x)) := by
      have := run_storeCells_cells (P := Tryz.prog) g l.length [bv8 x] 0 w (fun j hj => by
        obtain rfl : j = 0 := by simpa using hj
        show (w.cell? ⟨g, l.length, none⟩).isSome = true
        rw [hcell]; rfl) (fun j hj => by
        obtain rfl : j = 0 := by simpa using hj
        exact hfro) (by simp [bv8, Value.oneCell'])
      simpa [World.setCells] using this
    refine ⟨.slice (some ⟨g, 0, none⟩) (l.length + 1) cap, w.setCell ⟨g, l.length, none⟩ (bv8 x), ?_, ?_, ?_, ?_⟩
    · simp [Builtin.append_, run_underlying Tryz.underlying125, sizeOf, typeInfo, hi, Builtin.lenOf, hroom, hf, Addr.add_lit, hsize, hst]
    · refine ⟨g, cap, cur.setIfInBounds l.length (bv8 x), fz, by simp, heap_set_same hg _ _, by simpa using hfz, by simpa using hroom, hcm, by simpa using hcs, ?_⟩
      rw [List.length_append, List.length_singleton, Array.toList_setIfInBounds, List.take_set, List.map_append, ← htake]
      apply List.ext_getElem?
      intro j
      rw [List.getElem?_set]
      by_cases e : l.length = j
      · subst e
        have : (List.take l.length cur.toList).length = l.length := by simp; omega
        rw [if_pos rfl, if_pos (by simp; omega), List.getElem?_append_right (by omega), this]
        simp
      · rw [if_neg e]
        by_cases e2 : j < l.length
        · rw [List.getElem?_append_left (by simp; omega), List.getElem?_take, List.getElem?_take, if_pos (by omega), if_pos e2]
        · rw [List.getElem?_take, if_neg (by omega), List.getElem?_append_right (by simp; omega)]
          rw [List.getElem?_eq_none (by simp; omega)]
    · exact (Chg.refl (fun k => (Value.slice (some ⟨g, 0, none⟩) l.length cap).ownBlock = some k) w).setCell (p := ⟨g, l.length, none⟩) (fun _ => rfl) _
    · intro k hk; exact .inl hk
  · have holds : ∀ j u, (l.map bv8)[j]? = some u → w.cell? ((⟨g, 0, none⟩ : Addr).add j) = some u := by
      intro j u hj
      have hadd : (⟨g, 0, none⟩ : Addr).add j = ⟨g, j, none⟩ := by unfold Addr.add; split <;> simp_all
      rw [hadd, cell_of hg]
      rw [← htake, List.getElem?_take] at hj
      split at hj
      · simpa using hj
      · cases hj
    have hr := run_append_grow (P := Tryz.prog) w 125 ty 5 i (.int .u8 0) Tryz.underlying125 hi hz ⟨g, 0, none⟩ l.length cap (l.map bv8) (by simp [hsize]) holds ad 1 c [bv8 x] (by simp [hsize]) hnews (by omega) (by omega) (growslice_fits (by omega) (by rw [hbytes]; omega))
    have hge := grownCap_ge w (l.length + 1) cap 5
    have hcm2 : grownCap w (l.length + 1) cap 5 ≤ maxLen := grownCap_le_maxLen w (l.length + 1) cap _ (by unfold maxLen; omega)
    refine ⟨_, _, hr, ⟨w.heap.size, grownCap w (l.length + 1) cap 5, _, (0, 0), by simp, heap_alloc_new w.drew _, .inl rfl, by simpa using hge, hcm2, ?_, ?_⟩, ⟨rfl, rfl, rfl, by simp, fun k hk _ => heap_alloc_old w.drew _ hk⟩, ?_⟩
    · simp only [Array.size_append, List.size_toArray, size_zeroCells, List.length_map, List.length_singleton]
      simp [Value.cells]
      omega
    · simp only [Array.toList_append, List.append_assoc]
      rw [← List.append_assoc, List.map_append, List.length_append, List.length_singleton]
      exact List.take_left' (by simp)
    · intro k hk; simp [Value.ownBlock] at hk; exact .inr (by omega)
section
variable {w : World} {ops : Array Oper} {rest : List Oper} {o : Oper} {a : Act} {Q : Exit → Act → World → Prop}
/-- 'append(s, x)' at such a row, the byte just laid by this very statement. -/
theorem wpList_append1 (hgd : o.guard = none) (s x : Operand) (ho : o.op = .call { callee := .builtin .append, args := #[s, x], argTypes := #[125, 125] })
    {v : Value} {l : List UInt8} (h : RowM w v l) (hs : a.eval s = v) (b : UInt8) (arr : Array Value) (ha : arr = #[bv8 b]) (n c : Nat) (hn : n = 1) (hx : a.eval x = .slice (some ⟨w.heap.size, 0, none⟩) n c) (hb : l.length + 1 ≤ 140737488355328)
    (k : ∀ v' w', RowM w' v' (l ++ [b]) → Chg (fun k => v.ownBlock = some k) w w' → (∀ k, v'.ownBlock = some k → v.ownBlock = some k ∨ w.heap.size ≤ k) → wpList Tryz.prog ops Q rest (a.put o.dst v') w') :
    wpList Tryz.prog ops Q (o :: rest) a (w.alloc (.cells arr 5)) := by
  subst ha hn
  refine wpList_plain hgd fun K hK => ?_
  have h' : RowM (w.alloc (.cells #[bv8 b] 5)) v l := h.chg ((Chg.refl (fun _ => False) w).alloc _) (fun _ _ h => h)
  obtain ⟨v', w', hr, h1, h2, h3⟩ := run_append1 (w.alloc (.cells #[bv8 b] 5)) o.type v l h' ⟨w.heap.size, 0, none⟩ c b ((cell_of (heap_alloc_new w _) 0).trans rfl) hb
  unfold Oper.wp execOp
  simp only [ho, resolve, invoke, builtin, Sem.run_bind, Sem.run_pure, Result.andThen_ok, List.map_toArray, List.map_cons, List.map_nil, hs, hx, hr]
  refine hK _ _ (k v' w' h1 (((Chg.refl _ w).alloc _).trans h2 (fun _ _ h => h)) (fun k hk => (h3 k hk).imp id (fun h => by simp at h; omega)))
end
end Go.Proofs.YthglfmacjoecgaaGreatDoor
namespace Go.Proofs.YthglfmacjoecgaaGreatDoor
open Go.RowKit

def sliceLen : Value → Nat
  | .slice _ n _ => n
  | _ => 0
theorem RowM.sl {w : World} {v : Value} {l : List UInt8} (h : RowM w v l) : sliceLen v = l.length := by
  obtain ⟨g, cap, cur, fz, rfl, _⟩ := h
  rfl
def remF (n : Nat) : Nat := (120 - n % 64) % 64
/-- Zeros behind a text, so that there is room for its length. -/
def padR (l : List UInt8) : List UInt8 := l ++ List.replicate (remF l.length) 0
theorem pad_stop {n : Nat} (h : n % 64 = 56) : remF n = 0 := by unfold remF; omega
theorem pad_next {n : Nat} (h : n % 64 ≠ 56) : remF n = remF (n + 1) + 1 := by unfold remF; omega
theorem pad_size (n : Nat) : (n + remF n) % 64 = 56 := by unfold remF; omega
/-- The bytes of a length. -/
def lenB (n : Int) (i : Nat) : UInt8 := UInt8.ofNat ((IntKind.u64.wrap (IntKind.u64.wrap n * 8) / 2 ^ (8 * (7 - i))) % 256).toNat
theorem lenB_val (n : Int) (k : Nat) : ((lenB n k).toNat : Int) = IntKind.u64.wrap (IntKind.u64.wrap n * 8) / 2 ^ (8 * (7 - k)) % 256 := by
  unfold lenB
  generalize IntKind.u64.wrap (IntKind.u64.wrap n * 8) / 2 ^ (8 * (7 - k)) = x
  rw [UInt8.toNat_ofNat']
  omega
def lensL (n : Int) (k : Nat) : List UInt8 := (List.range k).map (lenB n)
theorem lensL_next (n : Int) (k : Nat) : lensL n (k + 1) = lensL n k ++ [lenB n k] := by unfold lensL; rw [List.range_succ, List.map_append]; rfl
/-- What is summed up at the end. -/
def tailL (rest : ByteArray) (n : Int) : List UInt8 := padR (rest.data.toList ++ [128]) ++ lensL n 8
def mixAll : Nat → (Nat → Int) → List UInt8 → (Nat → Int)
  | 0, f, _ => f
  | m + 1, f, l => if l.length < 64 then f else mixAll m (mixR ⟨(l.take 64).toArray⟩ f) (l.drop 64)
theorem mixAll_end (m : Nat) (f : Nat → Int) (l : List UInt8) (h : l.length < 64) : mixAll m f l = f := by
  cases m with
  | zero => rfl
  | succ m => unfold mixAll; rw [if_pos h]
def sumF (f : Nat → Int) (rest : ByteArray) (n : Int) : Nat → Int := mixAll (tailL rest n).length f (tailL rest n)
theorem tailL_len (rest : ByteArray) (n : Int) : (tailL rest n).length % 64 = 0 := by
  unfold tailL padR lensL
  have := pad_size (rest.data.toList ++ [128]).length
  simp only [List.length_append, List.length_replicate, List.length_map, List.length_range] at *
  omega
theorem remF_lt (n : Nat) : remF n < 64 := by unfold remF; omega

set_option maxRecDepth 100000 in
set_option maxHeartbeats 4000000 in
theorem ssum_any (w : World) (b : Nat) (f : Nat → Int) (rest : ByteArray) (n : Int) (hr : rest.size < 64) (hP : PressAt w b f rest n) (hT : Lib.TabIs Tryz.prog w "apiary/stamp.words" .u32 wordsL) (hgw : gWd < w.heap.size) :
    Calls Tryz.prog 66 #[.pointer (some ⟨b, 0, none⟩)] w (Rets (.agg (rowB 32 (digB (sumF f rest n)))) (Chg (fun _ => False) w)) := by
  obtain ⟨cs, hS, h8, h9⟩ := hP
  have hbw := heap_lt hS.heap
  have HS := hid hS
  have H8 := hid h8
  have H9 := hid h9
  have HT := hid hT
  clear hS h8 h9 hT
  go_enter Tryz.func66, Tryz.ntmps66
  go_wp2_with (first | (refine wpList_alloc0 rfl 57 rfl (rowB 32 (fun _ => 0)) (alloc37 _) ?_; intro w1 ha1 hs1 hc1; have x8 := hc1.cell ((cell_of HS.out.heap 8).trans H8.out) (fun h => h); obtain ⟨v0, wc, hconv, hrow, hcc, hscc, hvo⟩ := conv_row w1 rest (by unfold maxLen; omega); have HHS1 := hid hs1; have HCC := hid hcc; have HVO := hid hvo; have HSC := hid hscc; clear hs1 hcc hvo hscc) | (at_builtin; go_loud (refine wpList_append1 rfl _ _ rfl hrow rfl 128 _ rfl _ _ rfl rfl (by simp; omega) ?_; intro v2 w2 hrow2 hc2 hvo2)))
  have hl0 : Hid (padR (rest.data.toList ++ [128]) = padR (rest.data.toList ++ [128])) := rfl
  have H2 : Hid ((∀ k, v2.ownBlock = some k → w1.heap.size ≤ k) ∧ Chg (fun _ => False) w1 w2) := by
    refine ⟨fun k hk => ?_, ?_⟩
    · rcases hvo2 k hk with h | h
      · rw [HVO.out] at h; cases h; exact Nat.le_refl _
      · have := HSC.out; omega
    · refine HCC.out.trans hc2 (fun i hi h => ?_)
      rw [HVO.out] at h; cases h; exact absurd hi (Nat.lt_irrefl _)
  clear hc2 hvo2 hrow hconv x8
  go_loopw [3] (fun v wr => ∃ l : List UInt8, RowM wr v l ∧ padR l = padR (rest.data.toList ++ [128]) ∧ l.length ≤ 200 - remF l.length ∧ (∀ k, v.ownBlock = some k → w1.heap.size ≤ k) ∧ Chg (fun _ => False) w1 wr) (fun v _ => remF (sliceLen v))
  case atStart => exact ⟨_, hrow2, rfl, by have := remF_lt (rest.data.toList ++ [128]).length; simp at this ⊢; omega, H2.out.1, H2.out.2⟩
  case round =>
    obtain ⟨l, hrw, hpad, hll, hvo, hch⟩ := hrel
    have hlenV := fun W ty => hrw.len W ty
    have hmod : (l.length : Int).tmod 64 = ((l.length % 64 : Nat) : Int) := by rw [Int.tmod_eq_emod_of_nonneg (by omega)]; omega
    have HPAD := hid hpad
    have HVO2 := hid hvo
    have HCH := hid hch
    clear hpad hvo hch hrow2
    by_cases h56 : l.length % 64 = 56
    · have h56' : (((l.length % 64 : Nat) : Int) == 56) = true := by simp [h56]
      have hl0 : l = padR (rest.data.toList ++ [128]) := by
        rw [← HPAD.out]; unfold padR; rw [pad_stop h56]; simp
      have hlen8 : l.length ≤ 200 := by omega
      have HL0 := hid hl0
      clear hl0 HPAD hll
      go_wp2_with fail
      clear hlenV hmod
      obtain ⟨wo, hwo⟩ : ∃ wo : World, wo = wr := ⟨_, rfl⟩
      rw [← hwo] at hrw HCH ⊢
      clear hwo
      go_loopw [3, 23] (fun v i wr => ∃ k : Nat, k ≤ 8 ∧ i = .int .i64 k ∧ RowM wr v (l ++ lensL n k) ∧ (∀ k, v.ownBlock = some k → w1.heap.size ≤ k) ∧ Chg (fun _ => False) w1 wr) (fun _ i _ => 8 - (intOf i).toNat)
      case atStart => exact ⟨0, Nat.zero_le _, rfl, by simpa [lensL] using hrw, HVO2.out, HCH.out⟩
      case round =>
        obtain ⟨k, hk, rfl, hrw2, hvo, hch⟩ := hrel
        have hll2 : (lensL n k).length = k := by simp [lensL]
        by_cases hkn : k < 8
        · have hkn' : (k : Int) < 8 := by omega
          have x9 := (hc1.trans hch (fun _ _ h => h)).cell ((cell_of HS.out.heap 9).trans H9.out) (fun h => h)
          have hw7 : IntKind.i64.wrap (7 - (k : Int)) = ((7 - k : Nat) : Int) := by rw [IntWalk.i64_in _ (by omega)]; omega
          have hw8 : IntKind.i64.wrap (8 * ((7 - k : Nat) : Int)) = ((8 * (7 - k) : Nat) : Int) := by rw [IntWalk.i64_in _ (by omega)]; omega
          have HVO3 := hid hvo
          have HCH3 := hid hch
          clear hvo hch hrw
          go_wp2_with (at_builtin; go_loud (refine wpList_append1 rfl _ _ rfl hrw2 rfl (lenB n k) _ (by unfold bv8; rw [lenB_val]) _ _ rfl rfl (by rw [List.length_append, hll2]; omega) ?_; intro v3 w3 hrow3 hc3 hvo3))
          go_roundw
          case rel =>
            refine ⟨k + 1, by omega, by go_num, by rw [lensL_next, ← List.append_assoc]; exact hrow3, fun i hi => ?_, HCH3.out.trans hc3 (fun i hi h => absurd (HVO3.out _ h) (by omega))⟩
            rcases hvo3 i hi with h | h
            · exact HVO3.out _ h
            · exact Nat.le_trans HCH3.out.size h
          case measure => simp [intOf]; omega
        · obtain rfl : k = 8 := by omega
          have hE : l ++ lensL n 8 = tailL rest n := by rw [HL0.out]; rfl
          rw [hE] at hrw2
          have hS1 : StAt wr b 181 cs f := ⟨(hc1.trans hch (fun _ _ h => h)).obj HS.out.heap (fun h => h), HS.out.word⟩
          have hTl := tailL_len rest n
          have hTs : (tailL rest n).length ≤ 300 := by rw [← hE, List.length_append, hll2]; omega
          have HVO3 := hid hvo
          have HCH3 := hid hch
          have HS1 := hid hS1
          clear hvo hch hS1 hE hll2 hrw
          go_wp2_with (first | (refine wpList_loadst rfl 178 _ rfl b rfl (rowF 8 f) (.array 8 176) HS1.out.range Tryz.underlying178 rfl (by rw [rowF_size]; kernel_rfl) ?_) | (refine wpList_alloc0 rfl 178 rfl (rowF 8 (fun _ => 0)) (alloc74 _) ?_; intro w5 ha5 hs5 hc5) | (refine wpList_store0 rfl 178 _ _ rfl wr.heap.size (rowF 8 (fun _ => 0)) (rowF 8 f) rfl rfl ha5 (by rw [rowF_size]; exact size74) rfl (rowF_one _ _) ?_; intro w6 hb6 hs6 hc6))
          go_frame
          have hrw6 : RowM w6 u3 (tailL rest n) := hrw2.chg ((hc5.mono (fun _ _ h => h.elim)).trans hc6 (fun _ _ h => h)) (fun k hk e => by have := hrw2.lt k hk; omega)
          have hcw6 : Chg (fun _ => False) w w6 := ((((hc1.trans HCH3.out (fun _ _ h => h)).trans hc5 (fun _ _ h => h))).trans hc6 (fun i hi h => by have := HCH3.out.size; have := hc1.size; omega))
          have hbs : w.heap.size ≤ wr.heap.size := Nat.le_trans hc1.size HCH3.out.size
          have hd6 : w6.heap[w.heap.size]? = some (.cells (rowB 32 (fun _ => 0)) 57 (0, 0)) := hc6.obj (hc5.obj (HCH3.out.obj ha1 (fun h => h)) (fun h => h)) (by have h1 := heap_lt ha1; have := HCH3.out.size; omega)
          have hdb : w.heap.size ≠ wr.heap.size := by have h1 := heap_lt ha1; have := HCH3.out.size; omega
          have HD6 := hid hd6
          clear hd6
          obtain ⟨bs, hbse⟩ : ∃ bs, bs = wr.heap.size := ⟨_, rfl⟩
          have hgbs : ∀ k, u3.ownBlock = some k → k < bs := fun k hk => by have := hrw2.lt k hk; omega
          rw [← hbse] at hb6 hbs hdb ⊢
          have HSUM : Hid (sumF f rest n = mixAll (tailL rest n).length f (tailL rest n)) := hid rfl
          generalize tailL rest n = l at hrw6 hTl hTs HSUM
          obtain ⟨g, cap, cur, fz, rfl, hg, hfz, hnc, hcm, hcs, htake⟩ := hrw6
          have hgb : g ≠ bs := by have := hgbs g rfl; omega
          have hcells : ∀ i (h : i < l.length), w6.cell? ⟨g, i, none⟩ = some (bv8 l[i]) := by
            intro i hi
            rw [cell_of hg]
            have h1 : (cur.toList.take l.length)[i]? = (l.map bv8)[i]? := by rw [htake]
            rw [List.getElem?_take, if_pos hi] at h1
            rw [← Array.getElem?_toList, h1]
            simp [List.getElem?_eq_getElem hi]
          have HCE := hid hcells
          have HCW := hid hcw6
          have HB6 := hid hb6
          clear hrw2 hcells hcw6 hb6 ha5 hs5 hc5 hs6 hc6 hg hfz hcs htake hgbs hbse HVO3 HCH3 HS1 HVO2 HCH H2
          go_loopw [3] (fun v wx => ∃ off m st a c cs5, off ≤ l.length ∧ off % 64 = 0 ∧ v = .slice (some a) (l.length - off) c ∧ (off < l.length → a = ⟨g, off, none⟩ ∧ c = cap - off) ∧ l.length - off ≤ m ∧ mixAll m st (l.drop off) = mixAll l.length f l ∧ StAt wx bs 178 cs5 st ∧ Chg (fun k => k = bs) w6 wx) (fun v _ => sliceLen v)
          case atStart => exact ⟨0, l.length, f, _, _, _, Nat.zero_le _, rfl, rfl, fun _ => ⟨rfl, rfl⟩, Nat.le_refl _, rfl, StAt.row HB6.out, Chg.refl _ _⟩
          case round =>
            obtain ⟨off, m, st, a, c, cs5, hoff, hmod, rfl, hac, hm, hmix, hst, hch⟩ := hrel
            by_cases hend : off = l.length
            · subst hend
              have hlz : (l.length : Int) - (l.length : Int) = 0 := by omega
              have hlz2 : l.length - l.length = 0 := by omega
              have hfst : st = mixAll l.length f l := by
                rw [← hmix]
                exact (mixAll_end m st (l.drop l.length) (by simp)).symm
              have hdig := digest_any wr bs _ cs5 st hst
              have HFS := hid hfst
              have HCH9 := hid hch
              clear hmix hst hch hfst
              go_wp2_with (first | (go_at_call 106; refine hdig.mono ?_; rintro e w8 ⟨rfl, hc8⟩; have hd8 := hc8.obj (HCH9.out.obj HD6.out hdb) (fun h => h)) | (refine wpList_store0 rfl 57 _ _ rfl w.heap.size (rowB 32 (fun _ => 0)) (rowB 32 (digB st)) rfl rfl hd8 (by rw [rowB_size]; exact size37) rfl (rowB_one _ _) ?_; intro w9 hb9 hs9 hc9))
              refine bodyPost_ret (v := .agg (rowB 32 (digB st))) ?_ rfl ⟨by rw [HSUM.out, HFS.out], ?_⟩
              · exact results_row Tryz.results66 _ _ w.heap.size rfl _ (run_loadVar_row _ w.heap.size 57 57 _ (0, 0) (.array 32 5) hb9 Tryz.underlying57 rfl (by rw [rowB_size]; kernel_rfl))
              · exact ((HCW.out.trans HCH9.out (fun i hi h => by omega)).trans hc8 (fun _ _ h => h)).trans hc9 (fun i hi h => by omega)
            · have hlt : off < l.length := by omega
              obtain ⟨rfl, rfl⟩ := hac hlt
              have h64 : 64 ≤ l.length - off := by omega
              have h64' : (0 : Int) < ((l.length - off : Nat) : Int) := by omega
              have h65 : (64 : Int) ≤ ((l.length - off : Nat) : Int) := by omega
              have h66 : (64 : Int) ≤ ((cap - off : Nat) : Int) := by omega
              obtain ⟨m', rfl⟩ : ∃ m', m = m' + 1 := ⟨m - 1, by omega⟩
              have hbl : ((l.drop off).take 64).length = 64 := by simp; omega
              obtain ⟨blk, hblk⟩ : ∃ blk : ByteArray, blk = ⟨((l.drop off).take 64).toArray⟩ := ⟨_, rfl⟩
              have hbks : blk.size = 64 := by rw [hblk]; exact hbl
              have hby : Lib.Bytes wr g off blk := by
                intro i hi
                have hi2 : off + i < l.length := by rw [hbks] at hi; omega
                rw [hch.cell (p := ⟨g, off + i, none⟩) (HCE.out (off + i) hi2) hgb]
                subst hblk
                show some (bv8 l[off + i]) = some (.int .u8 ((((l.drop off).take 64).toArray[i]'hi).toNat : Int))
                simp [bv8]
              have hcv := Lib.run_convert_whole (P := Tryz.prog) wr 125 5 9 Tryz.underlying125 Tryz.underlying5 Tryz.underlying9 g off blk hby (cap - off)
              rw [hbks] at hcv
              have hTx := words_chg HT.out (HCW.out.trans hch (fun i hi h => absurd h (by omega))) (fun h => h)
              have hmixc := mix_any blk hbks wr bs _ cs5 st hst hTx (by omega)
              have hnext : mixAll m' (mixR blk st) (l.drop (off + 64)) = mixAll l.length f l := by
                rw [← hmix]
                conv => rhs; unfold mixAll
                rw [if_neg (by simp; omega), hblk, List.drop_drop]
              have HNX := hid hnext
              have HCH9 := hid hch
              clear hmix hst hch hnext hblk hby hTx hac
              go_wp2_with (go_at_call 105; refine hmixc.mono ?_; rintro e w8 ⟨rfl, cs8, hS8, hs8, hr8, hc8⟩)
              all_goals
                refine ⟨⟨off + 64, by omega, by omega, m', mixR blk st, _, _, ⟨rfl, by omega, rfl⟩, fun h => ?_, by omega, HNX.out, ⟨_, hS8⟩, HCH9.out.trans hc8 (fun _ _ h => h)⟩, by simp [sliceLen]; omega⟩
                first | exact absurd h (by omega) | exact ⟨rfl, by omega⟩
    · have h56' : (((l.length % 64 : Nat) : Int) == 56) = false := by simp; omega
      go_wp2_with (at_builtin; go_loud (refine wpList_append1 rfl _ _ rfl hrw rfl 0 _ rfl _ _ rfl rfl (by omega) ?_; intro v3 w3 hrow3 hc3 hvo3))
      go_roundw
      case rel =>
        refine ⟨l ++ [0], hrow3, ?_, ?_, fun k hk => ?_, HCH.out.trans hc3 (fun i hi h => absurd (HVO2.out _ h) (by omega))⟩
        · rw [← HPAD.out]
          unfold padR
          rw [List.length_append, List.length_singleton, List.append_assoc, pad_next h56, List.replicate_succ]
          rfl
        · rw [List.length_append, List.length_singleton]
          have h1 := pad_next h56
          have h2 := remF_lt l.length
          have h3 := hll
          omega
        · rcases hvo3 k hk with h | h
          · exact HVO2.out _ h
          · exact Nat.le_trans HCH.out.size h
      case measure =>
        rw [hrow3.sl, hrw.sl, List.length_append, List.length_singleton]
        have := pad_next h56
        omega
end Go.Proofs.YthglfmacjoecgaaGreatDoor
namespace Go.Proofs.YthglfmacjoecgaaGreatDoor
open Go.RowKit

/-- The digest of texts one behind the other, byte by byte. -/
def ofB (ss : List ByteArray) : Nat → UInt8 := digB (sumF (addsR ss).1 (addsR ss).2.1 (addsR ss).2.2)

/-- Of with what its parts answer named: no walk looks into them. -/
structure OfParts (ss : List ByteArray) (f : Nat → Int) (r : ByteArray) (m : Int) (D : Nat → UInt8) : Prop where
  less : r.size < 64
  add : ∀ (w : World) (b : Nat) (g n c : Nat) (_ : n = ss.length) (_ : ss.length ≤ 1000) (_ : sumSize ss ≤ 140737488355328) (_ : ∀ i (h : i < ss.length), w.cell? ⟨g, i, none⟩ = some (.string ss[i])) (_ : g ≠ b)
    (_ : PressAt w b iv .empty 0) (_ : Lib.TabIs Tryz.prog w "apiary/stamp.words" .u32 wordsL) (_ : gWd ≠ b),
    Calls Tryz.prog 65 #[.pointer (some ⟨b, 0, none⟩), .slice (some ⟨g, 0, none⟩) n c] w
      (fun e w' => e = .returned (.pointer (some ⟨b, 0, none⟩)) ∧ PressAt w' b f r m ∧ Chg (fun k => k = b) w w')
  sum : ∀ (w : World) (b : Nat) (_ : PressAt w b f r m) (_ : Lib.TabIs Tryz.prog w "apiary/stamp.words" .u32 wordsL) (_ : gWd < w.heap.size),
    Calls Tryz.prog 66 #[.pointer (some ⟨b, 0, none⟩)] w (Rets (.agg (rowB 32 D)) (Chg (fun _ => False) w))
theorem ofParts (ss : List ByteArray) : OfParts ss (addsR ss).1 (addsR ss).2.1 (addsR ss).2.2 (ofB ss) :=
  ⟨addsR_less ss, fun w b g n c h1 h2 h3 h4 h5 h6 h7 h8 => sadd_any w b ss g n c h1 h2 h3 h4 h5 h6 h7 h8, fun w b h1 h2 h3 => ssum_any w b _ _ _ (addsR_less ss) h1 h2 h3⟩

set_option maxRecDepth 100000 in
set_option maxHeartbeats 1000000 in
theorem of_parts (w : World) (ss : List ByteArray) (g n c : Nat) (hn : n = ss.length) (hl : ss.length ≤ 1000) (hsz : sumSize ss ≤ 140737488355328) (hc : ∀ i (h : i < ss.length), w.cell? ⟨g, i, none⟩ = some (.string ss[i])) (hg : g < w.heap.size)
    (hT : Lib.TabIs Tryz.prog w "apiary/stamp.words" .u32 wordsL) (hgw : gWd < w.heap.size) (f : Nat → Int) (r : ByteArray) (m : Int) (D : Nat → UInt8) (hO : OfParts ss f r m D) :
    Calls Tryz.prog 28 #[.slice (some ⟨g, 0, none⟩) n c] w (Rets (.agg (rowB 32 D)) (Chg (fun _ => False) w)) := by
  have HC := hid hc
  have HT := hid hT
  have HO := hid hO
  clear hc hT hO
  go_enter Tryz.func28, Tryz.ntmps28
  go_wp2_with (first | (refine wpList_alloc0 rfl 57 rfl (rowB 32 (fun _ => 0)) (alloc37 _) ?_; intro w1 ha1 hs1 hc1; have HA1 := hid ha1; have HS1 := hid hs1; have HC1 := hid hc1; clear ha1 hs1 hc1) | (go_at_call 64; refine (snew_any _).mono ?_; rintro e w2 ⟨b, rfl, hb2, hP2, hc2⟩; have HC2 := hid (HC1.out.trans hc2 (fun _ _ h => h)); have HB2 := hid hb2; have HP2 := hid hP2; have HA2 := hid (hc2.obj HA1.out (fun h => h)); clear hb2 hP2 hc2))
  have hb0 : w.heap.size < b := by have h1 := HB2.out; have h2 := HS1.out; omega
  refine (HO.out.add w2 b g _ c rfl hl hsz (fun i hi => HC2.out.cell (HC.out i hi) (fun h => h)) (by omega) HP2.out (words_chg HT.out HC2.out (fun h => h)) (by omega)).mono ?_
  rintro e w3 ⟨rfl, hP3, hc3⟩
  have HC3 := hid (HC2.out.trans hc3 (fun i hi h => by omega))
  have HA3 := hid (hc3.obj HA2.out (by omega))
  have HP3 := hid hP3
  clear hc3 hP3
  have hsum := HO.out.sum w3 b HP3.out (words_chg HT.out HC3.out (fun h => h)) (Nat.lt_of_lt_of_le hgw HC3.out.size)
  go_wp2_with (first | (go_at_call 66; refine hsum.mono ?_; rintro e w4 ⟨rfl, hc4⟩; have HC4 := hid (HC3.out.trans hc4 (fun _ _ h => h)); have HA4 := hid (hc4.obj HA3.out (fun h => h)); clear hc4) | (refine wpList_store0 rfl 57 _ _ rfl w.heap.size (rowB 32 (fun _ => 0)) (rowB 32 D) rfl rfl HA4.out (by rw [rowB_size]; exact size37) rfl (rowB_one _ _) ?_; intro w5 hb5 hs5 hc5))
  refine bodyPost_ret (v := .agg (rowB 32 D)) ?_ rfl ⟨rfl, ?_⟩
  · exact results_row Tryz.results28 _ _ w.heap.size rfl _ (run_loadVar_row _ w.heap.size 57 57 _ (0, 0) (.array 32 5) hb5 Tryz.underlying57 rfl (by rw [rowB_size]; kernel_rfl))
  · exact HC4.out.trans hc5 (fun i hi h => by omega)

theorem of_any (w : World) (ss : List ByteArray) (g n c : Nat) (hn : n = ss.length) (hl : ss.length ≤ 1000) (hsz : sumSize ss ≤ 140737488355328) (hc : ∀ i (h : i < ss.length), w.cell? ⟨g, i, none⟩ = some (.string ss[i])) (hg : g < w.heap.size)
    (hT : Lib.TabIs Tryz.prog w "apiary/stamp.words" .u32 wordsL) (hgw : gWd < w.heap.size) :
    Calls Tryz.prog 28 #[.slice (some ⟨g, 0, none⟩) n c] w (Rets (.agg (rowB 32 (ofB ss))) (Chg (fun _ => False) w)) :=
  of_parts w ss g n c hn hl hsz hc hg hT hgw _ _ _ _ (ofParts ss)
end Go.Proofs.YthglfmacjoecgaaGreatDoor
namespace Go.Proofs.YthglfmacjoecgaaGreatDoor
open Go.RowKit

/-- A text's digest, as a text. -/
def hashS (s : ByteArray) : ByteArray := ⟨((List.range 32).map (ofB [s])).toArray⟩
theorem hashS_size (s : ByteArray) : (hashS s).size = 32 := by
  show (((List.range 32).map (ofB [s])).toArray).size = 32
  simp
theorem hashS_get (s : ByteArray) (i : Nat) (h : i < (hashS s).size) : (hashS s)[i] = ofB [s] i := by
  have h2 : i < 32 := by rw [hashS_size] at h; exact h
  have e : (hashS s).data[i]? = some (ofB [s] i) := by
    unfold hashS
    simp [h2]
  exact (Array.getElem?_eq_some_iff.1 e).2

set_option maxRecDepth 100000 in
set_option maxHeartbeats 2000000 in
theorem step_h : StepH hashS := by
  intro B w b v code inV at_ r p0 h hB hr h0 hat s hs1 hs2 hc hT
  have hc' : ((s[0].toNat : Nat) : Int) = 104 := by rw [hc]; rfl
  have htk : ∀ w : World, Calls Tryz.prog 96 #[.int .u8 104] w (Rets (.int .i64 1) (fun w' => w = w')) := fun w => takes_any 104 w
  have hpop := mpops h.drew hB 1 rfl (by omega) (by omega)
  have hs0 : (0 : Int) < s.size := by omega
  go_enter Tryz.func61, Tryz.ntmps61
  go_wp2_with (go_at_call 95; refine (number_any s _ (by unfold maxLen; omega)).mono ?_; rintro e w' ⟨rfl, rfl⟩)
  go_region_held3 (fun _ => True) (trivial) (first | (go_at_call 96; refine (htk _).mono ?_; rintro e w' ⟨rfl, rfl⟩) | (go_at_call 93; refine hpop.mono ?_; rintro e w1 ⟨lv, rfl, hch1, hlv, v1, hM1, hv1⟩))
  have c3 := hM1.cell3
  have f3 := frozen_of hM1.st.heap 3
  obtain ⟨g, cap, rfl, hcap, hgl⟩ := owns_some hlv (by decide)
  have hgw := (World.ownsRow.lt hlv g rfl).1
  have hgb : g ≠ b := by have := h.lt; simp at *; omega
  have e0 : w1.cell? ⟨g, 0, none⟩ = some (.string p0) := hlv.cellAt 0 (by omega)
  have hM2 := hM1.setAt (at_ + s.size)
  rw [Int.natCast_add] at hM2
  have k0 := ((Chg.refl (fun k => k = b) w1).setCell (p := ⟨b, 3, none⟩) (fun _ => rfl) (.int .i64 ((at_ : Int) + (s.size : Int)))).cell e0 hgb
  have hB3 : B ≤ (w1.setCell ⟨b, 3, none⟩ (.int .i64 ((at_ : Int) + (s.size : Int)))).heap.size := Nat.le_trans hB (by have := hch1.size; simpa [World.setCell] using this)
  have hW : Chg (fun k => B ≤ k) w (w1.setCell ⟨b, 3, none⟩ (.int .i64 ((at_ : Int) + (s.size : Int)))) := ((Chg.refl _ w).drew).trans (hch1.setCell (p := ⟨b, 3, none⟩) (fun _ => h.hb) _) (fun _ _ h => h)
  have HM2 := hid hM2
  have hM2' := hM2
  have HWW := hid hW
  have HB3 := hid hB3
  clear hW hB3 hM2 hch1 hlv hM1 hv1 hpop
  have hof : Calls Tryz.prog 28 #[.slice (some ⟨w1.heap.size, 0, none⟩) 1 1] ((w1.setCell ⟨b, 3, none⟩ (.int .i64 ((at_ : Int) + (s.size : Int)))).alloc (.cells #[.string p0] 9)) (Rets (.agg (rowB 32 (ofB [p0]))) (Chg (fun _ => False) ((w1.setCell ⟨b, 3, none⟩ (.int .i64 ((at_ : Int) + (s.size : Int)))).alloc (.cells #[.string p0] 9)))) := by
    have hT3 : TabsOK B ((w1.setCell ⟨b, 3, none⟩ (.int .i64 ((at_ : Int) + (s.size : Int)))).alloc (.cells #[.string p0] 9)) := hT.chg (HWW.out.alloc _)
    have hsz1 : (w1.setCell ⟨b, 3, none⟩ (.int .i64 ((at_ : Int) + (s.size : Int)))).heap.size = w1.heap.size := by simp [World.setCell]
    refine of_any _ [p0] _ 1 1 rfl (by simp) (by simp [sumSize]; omega) (fun i hi => ?_) (by simp) hT3.wds (Nat.lt_of_lt_of_le hT3.gw (Nat.le_trans HB3.out (by simp)))
    obtain rfl : i = 0 := by simpa using hi
    rw [← hsz1]
    exact (cell_of (heap_alloc_new _ _) 0).trans rfl
  have hM3 := hM2'.alloc (.cells #[.string p0] 9)
  have HM3 := hid hM3
  have hB4 : B ≤ ((w1.setCell ⟨b, 3, none⟩ (.int .i64 ((at_ : Int) + (s.size : Int)))).alloc (.cells #[.string p0] 9)).heap.size := Nat.le_trans HB3.out (by simp)
  have hW4 : Chg (fun k => B ≤ k) w ((w1.setCell ⟨b, 3, none⟩ (.int .i64 ((at_ : Int) + (s.size : Int)))).alloc (.cells #[.string p0] 9)) := HWW.out.alloc _
  have HB4 := hid hB4
  have HW4 := hid hW4
  clear hM3 hM2' hB4 hW4 HM2 HB3 HWW
  have hps := hashS_size p0
  have hpg := hid (hashS_get p0)
  obtain ⟨hp, hhp⟩ : ∃ hp, hp = hashS p0 := ⟨_, rfl⟩
  rw [← hhp] at hps
  have hpg : Hid (∀ i (h : i < hp.size), hp[i] = ofB [p0] i) := by
    subst hhp; exact hpg
  have HHP := hid hhp
  clear hhp
  generalize ofB [p0] = D at hof hpg
  go_wp2_with (first | (go_at_call 28; refine hof.mono ?_; rintro e w3 ⟨rfl, hc3⟩; have HC3 := hid hc3; clear hc3) | (refine wpList_alloc0 rfl 57 rfl (rowB 32 (fun _ => 0)) (alloc37 _) ?_; intro w4 ha4 hs4 hc4) | (refine wpList_store0 rfl 57 _ _ rfl w3.heap.size (rowB 32 (fun _ => 0)) (rowB 32 D) rfl rfl ha4 (by rw [rowB_size]; exact size37) rfl (rowB_one _ _) ?_; intro w5 hb5 hs5 hc5))
  go_frame
  have hc35 : Chg (fun _ => False) w3 w5 := hc4.trans hc5 (fun i hi h => by omega)
  have hc05 : Chg (fun _ => False) _ w5 := HC3.out.trans hc35 (fun _ _ h => h)
  have hM5 := HM3.out.chg hc05 (fun _ _ h => h)
  have hW5 : Chg (fun k => B ≤ k) w w5 := HW4.out.trans hc05 (fun _ _ h => h.elim)
  have hB5 : B ≤ w5.heap.size := Nat.le_trans HB4.out hc05.size
  have hby : Lib.Bytes w5 w3.heap.size 0 hp := by
    intro i hi
    rw [Nat.zero_add, rowB_cell hb5 i (by rw [hps] at hi; exact hi), hpg.out i hi]
  have hcvAll : ∀ W, Lib.Bytes W w3.heap.size 0 hp → (convert 125 9 (.slice (some ⟨w3.heap.size, 0, none⟩) 32 32)).run Tryz.prog W = .ok (.string hp) W := fun W hW => by
    have := Lib.run_convert_whole (P := Tryz.prog) W 125 5 9 Tryz.underlying125 Tryz.underlying5 Tryz.underlying9 w3.heap.size 0 hp hW 32
    rwa [hps] at this
  have hd5 : w3.heap.size < w5.heap.size := heap_lt hb5
  have hdb : w3.heap.size ≠ b ∧ v1.ownBlock ≠ some w3.heap.size := by
    have h1 := HM3.out.lt
    have h2 := HM3.out.own_lt
    have h3 := HC3.out.size
    exact ⟨by omega, fun e => by have := h2 _ e; omega⟩
  have hcvd := hcvAll w5.drew hby
  have hcva := hcvAll (w5.alloc (.cells #[.string hp] 9)).drew (fun i hi => cell_alloc_drew (hby i hi) _)
  have hcvp : ∀ w', Chg (fun k => k = b ∨ v1.ownBlock = some k) w5 w' → (convert 125 9 (.slice (some ⟨w3.heap.size, 0, none⟩) 32 32)).run Tryz.prog w' = .ok (.string hp) w' := fun w' hc => hcvAll w' (fun i hi => hc.cell (hby i hi) (fun h => h.elim hdb.1 hdb.2))
  have HP := hid hcvp
  clear hcvAll hcvp
  have hsz : ∀ x ∈ [hp], x.size ≤ maxLen := by
    unfold maxLen; intro x hx; simp at hx; subst hx; omega
  have hpush := mpush_drew hM5 hB5 [hp] (by simp) _ rfl w5.heap.size 1 1 rfl rfl hsz (by omega)
  have HW5 := hid hW5
  clear hc35 hc05 hM5 hW5 hby hpg hc4 hc5 hb5 ha4 hs4 hs5 HC3 HM3 HW4 HB4 hof
  go_region_held3 (fun w' => (convert 125 9 (.slice (some ⟨w3.heap.size, 0, none⟩) 32 32)).run Tryz.prog w' = .ok (.string hp) w') (first | exact hcvd | exact hcva | exact HP.out _ hch3) (first | (go_at_call 97; refine hpush.mono ?_; rintro e w' ⟨rfl, hch2, hch3, hM4⟩))
  go_wp2_with fail
  go_ret
  have ehp := HHP.out
  subst ehp
  exact ⟨rfl, HW5.out.trans hch2 (fun _ _ h => h), hM4⟩
end Go.Proofs.YthglfmacjoecgaaGreatDoor
namespace Go.Proofs.YthglfmacjoecgaaGreatDoor
open Go.RowKit

theorem or_comm32 (a b : Int) : bits .or .u32 a b = bits .or .u32 b a := by
  show IntKind.u32.wrap ((BitVec.ofInt _ a ||| BitVec.ofInt _ b).toNat) = IntKind.u32.wrap ((BitVec.ofInt _ b ||| BitVec.ofInt _ a).toNat)
  rw [BitVec.or_comm]
theorem bits_range (op : BinOp) (x y : Int) : 0 ≤ bits op .u32 x y ∧ bits op .u32 x y < 4294967296 := by
  unfold bits
  rw [IntKind.wrap_u32]
  omega
theorem xor_zero32 (y : Int) (h0 : 0 ≤ y) (h1 : y < 4294967296) : bits .xor .u32 0 y = y := by
  show IntKind.u32.wrap (((BitVec.ofInt 32 0 ^^^ BitVec.ofInt 32 y).toNat : Nat) : Int) = y
  have e : BitVec.ofInt 32 0 = 0#32 := rfl
  rw [e, BitVec.zero_xor, BitVec.toNat_ofInt, IntKind.wrap_u32]
  omega
theorem rotr_range (x : Int) (n : Nat) : 0 ≤ rotr x n ∧ rotr x n < 4294967296 := bits_range _ _ _
theorem turned2 (x : Int) (a b : Nat) : turnedR x [a, b] = bits .xor .u32 (rotr x a) (rotr x b) := by
  show bits .xor .u32 (bits .xor .u32 0 (rotr x a)) (rotr x b) = _
  rw [xor_zero32 _ (rotr_range x a).1 (rotr_range x a).2]
theorem turned3 (x : Int) (a b c : Nat) : turnedR x [a, b, c] = bits .xor .u32 (bits .xor .u32 (rotr x a) (rotr x b)) (rotr x c) := by
  show bits .xor .u32 (bits .xor .u32 (bits .xor .u32 0 (rotr x a)) (rotr x b)) (rotr x c) = _
  rw [xor_zero32 _ (rotr_range x a).1 (rotr_range x a).2]

set_option maxHeartbeats 1000000 in
theorem turn_any (x : Int) (n : Nat) (h1 : 1 ≤ n) (h2 : n ≤ 31) (w : World) :
    Calls Tryz.prog 128 #[.int .u32 x, .int .i64 n] w (Rets (.int .u32 (rotr x n)) (fun w' => ∃ m, w' = w.drewN m)) := by
  obtain ⟨m, hm⟩ : ∃ m : Nat, m = 32 - n := ⟨_, rfl⟩
  have hsub : IntKind.i64.wrap (32 - (n : Int)) = (m : Int) := by
    rw [IntKind.wrap_i64]; omega
  have hr : rotr x n = bits .or .u32 (x / 2 ^ n) (x * 2 ^ m % 4294967296) := by rw [hm, or_comm32]; rfl
  have HR := hid hr
  clear hr
  have m1 : min m 32 = m := by omega
  have m2 : min n 32 = n := by omega
  clear hm
  go_enter Tryz.func128, Tryz.ntmps128
  go_wp2_with fail
  go_quiet (fail)
  go_wp2
  go_ret
  exact ⟨by rw [HR.out]; rfl, _, rfl⟩

theorem turnI_any (x n : Int) (h : 1 ≤ n ∧ n ≤ 31) (w : World) :
    Calls Tryz.prog 128 #[.int .u32 x, .int .i64 n] w (Rets (.int .u32 (rotr x n.toNat)) (fun w' => ∃ m, w' = w.drewN m)) := by
  have := turn_any x n.toNat (by omega) (by omega) w
  rwa [show ((n.toNat : Nat) : Int) = n by omega] at this
theorem cell_drewN' {W : World} {a : Addr} {u : Value} (m : Nat) (h : W.cell? a = some u) : (W.drewN m).cell? a = some u := h
theorem bits_orN (m n : Nat) (hm : m < 4294967296) (hn : n < 4294967296) : bits .or .u32 (m : Int) (n : Int) = ((m ||| n : Nat) : Int) := by
  show IntKind.u32.wrap (((BitVec.ofInt 32 (m : Int) ||| BitVec.ofInt 32 (n : Int)).toNat : Nat) : Int) = _
  have e1 : (BitVec.ofInt 32 (m : Int)).toNat = m := by rw [BitVec.toNat_ofInt]; omega
  have e2 : (BitVec.ofInt 32 (n : Int)).toNat = n := by rw [BitVec.toNat_ofInt]; omega
  have hlt : m ||| n < 2 ^ 32 := Nat.or_lt_two_pow hm hn
  rw [BitVec.toNat_or, e1, e2, IntKind.wrap_u32]
  omega
theorem or_add (i a b : Nat) (h : b < 2 ^ i) : 2 ^ i * a ||| b = 2 ^ i * a + b := (Nat.two_pow_add_eq_or_of_lt h a).symm
/-- A word of four bytes: joined one by one, or all at once. -/
theorem word4 (a b c d : Nat) (ha : a < 256) (hb : b < 256) (hc : c < 256) (hd : d < 256) :
    bits .or .u32 (bits .or .u32 (bits .or .u32 ((a : Int) * 16777216) ((b : Int) * 65536)) ((c : Int) * 256)) (d : Int) =
    bits .or .u32 (bits .or .u32 (bits .or .u32 (bits .or .u32 (0 * 256 % 4294967296) (a : Int) * 256 % 4294967296) (b : Int) * 256 % 4294967296) (c : Int) * 256 % 4294967296) (d : Int) := by
  have l1 : bits .or .u32 (0 * 256 % 4294967296) (a : Int) = (a : Int) := by
    have := bits_orN 0 a (by decide) (by omega)
    rw [Nat.zero_or] at this
    exact this
  have l2 : bits .or .u32 ((a : Int) * 256 % 4294967296) (b : Int) = ((256 * a + b : Nat) : Int) := by
    have h := bits_orN (2 ^ 8 * a) b (by omega) (by omega)
    rw [or_add 8 a b (by omega)] at h
    rw [show (a : Int) * 256 % 4294967296 = ((2 ^ 8 * a : Nat) : Int) by omega, h]
  have l3 : bits .or .u32 (((256 * a + b : Nat) : Int) * 256 % 4294967296) (c : Int) = ((65536 * a + 256 * b + c : Nat) : Int) := by
    have h := bits_orN (2 ^ 8 * (256 * a + b)) c (by omega) (by omega)
    rw [or_add 8 _ c (by omega)] at h
    rw [show ((256 * a + b : Nat) : Int) * 256 % 4294967296 = ((2 ^ 8 * (256 * a + b) : Nat) : Int) by omega, h]
    omega
  have l4 : bits .or .u32 (((65536 * a + 256 * b + c : Nat) : Int) * 256 % 4294967296) (d : Int) = ((16777216 * a + 65536 * b + 256 * c + d : Nat) : Int) := by
    have h := bits_orN (2 ^ 8 * (65536 * a + 256 * b + c)) d (by omega) (by omega)
    rw [or_add 8 _ d (by omega)] at h
    rw [show ((65536 * a + 256 * b + c : Nat) : Int) * 256 % 4294967296 = ((2 ^ 8 * (65536 * a + 256 * b + c) : Nat) : Int) by omega, h]
    omega
  have r1 : bits .or .u32 ((a : Int) * 16777216) ((b : Int) * 65536) = ((16777216 * a + 65536 * b : Nat) : Int) := by
    have h := bits_orN (2 ^ 24 * a) (65536 * b) (by omega) (by omega)
    rw [or_add 24 a _ (by omega)] at h
    rw [show (a : Int) * 16777216 = ((2 ^ 24 * a : Nat) : Int) by omega, show (b : Int) * 65536 = ((65536 * b : Nat) : Int) by omega, h]
  have r2 : bits .or .u32 (((16777216 * a + 65536 * b : Nat) : Int)) ((c : Int) * 256) = ((16777216 * a + 65536 * b + 256 * c : Nat) : Int) := by
    have h := bits_orN (2 ^ 16 * (256 * a + b)) (256 * c) (by omega) (by omega)
    rw [or_add 16 _ _ (by omega)] at h
    rw [show ((16777216 * a + 65536 * b : Nat) : Int) = ((2 ^ 16 * (256 * a + b) : Nat) : Int) by omega, show (c : Int) * 256 = ((256 * c : Nat) : Int) by omega, h]
    omega
  have r3 : bits .or .u32 (((16777216 * a + 65536 * b + 256 * c : Nat) : Int)) (d : Int) = ((16777216 * a + 65536 * b + 256 * c + d : Nat) : Int) := by
    have h := bits_orN (2 ^ 8 * (65536 * a + 256 * b + c)) d (by omega) (by omega)
    rw [or_add 8 _ _ (by omega)] at h
    rw [show ((16777216 * a + 65536 * b + 256 * c : Nat) : Int) = ((2 ^ 8 * (65536 * a + 256 * b + c) : Nat) : Int) by omega, h]
    omega
  rw [l1, l2, l3, l4, r1, r2, r3]
theorem word_eq (block : ByteArray) (hs : block.size = 64) (t : Nat) (ht : t < 16) :
    bits .or .u32 (bits .or .u32 (bits .or .u32 ((block[4 * t]'(by omega)).toNat % 4294967296 * 16777216 % 4294967296) ((block[4 * t + 1]'(by omega)).toNat % 4294967296 * 65536 % 4294967296)) ((block[4 * t + 2]'(by omega)).toNat % 4294967296 * 256 % 4294967296)) ((block[4 * t + 3]'(by omega)).toNat % 4294967296) = wordB block t 4 := by
  have g : ∀ j (h : 4 * t + j < block.size), block[4 * t + j]! = block[4 * t + j] := fun j h => getElem!_pos block (4 * t + j) h
  unfold wordB wordB wordB wordB wordB
  rw [g 0 (by omega), g 1 (by omega), g 2 (by omega), g 3 (by omega)]
  have l0 := (block[4 * t]'(by omega)).toNat_lt
  have l1 := (block[4 * t + 1]'(by omega)).toNat_lt
  have l2 := (block[4 * t + 2]'(by omega)).toNat_lt
  have l3 := (block[4 * t + 3]'(by omega)).toNat_lt
  have h := word4 (block[4 * t]'(by omega)).toNat (block[4 * t + 1]'(by omega)).toNat (block[4 * t + 2]'(by omega)).toNat (block[4 * t + 3]'(by omega)).toNat l0 l1 l2 l3
  rw [show (((block[4 * t]'(by omega)).toNat : Int) % 4294967296 * 16777216 % 4294967296) = ((block[4 * t]'(by omega)).toNat : Int) * 16777216 by omega, show (((block[4 * t + 1]'(by omega)).toNat : Int) % 4294967296 * 65536 % 4294967296) = ((block[4 * t + 1]'(by omega)).toNat : Int) * 65536 by omega, show (((block[4 * t + 2]'(by omega)).toNat : Int) % 4294967296 * 256 % 4294967296) = ((block[4 * t + 2]'(by omega)).toNat : Int) * 256 by omega, show (((block[4 * t + 3]'(by omega)).toNat : Int) % 4294967296) = ((block[4 * t + 3]'(by omega)).toNat : Int) by omega]
  exact h
end Go.Proofs.YthglfmacjoecgaaGreatDoor
namespace Go.Proofs.YthglfmacjoecgaaGreatDoor
open Go.RowKit

section
variable {P : Program} {w : World} {ops : Array Oper} {rest : List Oper} {o : Oper} {a : Act} {Q : Exit → Act → World → Prop}
theorem wpList_box1 (hg : o.guard = none) (t : TypeId) (x : Operand) (hop : o.op = Op.box t x) (zc : Array Value) (hx : a.eval x = .agg zc)
    (h : ∀ w', w'.heap[w.heap.size]? = some (.cells zc t (0, 0)) → w'.heap.size = w.heap.size + 1 → Chg (fun _ => False) w w' → wpList P ops Q rest (a.put o.dst (.pointer (some ⟨w.heap.size, 0, none⟩))) w') : wpList P ops Q (o :: rest) a w := by
  refine wpList_plain hg fun K' hK' => ?_
  have hr : (Instr.box t (.agg zc)).run P w = .ok (.pointer (some ⟨w.heap.size, 0, none⟩)) (w.alloc (.cells zc t)) := rfl
  unfold Oper.wp
  simp only [execOp, hop, Sem.run_bind, hx, hr, Result.andThen, Sem.run_pure, Oper.upon]
  exact hK' _ _ (h _ (heap_alloc_new w _) (by simp) ((Chg.refl _ w).alloc _))
end
def kf : Nat → Int := fun i => wordsL.getD i 0
theorem build83 (w : World) : (Instr.build 184 #[]).run Tryz.prog w = .ok (.agg zc83) w := by kernel_rfl
theorem alloc73 (w : World) : (Instr.alloc 177 true (.tuple #[])).run Tryz.prog w = .ok (.pointer (some ⟨w.heap.size, 0, none⟩)) (w.alloc (.cells (rowF 8 (fun _ => 0)) 177)) := by kernel_rfl
theorem size73 (w : World) : (sizeOf 177).run Tryz.prog w = .ok 8 w := by kernel_rfl

theorem rowF8 (h : Nat → Int) : rowF 8 h = #[.int .u32 (h 0), .int .u32 (h 1), .int .u32 (h 2), .int .u32 (h 3), .int .u32 (h 4), .int .u32 (h 5), .int .u32 (h 6), .int .u32 (h 7)] := rfl
theorem round_row (g : Nat → Int) (kw wt : Int) :
    rowF 8 (roundF g kw wt) = #[.int .u32 ((g 7 + bits .xor .u32 (bits .xor .u32 (rotr (g 4) 6) (rotr (g 4) 11)) (rotr (g 4) 25) + bits .xor .u32 (bits .and .u32 (g 4) (g 5)) (bits .and .u32 (bits .xor .u32 IntKind.u32.max (g 4)) (g 6)) + kw + wt + (bits .xor .u32 (bits .xor .u32 (rotr (g 0) 2) (rotr (g 0) 13)) (rotr (g 0) 22) + bits .xor .u32 (bits .xor .u32 (bits .and .u32 (g 0) (g 1)) (bits .and .u32 (g 0) (g 2))) (bits .and .u32 (g 1) (g 2)))) % 4294967296), .int .u32 (g 0), .int .u32 (g 1), .int .u32 (g 2), .int .u32 ((g 3 + (g 7 + bits .xor .u32 (bits .xor .u32 (rotr (g 4) 6) (rotr (g 4) 11)) (rotr (g 4) 25) + bits .xor .u32 (bits .and .u32 (g 4) (g 5)) (bits .and .u32 (bits .xor .u32 IntKind.u32.max (g 4)) (g 6)) + kw + wt)) % 4294967296), .int .u32 (g 4), .int .u32 (g 5), .int .u32 (g 6)] := by
  have e0 : roundF g kw wt 0 = (g 7 + bits .xor .u32 (bits .xor .u32 (rotr (g 4) 6) (rotr (g 4) 11)) (rotr (g 4) 25) + bits .xor .u32 (bits .and .u32 (g 4) (g 5)) (bits .and .u32 (bits .xor .u32 IntKind.u32.max (g 4)) (g 6)) + kw + wt + (bits .xor .u32 (bits .xor .u32 (rotr (g 0) 2) (rotr (g 0) 13)) (rotr (g 0) 22) + bits .xor .u32 (bits .xor .u32 (bits .and .u32 (g 0) (g 1)) (bits .and .u32 (g 0) (g 2))) (bits .and .u32 (g 1) (g 2)))) % 4294967296 := by
    show IntKind.u32.wrap (t1R g kw wt + t2R g) = _
    unfold t1R t2R ch maj
    rw [turned3, turned3]
    simp only [IntKind.wrap_u32]
    omega
  have e4 : roundF g kw wt 4 = (g 3 + (g 7 + bits .xor .u32 (bits .xor .u32 (rotr (g 4) 6) (rotr (g 4) 11)) (rotr (g 4) 25) + bits .xor .u32 (bits .and .u32 (g 4) (g 5)) (bits .and .u32 (bits .xor .u32 IntKind.u32.max (g 4)) (g 6)) + kw + wt)) % 4294967296 := by
    show IntKind.u32.wrap (g 3 + t1R g kw wt) = _
    unfold t1R ch
    rw [turned3]
    simp only [IntKind.wrap_u32]
    omega
  rw [rowF8, e0, e4]
  rfl

set_option maxRecDepth 100000 in
set_option maxHeartbeats 4000000 in
theorem block_any (block : ByteArray) (hs : block.size = 64) (f : Nat → Int) (w : World) :
    Calls Tryz.prog 109 #[.agg (rowF 8 f), .agg (rowF 64 kf), .string block] w (Rets (.agg (rowF 8 (mixR block f))) (Chg (fun _ => False) w)) := by
  go_enter Tryz.func109, Tryz.ntmps109
  go_wp2_with (first | (refine wpList_box1 rfl 177 _ rfl (rowF 8 f) rfl ?_; intro w1 ha1 hs1 hc1) | (refine wpList_box1 rfl 184 _ rfl (rowF 64 kf) rfl ?_; intro w2 ha2 hs2 hc2) | (refine wpList_alloc0 rfl 177 rfl (rowF 8 (fun _ => 0)) (alloc73 _) ?_; intro w3 ha3 hs3 hc3) | (refine wpList_build0 rfl 184 rfl (.agg zc83) (build83 _) ?_) | (refine wpList_alloc0 rfl 184 rfl zc83 (alloc83 _) ?_; intro w4 ha4 hs4 hc4) | (refine wpList_store0 rfl 184 _ _ rfl w3.heap.size zc83 zc83 rfl rfl ha4 (by rw [show zc83.size = 64 from rfl]; exact size83) rfl rfl ?_; intro w5 ha5 hs5 hc5))
  have hW0 : w5.heap[w3.heap.size]? = some (.cells (rowF 64 (fW block 0)) 184 (0, 0)) := by
    rw [ha5]
    exact congrArg (fun x => some (Obj.cells x _ _)) (rowF_congr fun i _ => by unfold fW; rw [if_neg (Nat.not_lt_zero _)])
  have hc45 : Chg (fun k => k = w3.heap.size) w4 w5 := hc5
  have hR0 := hc45.obj (hc4.obj ha3 (fun h => h)) (by omega)
  have hK0 := hc45.obj (hc4.obj (hc3.obj ha2 (fun h => h)) (fun h => h)) (by omega)
  have hH0 := hc45.obj (hc4.obj (hc3.obj (hc2.obj ha1 (fun h => h)) (fun h => h)) (fun h => h)) (by omega)
  have hcw : Chg (fun _ => False) w w5 := (((hc1.trans hc2 (fun _ _ h => h)).trans hc3 (fun _ _ h => h)).trans hc4 (fun _ _ h => h)).trans hc45 (fun i hi h => by omega)
  obtain ⟨H, hH⟩ : ∃ H, H = w.heap.size := ⟨_, rfl⟩
  have e1 : w1.heap.size = H + 1 := by omega
  have e2 : w2.heap.size = H + 2 := by omega
  have e3 : w3.heap.size = H + 3 := by omega
  rw [e1] at hK0
  rw [e2] at hR0
  rw [e3] at hW0
  rw [← hH] at hH0 ⊢
  have HW0 := hid hW0
  have HR0 := hid hR0
  have HK0 := hid hK0
  have HH0 := hid hH0
  have HCW := hid hcw
  have HHH := hid hH
  clear ha1 ha2 ha3 ha4 ha5 hs1 hs2 hs3 hs4 hs5 hc1 hc2 hc3 hc4 hc5 hc45 hW0 hR0 hK0 hH0 hcw e1 e2 e3 hH
  go_loopw [8] (fun i wr => ∃ t : Nat, t ≤ 16 ∧ i = .int .i64 t ∧ wr.heap[H + 3]? = some (.cells (rowF 64 (fW block t)) 184 (0, 0)) ∧ Chg (fun k => k = H + 3) w5 wr) (fun i _ => 16 - (intOf i).toNat)
  case atStart => exact ⟨0, Nat.zero_le _, rfl, HW0.out, Chg.refl _ _⟩
  case round =>
    obtain ⟨t, ht, rfl, hblk, hch⟩ := hrel
    have HC := hid hch
    have HB := hid hblk
    by_cases htn : t < 16
    · have htn' : (t : Int) < 16 := by omega
      have ct := row_cell hblk t (by omega)
      have ft := frozen_of hblk t
      have hs' : (block.size : Int) = 64 := by omega
      have v0 : IntKind.i64.wrap (4 * (t : Int)) = 4 * (t : Int) := IntWalk.i64_in _ (by omega)
      have v1 : IntKind.i64.wrap (4 * (t : Int) + 1) = 4 * (t : Int) + 1 := IntWalk.i64_in _ (by omega)
      have v2 : IntKind.i64.wrap (4 * (t : Int) + 2) = 4 * (t : Int) + 2 := IntWalk.i64_in _ (by omega)
      have v3 : IntKind.i64.wrap (4 * (t : Int) + 3) = 4 * (t : Int) + 3 := IntWalk.i64_in _ (by omega)
      have u0 : wrap64 (4 * (t : Int)) = 4 * (t : Int) := by unfold wrap64; omega
      have u1 : wrap64 (4 * (t : Int) + 1) = 4 * (t : Int) + 1 := by unfold wrap64; omega
      have u2 : wrap64 (4 * (t : Int) + 2) = 4 * (t : Int) + 2 := by unfold wrap64; omega
      have u3 : wrap64 (4 * (t : Int) + 3) = 4 * (t : Int) + 3 := by unfold wrap64; omega
      have p0 : (0 : Int) ≤ 4 * (t : Int) := by omega
      have p1 : (0 : Int) ≤ 4 * (t : Int) + 1 := by omega
      have p2 : (0 : Int) ≤ 4 * (t : Int) + 2 := by omega
      have p3 : (0 : Int) ≤ 4 * (t : Int) + 3 := by omega
      have q0 : 4 * (t : Int) < 64 := by omega
      have q1 : 4 * (t : Int) + 1 < 64 := by omega
      have q2 : 4 * (t : Int) + 2 < 64 := by omega
      have q3 : 4 * (t : Int) + 3 < 64 := by omega
      clear hblk hch
      go_wp2_with fail
      go_region
      all_goals
        have hv := word_eq block hs t htn
        have HV := hid hv
        clear hv
        go_wp2_with fail
        go_roundw
        case rel =>
          refine ⟨t + 1, by omega, by go_num, ?_, (HC.out.setCell (p := ⟨H + 3, t, none⟩) (fun _ => rfl) _).drew⟩
          refine (row_set HB.out t _).trans ?_
          rw [← rowF_congr (fun i _ => fW_next block t i), ← HV.out]
        case measure => simp [intOf]; omega
    · obtain rfl : t = 16 := by omega
      clear hblk hch
      go_wp2_with fail
      obtain ⟨wo, hwo⟩ : ∃ wo : World, wo = wr := ⟨_, rfl⟩
      rw [← hwo] at HB HC ⊢
      clear hwo
      go_loopw [9] (fun i wx => ∃ k : Nat, 16 ≤ k ∧ k ≤ 64 ∧ i = .int .i64 k ∧ wx.heap[H + 3]? = some (.cells (rowF 64 (gW block k)) 184 (0, 0)) ∧ Chg (fun k => k = H + 3) wo wx) (fun i _ => 64 - (intOf i).toNat)
      case atStart => exact ⟨16, by decide, by decide, rfl, by rw [HB.out]; exact congrArg (fun x => some (Obj.cells x _ _)) (rowF_congr fun i _ => gW_first block i), Chg.refl _ _⟩
      case round =>
        obtain ⟨k, hk16, hk, rfl, hbx, hchx⟩ := hrel
        by_cases hkn : k < 64
        · have hkn' : (k : Int) < 64 := by omega
          obtain ⟨i2, e2⟩ : ∃ i : Nat, i = k - 2 := ⟨_, rfl⟩
          obtain ⟨i7, e7⟩ : ∃ i : Nat, i = k - 7 := ⟨_, rfl⟩
          obtain ⟨i15, e15⟩ : ∃ i : Nat, i = k - 15 := ⟨_, rfl⟩
          obtain ⟨i16, e16⟩ : ∃ i : Nat, i = k - 16 := ⟨_, rfl⟩
          have c2 := row_cell hbx i2 (by omega)
          have c7 := row_cell hbx i7 (by omega)
          have c15 := row_cell hbx i15 (by omega)
          have c16 := row_cell hbx i16 (by omega)
          have ck := row_cell hbx k (by omega)
          have fk := frozen_of hbx k
          rw [gW_old block k i2 (by omega)] at c2
          rw [gW_old block k i7 (by omega)] at c7
          rw [gW_old block k i15 (by omega)] at c15
          rw [gW_old block k i16 (by omega)] at c16
          have w2 : IntKind.i64.wrap ((k : Int) - 2) = (i2 : Int) := by rw [IntWalk.i64_in _ (by omega)]; omega
          have w7 : IntKind.i64.wrap ((k : Int) - 7) = (i7 : Int) := by rw [IntWalk.i64_in _ (by omega)]; omega
          have w15 : IntKind.i64.wrap ((k : Int) - 15) = (i15 : Int) := by rw [IntWalk.i64_in _ (by omega)]; omega
          have w16 : IntKind.i64.wrap ((k : Int) - 16) = (i16 : Int) := by rw [IntWalk.i64_in _ (by omega)]; omega
          have v7 : wrap64 ((k : Int) - 7) = (i7 : Int) := by unfold wrap64; omega
          have v16 : wrap64 ((k : Int) - 16) = (i16 : Int) := by unfold wrap64; omega
          have l2 : (i2 : Int) < 64 := by omega
          have l7 : (i7 : Int) < 64 := by omega
          have l15 : (i15 : Int) < 64 := by omega
          have l16 : (i16 : Int) < 64 := by omega
          have n7 : i7 ≠ k := by omega
          have n16 : i16 ≠ k := by omega
          have HE : Hid (schW block k = IntKind.u32.wrap (IntKind.u32.wrap (IntKind.u32.wrap (bits .xor .u32 (bits .xor .u32 (rotr (schW block i2) 17) (rotr (schW block i2) 19)) (schW block i2 / 1024) + schW block i7) + bits .xor .u32 (bits .xor .u32 (rotr (schW block i15) 7) (rotr (schW block i15) 18)) (schW block i15 / 8)) + schW block i16)) := by
            show _ = _
            rw [e2, e7, e15, e16]
            conv => lhs; rw [schW, dif_neg (by omega)]
            unfold sig
            rw [turned2, turned2]
          clear e2 e7 e15 e16
          have HBX := hid hbx
          have HCX := hid hchx
          clear hbx hchx
          generalize schW block i2 = x2 at c2 HE
          generalize schW block i7 = x7 at c7 HE
          generalize schW block i15 = x15 at c15 HE
          generalize schW block i16 = x16 at c16 HE
          go_wp2_with fail
          go_region_held3 (fun w' => w'.cell? ⟨H + 3, i7, none⟩ = some (.int .u32 x7) ∧ w'.cell? ⟨H + 3, i16, none⟩ = some (.int .u32 x16)) (refine ⟨?_, ?_⟩ <;> (repeat' (first | with_reducible assumption | with_reducible (apply cell_drewN') | with_reducible (apply cell_drew') | with_reducible (refine cell_set' ?_ (by assumption) _)))) (first | (go_at_call 128; refine (turnI_any _ _ (by decide) _).mono ?_; rintro e w' ⟨rfl, m, rfl⟩))
          go_wp2_with fail
          go_roundw
          case rel =>
            (repeat apply Exists.intro)
            refine ⟨⟨k + 1, by omega, by omega, by go_num, ?_, (HCX.out.drewN _).setCell (p := ⟨H + 3, k, none⟩) (fun _ => rfl) _⟩, rfl⟩
            refine (row_set (w := wr.drewN _) HBX.out k _).trans ?_
            rw [← rowF_congr (fun i _ => gW_next block k i), HE.out]
            first | rfl | simp only [IntKind.wrap_u32]
          case measure => simp [intOf]; omega
        · obtain rfl : k = 64 := by omega
          have hfin : wr.heap[H + 3]? = some (.cells (rowF 64 (schW block)) 184 (0, 0)) := by
            rw [hbx]; exact congrArg (fun x => some (Obj.cells x _ _)) (rowF_congr fun i hi => gW_old block 64 i hi)
          have hc5 := HC.out.trans hchx (fun _ _ h => h)
          have hH5 := hc5.obj HH0.out (by omega)
          have hK5 := hc5.obj HK0.out (by omega)
          have hR5 := hc5.obj HR0.out (by omega)
          have hcw5 : Chg (fun _ => False) w wr := HCW.out.trans hc5 (fun i hi h => by have := HHH.out; omega)
          have hV3 := heap_lt hfin
          clear hbx hchx hc5 HB HC
          go_wp2_with (first | (refine wpList_load0 rfl 177 _ rfl H (rowF 8 f) (.array 8 176) rfl hH5 Tryz.underlying177 rfl (by rw [rowF_size]; kernel_rfl) ?_) | (refine wpList_alloc0 rfl 177 rfl (rowF 8 (fun _ => 0)) (alloc73 _) ?_; intro w6 ha6 hs6 hc6) | (refine wpList_store0 rfl 177 _ _ rfl wr.heap.size (rowF 8 (fun _ => 0)) (rowF 8 f) rfl rfl ha6 (by rw [rowF_size]; exact size73) rfl (rowF_one _ _) ?_; intro w7 ha7 hs7 hc7))
          obtain ⟨V, hV⟩ : ∃ V, V = wr.heap.size := ⟨_, rfl⟩
          rw [← hV] at ha7 hc7 hV3 ⊢
          have hc67 : Chg (fun _ => False) wr w7 := hc6.trans hc7 (fun i hi h => by omega)
          have HW7 := hid (hc67.obj hfin (fun h => h))
          have HH7 := hid (hc67.obj hH5 (fun h => h))
          have HK7 := hid (hc67.obj hK5 (fun h => h))
          have HR7 := hid (hc67.obj hR5 (fun h => h))
          have HC7 := hid (hcw5.trans hc67 (fun _ _ h => h))
          have HV7 := hid ha7
          have HVL : Hid (w.heap.size ≤ V) := hid (by rw [hV]; exact hcw5.size)
          clear hfin hH5 hK5 hR5 hcw5 ha6 hs6 hc6 ha7 hs7 hc7 hc67 hV HW0 HR0 HK0 HH0 HCW
          go_loopw [13] (fun i wr => ∃ k : Nat, k ≤ 64 ∧ i = .int .i64 k ∧ wr.heap[V]? = some (.cells (rowF 8 (rounds block f k)) 177 (0, 0)) ∧ Chg (fun k => k = V) w7 wr) (fun i _ => 64 - (intOf i).toNat)
          case atStart => exact ⟨0, Nat.zero_le _, rfl, HV7.out, Chg.refl _ _⟩
          case round =>
            obtain ⟨k, hk, rfl, hbv, hchv⟩ := hrel
            by_cases hkn : k < 64
            · have hkn' : (k : Int) < 64 := by omega
              have hR : Hid (rounds block f (k + 1) = roundF (rounds block f k) (kf k) (schW block k)) := hid rfl
              have ckk := row_cell (hchv.obj HK7.out (by omega)) k hkn
              have cww := row_cell (hchv.obj HW7.out (by omega)) k hkn
              generalize rounds block f k = g at hbv hR
              generalize kf k = kw at hR ckk
              generalize schW block k = wt at hR cww
              have d0 := row_cell hbv 0 (by decide)
              have d1 := row_cell hbv 1 (by decide)
              have d2 := row_cell hbv 2 (by decide)
              have d3 := row_cell hbv 3 (by decide)
              have d4 := row_cell hbv 4 (by decide)
              have d5 := row_cell hbv 5 (by decide)
              have d6 := row_cell hbv 6 (by decide)
              have d7 := row_cell hbv 7 (by decide)
              have HBV := hid hbv
              have HCV := hid hchv
              clear hbv hchv
              go_wp2_with fail
              go_quiet ((go_at_call 128; refine Calls.quiet_of (turnI_any _ _ (by decide) _)))
              go_wp2_with fail
              refine wp_gen (fun W => W.heap[V]? = some (.cells (rowF 8 g) 177 (0, 0)) ∧ Chg (fun k => k = V) w7 W) ⟨HBV.out, HCV.out.drewN _⟩ ?_
              clear HBV HCV d0 d1 d2 d3 d4 d5 d6 d7 ckk cww
              rintro W8 ⟨hbv, hchv⟩
              have d0 := row_cell hbv 0 (by decide)
              have d1 := row_cell hbv 1 (by decide)
              have d2 := row_cell hbv 2 (by decide)
              have d3 := row_cell hbv 3 (by decide)
              have d4 := row_cell hbv 4 (by decide)
              have d5 := row_cell hbv 5 (by decide)
              have d6 := row_cell hbv 6 (by decide)
              have d7 := row_cell hbv 7 (by decide)
              have z0 := frozen_of hbv 0
              have z1 := frozen_of hbv 1
              have z2 := frozen_of hbv 2
              have z3 := frozen_of hbv 3
              have z4 := frozen_of hbv 4
              have z5 := frozen_of hbv 5
              have z6 := frozen_of hbv 6
              have z7 := frozen_of hbv 7
              have HBV := hid hbv
              have HCV := hid hchv
              clear hbv hchv
              go_quiet ((go_at_call 128; refine Calls.quiet_of (turnI_any _ _ (by decide) _)))
              go_wp2_with (refine wpList_store0 rfl 177 _ _ rfl V (rowF 8 g) _ rfl rfl (HBV.out : (W8.drewN _).heap[V]? = _) size73 rfl rfl ?_; intro w9 ha9 hs9 hc9)
              go_roundw
              case rel =>
                refine ⟨k + 1, by omega, by go_num, ?_, (HCV.out.drewN _).trans hc9 (fun _ _ h => h)⟩
                rw [ha9, hR.out, round_row]
              case measure => simp [intOf]; omega
            · obtain rfl : k = 64 := by omega
              have HB := hid hbv
              have HCH := hid hchv
              have HHH2 := hid (hchv.obj HH7.out (by omega))
              have HRR2 := hid (hchv.obj HR7.out (by omega))
              clear hbv hchv
              go_wp2_with fail
              obtain ⟨wo, hwo⟩ : ∃ wo : World, wo = wr := ⟨_, rfl⟩
              rw [← hwo] at HB HCH HHH2 HRR2 ⊢
              clear hwo
              obtain ⟨g, hg⟩ : ∃ g, g = rounds block f 64 := ⟨_, rfl⟩
              rw [← hg] at HB
              have HG := hid hg
              clear hg
              have hS0 : StAt wo H 177 (rowF 8 f) f := StAt.row HHH2.out
              have HS0 := hid hS0
              clear hS0
              go_loopw [18] (fun i wr => ∃ k : Nat, ∃ cs', k ≤ 8 ∧ i = .int .i64 k ∧ StAt wr H 177 cs' (fun i => if i < k then IntKind.u32.wrap (f i + g i) else f i) ∧ cs'.size = 8 ∧ Chg (fun k => k = H) wo wr) (fun i _ => 8 - (intOf i).toNat)
              case atStart => exact ⟨0, rowF 8 f, Nat.zero_le _, rfl, HS0.out, by rw [rowF_size], Chg.refl _ _⟩
              case round =>
                obtain ⟨k, cs', hk, rfl, hS1, hsz, hch⟩ := hrel
                by_cases hkn : k < 8
                · have hkn' : (k : Int) < 8 := by omega
                  have c1 := hS1.cell k hkn
                  rw [if_neg (Nat.lt_irrefl k)] at c1
                  have fr := frozen_of hS1.heap k
                  have c2 := row_cell (hch.obj HB.out (by omega)) k hkn
                  have HS1 := hid hS1
                  have HCC := hid hch
                  clear hS1 hch
                  go_wp2_with fail
                  go_region
                  all_goals go_wp2_with fail
                  all_goals go_roundw
                  case rel =>
                    refine ⟨k + 1, _, by omega, by go_num, (StAt.congr (HS1.out.set k _) fun i hi => ?_).drew, by rw [Array.size_setIfInBounds]; exact hsz, (HCC.out.setCell (p := ⟨H, k, none⟩) (fun _ => rfl) _).drew⟩
                    unfold updF
                    by_cases e : i = k
                    · subst e; rw [if_pos rfl, if_pos (by omega), IntKind.wrap_u32]
                    · rw [if_neg e]
                      by_cases e2 : i < k
                      · show (if i < k then _ else _) = _
                        rw [if_pos e2, if_pos (by omega)]
                      · show (if i < k then _ else _) = _
                        rw [if_neg e2, if_neg (by omega)]
                  case measure => simp [intOf]; omega
                · obtain rfl : k = 8 := by omega
                  have hcs : cs' = rowF 8 (mixR block f) := by
                    apply Array.ext
                    · rw [hsz, rowF_size]
                    · intro i h1 h2
                      have hi : i < 8 := by omega
                      have e1 := hS1.word i hi
                      rw [if_pos hi, HG.out] at e1
                      have e2 := rowF_get 8 (mixR block f) i hi
                      rw [Array.getElem?_eq_getElem h1] at e1
                      rw [Array.getElem?_eq_getElem h2] at e2
                      exact Option.some.inj (e1.trans e2.symm)
                  have hH9 := hS1.heap
                  rw [hcs] at hH9
                  have hR9 := hch.obj HRR2.out (by omega)
                  have HC9 := hid hch
                  clear hS1 hch hcs
                  go_wp2_with (first | (refine wpList_load0 rfl 177 _ rfl H (rowF 8 (mixR block f)) (.array 8 176) rfl hH9 Tryz.underlying177 rfl (by rw [rowF_size]; kernel_rfl) ?_) | (refine wpList_store0 rfl 177 _ _ rfl (H + 2) (rowF 8 (fun _ => 0)) (rowF 8 (mixR block f)) rfl rfl hR9 (by rw [rowF_size]; exact size73) rfl (rowF_one _ _) ?_; intro w9 hb9 hs9 hc9))
                  refine bodyPost_ret (v := .agg (rowF 8 (mixR block f))) ?_ rfl ⟨rfl, ?_⟩
                  · refine results_row Tryz.results109 _ _ (H + 2) rfl _ (run_loadVar_row _ (H + 2) 177 177 _ (0, 0) (.array 8 176) hb9 Tryz.underlying177 rfl (by rw [rowF_size]; kernel_rfl))
                  · have h1 : Chg (fun _ => False) w wo := HC7.out.trans HCH.out (fun i hi h => by have := HVL.out; omega)
                    exact (h1.trans HC9.out (fun i hi h => by have := HHH.out; omega)).trans hc9 (fun i hi h => by have := HHH.out; omega)
end Go.Proofs.YthglfmacjoecgaaGreatDoor
namespace Go.Proofs.YthglfmacjoecgaaGreatDoor
open Go.RowKit

/-- A text, padded. -/
def wholeL (s : List UInt8) : List UInt8 := padR (s ++ [128]) ++ lensL (s.length : Nat) 8
theorem mixAll_fuel : ∀ (m m' : Nat) (f : Nat → Int) (l : List UInt8), l.length ≤ m → l.length ≤ m' → mixAll m f l = mixAll m' f l
  | m, m', f, l, h1, h2 => by
    by_cases h : l.length < 64
    · rw [mixAll_end m f l h, mixAll_end m' f l h]
    · obtain ⟨k, rfl⟩ : ∃ k, m = k + 1 := ⟨m - 1, by omega⟩
      obtain ⟨k', rfl⟩ : ∃ k', m' = k' + 1 := ⟨m' - 1, by omega⟩
      unfold mixAll
      rw [if_neg h, if_neg h]
      exact mixAll_fuel k k' _ _ (by simp; omega) (by simp; omega)
theorem mixAll_step (m : Nat) (f : Nat → Int) (l : List UInt8) (h : ¬ l.length < 64) : mixAll (m + 1) f l = mixAll m (mixR ⟨(l.take 64).toArray⟩ f) (l.drop 64) := by
  conv => lhs; unfold mixAll
  rw [if_neg h]
theorem take_ba (r : ByteArray) : (⟨(r.data.toList.take 64).toArray⟩ : ByteArray) = r.extract 0 64 := by
  apply ByteArray.ext
  apply Array.ext'
  simp [ByteArray.data_extract, List.extract_eq_take_drop]
theorem drop_ba (r : ByteArray) : (r.extract 64 r.size).data.toList = r.data.toList.drop 64 := by
  simp [ByteArray.data_extract, List.extract_eq_take_drop]
  exact List.take_of_length_le (by simp)
/-- What is absorbed first is mixed first. -/
theorem mixAll_absorb : ∀ (m : Nat) (f : Nat → Int) (r : ByteArray) (t : List UInt8) (k : Nat), r.size ≤ m → r.size + t.length ≤ k →
    mixAll k f (r.data.toList ++ t) = mixAll k (absorb m f r).1 ((absorb m f r).2.data.toList ++ t) ∧ (absorb m f r).2.size ≤ r.size ∧ (absorb m f r).2.size % 64 = r.size % 64
  | 0, f, r, t, k, h1, h2 => ⟨rfl, Nat.le_refl _, rfl⟩
  | m + 1, f, r, t, k, h1, h2 => by
    unfold absorb
    by_cases h : r.size < 64
    · rw [if_pos h]
      exact ⟨rfl, Nat.le_refl _, rfl⟩
    · rw [if_neg h]
      have hsz : (r.extract 64 r.size).size = r.size - 64 := by simp
      obtain ⟨i1, i2, i3⟩ := mixAll_absorb m (mixR (r.extract 0 64) f) (r.extract 64 r.size) t k (by omega) (by omega)
      refine ⟨?_, by omega, by omega⟩
      rw [← i1]
      obtain ⟨k', rfl⟩ : ∃ k', k = k' + 1 := ⟨k - 1, by omega⟩
      have hl : r.data.toList.length = r.size := by simp
      rw [mixAll_step k' f _ (by simp; omega)]
      rw [List.take_append_of_le_length (by omega), List.drop_append_of_le_length (by omega), take_ba, drop_ba]
      refine mixAll_fuel _ _ _ _ ?_ ?_
      · simp; omega
      · simp; omega
theorem remF_mod (a b : Nat) (h : a % 64 = b % 64) : remF a = remF b := by unfold remF; rw [h]
theorem of_whole (s : ByteArray) : ofB [s] = digB (mixAll (wholeL s.data.toList).length iv (wholeL s.data.toList)) := by
  have hl : s.data.toList.length = s.size := by simp
  have hq : addsR [s] = ((absorb s.size iv s).1, (absorb s.size iv s).2, ((s.size : Nat) : Int)) := by
    show addR (iv, .empty, 0) s = _
    unfold addR
    simp
  unfold ofB
  rw [hq]
  show digB (sumF (absorb s.size iv s).1 (absorb s.size iv s).2 ((s.size : Nat) : Int)) = _
  congr 1
  unfold sumF
  generalize hb : absorb s.size iv s = q
  have key := fun t k h => mixAll_absorb s.size iv s t k (Nat.le_refl _) h
  rw [hb] at key
  have hrl : q.2.data.toList.length = q.2.size := by simp
  have hm : q.2.size ≤ s.size ∧ q.2.size % 64 = s.size % 64 := ((key [] s.size (by simp)).2)
  have htail : wholeL s.data.toList = s.data.toList ++ ([128] ++ List.replicate (remF (q.2.size + 1)) 0 ++ lensL ((s.size : Nat) : Int) 8) := by
    unfold wholeL padR
    have : remF (s.data.toList ++ [128]).length = remF (q.2.size + 1) := remF_mod _ _ (by simp; omega)
    rw [this, hl]
    simp
  have htl2 : tailL q.2 ((s.size : Nat) : Int) = q.2.data.toList ++ ([128] ++ List.replicate (remF (q.2.size + 1)) 0 ++ lensL ((s.size : Nat) : Int) 8) := by
    unfold tailL padR
    have : (q.2.data.toList ++ [128]).length = q.2.size + 1 := by simp
    rw [this]
    simp
  rw [htail, htl2]
  clear htail htl2
  generalize [128] ++ List.replicate (remF (q.2.size + 1)) 0 ++ lensL ((s.size : Nat) : Int) 8 = tl
  have k1 := key tl (s.data.toList ++ tl).length (by rw [List.length_append, hl]; exact Nat.le_refl _)
  rw [k1.1]
  refine mixAll_fuel _ _ _ _ (Nat.le_refl _) ?_
  rw [List.length_append, List.length_append, hl, hrl]
  omega
end Go.Proofs.YthglfmacjoecgaaGreatDoor
namespace Go.Proofs.YthglfmacjoecgaaGreatDoor
open Go.RowKit

section
variable {P : Program} {w : World} {ops : Array Oper} {rest : List Oper} {o : Oper} {a : Act} {Q : Exit → Act → World → Prop}
theorem wpList_build1 (hg : o.guard = none) (t : TypeId) (xs : Array (Nat × Operand)) (hop : o.op = Op.build t xs) (z : Value) (hr : (Instr.build t (xs.map fun p => (p.1, a.eval p.2))).run P w = .ok z w)
    (h : wpList P ops Q rest (a.put o.dst z) w) : wpList P ops Q (o :: rest) a w := by
  refine wpList_plain hg fun K' hK' => ?_
  unfold Oper.wp
  have hr' : Sem.run P (Instr.build t (xs.map fun (i, x) => (i, a.eval x))) w = .ok z w := hr
  simp only [execOp, hop, Sem.run_bind, hr', Result.andThen, Sem.run_pure, Oper.upon]
  exact hK' _ _ h
end

set_option maxRecDepth 100000 in
set_option maxHeartbeats 2000000 in
theorem consts_any (w : World) : Calls Tryz.prog 108 #[] w (Rets (.agg (rowF 64 kf)) (Chg (fun _ => False) w)) := by
  go_enter Tryz.func108, Tryz.ntmps108
  go_wp2_with (first | (refine wpList_alloc0 rfl 184 rfl zc83 (alloc83 _) ?_; intro w4 ha4 hs4 hc4) | (refine wpList_build1 rfl 184 _ rfl (.agg (rowF 64 kf)) (by kernel_rfl) ?_) | (refine wpList_store0 rfl 184 _ _ rfl w.heap.size zc83 (rowF 64 kf) rfl rfl ha4 (by rw [rowF_size]; exact size83) rfl (rowF_one _ _) ?_; intro w5 ha5 hs5 hc5))
  refine bodyPost_ret (v := .agg (rowF 64 kf)) ?_ rfl ⟨rfl, ?_⟩
  · refine results_row Tryz.results108 _ _ w.heap.size rfl _ (run_loadVar_row _ w.heap.size 184 184 _ (0, 0) (.array 64 176) ha5 Tryz.underlying184 rfl (by rw [rowF_size]; kernel_rfl))
  · exact hc4.trans hc5 (fun i hi h => by omega)
end Go.Proofs.YthglfmacjoecgaaGreatDoor
namespace Go.Proofs.YthglfmacjoecgaaGreatDoor
open Go.RowKit

theorem build37 (w : World) : (Instr.build 57 #[]).run Tryz.prog w = .ok (.agg (rowB 32 (fun _ => 0))) w := by kernel_rfl
def strLen : Value → Nat
  | .string s => s.size
  | _ => 0
theorem elU8r : ElT Tryz.prog 125 5 1 1 := .mk' (z := .int .u8 0) Tryz.underlying125 (by kernel_rfl) rfl (by decide) rfl
theorem owns_emptyM (w : World) (e : TypeId) (size : Nat) : (w.alloc (.cells #[] e)).ownsRow 0 e size (.slice (some ⟨w.heap.size, 0, none⟩) 0 0) 0 [] :=
  ⟨by simp, .inr ⟨w.heap.size, 0, #[], rfl, Nat.zero_le _, heap_alloc_new w _, Nat.le_refl _, Nat.zero_le _, by simp, by simp⟩⟩

section
variable {P : Program} {w : World} {ops : Array Oper} {rest : List Oper} {o : Oper} {a : Act} {Q : Act → Prop}
theorem wpStill_load0 (hg : o.guard = none) (t : TypeId) (x : Operand) (hop : o.op = Op.load t x) (b : Nat) (cs : Array Value) (d : TypeDesc) (hx : a.eval x = .pointer (some ⟨b, 0, none⟩)) {T : TypeId} {fz : Nat × Nat} (hb : w.heap[b]? = some (.cells cs T fz))
    (hu : P.underlying t = some d) (hd : (match d with | .struct _ | .array _ _ => true | _ => false) = true) (hi : (P.info? t).map (·.size) = some cs.size)
    (h : wpStill P ops w Q rest (a.put o.dst (.agg cs))) : wpStill P ops w Q (o :: rest) a := by
  unfold wpStill
  rw [if_pos (by simp [Region.wanted, hg])]
  unfold Oper.still
  simp only [execOp, hop, hx, Instr.loadAt, Instr.sureAddr, Sem.run_bind, Sem.run_pure, Result.andThen_ok, run_loadVar_row w b T t cs fz d hb hu hd hi]
  exact ⟨rfl, h⟩
end

set_option maxRecDepth 100000 in
set_option maxHeartbeats 4000000 in
theorem rof_any (s : ByteArray) (hs : s.size ≤ 100000) (w : World) : Calls Tryz.prog 70 #[.string s] w (Rets (.agg (rowB 32 (ofB [s]))) (Chg (fun _ => False) w)) := by
  rw [of_whole]
  have hsz : s.data.toList.length = s.size := by simp
  go_enter Tryz.func70, Tryz.ntmps70
  go_wp2_with (first | (refine wpList_alloc0 rfl 57 rfl (rowB 32 (fun _ => 0)) (alloc37 _) ?_; intro w1 ha1 hs1 hc1))
  go_loop [0] (fun sv => ∃ (b : ByteArray) (j : Nat), sv = .string b ∧ b.data.toList = s.data.toList ++ 128 :: List.replicate j 0 ∧ b.size = s.size + 1 + j ∧ j + remF (s.size + 1 + j) = remF (s.size + 1)) (fun sv => remF (strLen sv))
  case atStart => exact ⟨_, 0, rfl, by simp [ByteArray.data_append], by rw [ByteArray.size_append]; rfl, by simp⟩
  case round =>
    obtain ⟨b, j, rfl, hb, hbs, hj⟩ := hrel
    have hr64 := remF_lt (s.size + 1)
    have ht : (b.size : Int).tmod 64 = (b.size : Int) % 64 := Int.tmod_eq_emod_of_nonneg (by omega)
    have hbb : b.size ≤ 200000 := by omega
    have hz1 : ¬ 9223372036854775807 < b.size + 1 := by omega
    have hz8 : ¬ 9223372036854775807 < b.size + 8 := by omega
    by_cases h56 : b.size % 64 = 56
    · have hb56 : ((b.size : Int) % 64 == 56) = true := by simpa using (show (b.size : Int) % 64 = 56 by omega)
      have hst := pad_stop h56
      have hpad : b.data.toList = padR (s.data.toList ++ [128]) := by
        rw [hb]
        unfold padR
        have e1 : (s.data.toList ++ [128]).length = s.size + 1 := by simp
        rw [hbs] at hst
        rw [e1, ← hj, hst]
        simp
      have HB := hid hpad
      have HBS := hid hbs
      clear hpad hb hj hst hbs
      go_wp2_with fail
      have hown0 := owns_emptyM w1 5 1
      rw [hs1] at hown0
      have HO := hid hown0
      have HC0 := hid ((Chg.refl (fun k => w.heap.size + 1 ≤ k) w1).alloc (.cells #[] 5))
      clear hown0
      go_loopw [4, 5] (fun v i wr => ∃ k : Nat, k ≤ 8 ∧ i = .int .i64 (7 - (k : Int)) ∧ wr.ownsRow 0 5 1 v k ((lensL (s.size : Nat) k).map bv8) ∧ (∀ b, v.ownBlock = some b → w.heap.size + 1 ≤ b) ∧ Chg (fun k => w.heap.size + 1 ≤ k) w1 wr) (fun _ i _ => (intOf i + 1).toNat)
      case atStart => exact ⟨0, by decide, rfl, HO.out, by simp [Value.ownBlock], HC0.out⟩
      case round =>
        obtain ⟨k, hk, rfl, hown, hov, hch⟩ := hrel
        have HV := hid hov
        have HCH := hid hch
        clear hov hch
        by_cases hkn : k < 8
        · have q0 : (0 : Int) ≤ 7 - (k : Int) := by omega
          obtain ⟨m, hm⟩ : ∃ m : Nat, m = 8 * (7 - k) := ⟨_, rfl⟩
          have v1 : IntKind.i64.wrap (8 * (s.size : Int)) = 8 * (s.size : Int) := IntWalk.i64_in _ (by omega)
          have v2 : IntKind.i64.wrap (8 * (7 - (k : Int))) = (m : Int) := by rw [IntWalk.i64_in _ (by omega)]; omega
          have m1 : min m 64 = m := by omega
          have HL : Hid (8 * (s.size : Int) / 2 ^ m % 256 = ((lenB (s.size : Nat) k).toNat : Int)) := by
            show _ = _
            rw [lenB_val, hm, IntKind.wrap_u64, IntKind.wrap_u64]
            rw [show ((((s.size : Nat) : Int) % 18446744073709551616 * 8) % 18446744073709551616) = 8 * (s.size : Int) by omega]
          clear hm
          go_wp2_with (refine wpList_append_new rfl _ _ 125 rfl elU8r hown rfl _ 1 1 rfl rfl rfl (by unfold maxLen; omega) (by omega) (by decide) ?_; intro g1 cap1 w2 hown1 hchg hg1)
          go_roundw
          case rel =>
            refine ⟨k + 1, by omega, by congr 1; omega, ?_, ?_, HCH.out.trans hchg (fun i hi h => HV.out i h)⟩
            · rw [lensL_next, List.map_append]
              rw [HL.out] at hown1
              exact hown1
            · intro b hb
              simp [Value.ownBlock] at hb
              subst hb
              rcases hg1 with h | h
              · exact HV.out _ h
              · exact Nat.le_trans (by have := HCH.out.size; omega) h
          case measure => simp [intOf]; omega
        · obtain rfl : k = 8 := by omega
          have hlo : ¬ (0 : Int) ≤ 7 - ((8 : Nat) : Int) := by omega
          have hlen8 : (lensL (s.size : Nat) 8).length = 8 := by simp [lensL]
          obtain ⟨g8, cap8, rfl, hcap8, hg8⟩ := owns_some hown (by decide)
          have hconv := run_convert_bytes_back (P := Tryz.prog) wr 125 9 5 ⟨g8, 0, none⟩ cap8 (lensL (s.size : Nat) 8) Tryz.underlying125 Tryz.underlying5 Tryz.underlying9 (fun j hj => by
            have hadd : (⟨g8, 0, none⟩ : Addr).add j = ⟨g8, j, none⟩ := by unfold Addr.add; split <;> simp_all
            have := hown.cellAt j (by rw [hlen8] at hj; omega)
            rw [hadd, this]
            simp [bv8, hj])
          rw [hlen8] at hconv
          have zl : (ByteArray.mk (lensL (s.size : Nat) 8).toArray).size = 8 := by show (lensL (s.size : Nat) 8).toArray.size = 8; simp [lensL]
          have hG0 := heap_alloc_new' wr (.cells (rowF 8 iv) 177)
          rw [iv_row] at hG0
          have hbw : b.size = s.size + 1 + remF (s.size + 1) := by
            have h1 := congrArg List.length HB.out
            unfold padR at h1
            simp at h1
            omega
          obtain ⟨X, hX⟩ : ∃ X : ByteArray, X = b ++ ⟨(lensL (s.size : Nat) 8).toArray⟩ := ⟨_, rfl⟩
          have hXl : X.data.toList = wholeL s.data.toList := by
            rw [hX, ByteArray.data_append, Array.toList_append, HB.out]
            unfold wholeL
            rw [hsz]
          have hXs : X.size = b.size + 8 := by rw [hX, ByteArray.size_append]; show b.size + (lensL (s.size : Nat) 8).toArray.size = _; simp [lensL]
          have hr64' := remF_lt (s.size + 1)
          have HXL := hid hXl
          have HXS := hid hXs
          have HH1 := hid hs1
          have HG0 := hid hG0
          have HH0 := hid ha1
          have hw8 : wr.heap.size < (wr.alloc (.cells #[.int .u32 1779033703, .int .u32 3144134277, .int .u32 1013904242, .int .u32 2773480762, .int .u32 1359893119, .int .u32 2600822924, .int .u32 528734635, .int .u32 1541459225] 177)).heap.size := by simp
          have HW8 := hid hw8
          clear hXl hXs hw8 hG0 ha1 hown hcap8 hg8
          go_wp2_with (first | (go_at_call 108; refine (consts_any _).mono ?_; rintro e w2 ⟨rfl, hc2⟩) | (refine wpList_alloc0 rfl 184 rfl zc83 (alloc83 _) ?_; intro w3 ha3 hs3 hc3) | (refine wpList_store0 rfl 184 _ _ rfl w2.heap.size zc83 (rowF 64 kf) rfl rfl ha3 (by rw [rowF_size]; exact size83) rfl (rowF_one _ _) ?_; intro w4 ha4 hs4 hc4))
          rw [← hX]
          clear hX
          have hG4 := (hc4.obj (hc3.obj (hc2.obj HG0.out (fun h => h)) (fun h => h)) (by have := HW8.out; have := hc2.size; omega))
          have hd4 : w4.heap[w.heap.size]? = some (.cells (rowB 32 (fun _ => 0)) 57 (0, 0)) := hc4.obj (hc3.obj (hc2.obj (heap_alloc_old' (HCH.out.obj HH0.out (by show ¬ w.heap.size + 1 ≤ w.heap.size; omega)) _) (fun h => h)) (fun h => h)) (by have := HW8.out; have := hc2.size; have := HCH.out.size; omega)
          have hcw4 : Chg (fun _ => False) w w4 := (((hc1.trans HCH.out (fun i hi h => by have : w.heap.size + 1 ≤ i := h; omega)).alloc _).trans hc2 (fun _ _ h => h)).trans ((hc3.mono (fun _ _ h => h.elim)).trans hc4 (fun _ _ h => h)) (fun i hi h => by have := hc2.size; have := HW8.out; have := HCH.out.size; have := hc1.size; omega)
          obtain ⟨G, hG⟩ : ∃ G, G = wr.heap.size := ⟨_, rfl⟩
          obtain ⟨K, hK⟩ : ∃ K, K = w2.heap.size := ⟨_, rfl⟩
          have hGK : G < K := by have := HW8.out; have := hc2.size; omega
          have hdG : w.heap.size < G := by have := HCH.out.size; omega
          rw [← hG] at hG4 ⊢
          rw [← hK] at ha4 ⊢
          have HG4 := hid hG4
          have HD4 := hid hd4
          have HK4 := hid ha4
          have HC4 := hid hcw4
          have hX64 : X.size % 64 = 0 := by have := HXS.out; omega
          have hXb : X.size ≤ 300000 := by have := HXS.out; omega
          have HX64 := hid hX64
          clear hz1 hz8 hbb ht zl hlen8 hconv hb56 hr64 hr64' hbw h56
          clear hG4 hd4 ha4 hcw4 hc2 hc3 hc4 hs3 hs4 hG hK hX64 ha3
          go_loopw [8] (fun i wx => ∃ (k : Nat) (f' : Nat → Int), i = .int .i64 ((64 * k : Nat) : Int) ∧ 64 * k ≤ X.size ∧ wx.heap[G]? = some (.cells (rowF 8 f') 177 (0, 0)) ∧ mixAll X.size iv (wholeL s.data.toList) = mixAll X.size f' ((wholeL s.data.toList).drop (64 * k)) ∧ Chg (fun q => q = G) w4 wx) (fun i _ => X.size - (intOf i).toNat)
          case atStart => exact ⟨0, iv, rfl, Nat.zero_le _, by rw [iv_row]; exact HG4.out, rfl, Chg.refl _ _⟩
          case round =>
            obtain ⟨k, f', rfl, hk, hbg, hmx, hchg⟩ := hrel
            obtain ⟨q, hq⟩ : ∃ q, q = 64 * k := ⟨_, rfl⟩
            rw [← hq] at hk hmx ⊢
            have HQ := hid hq
            clear hq
            by_cases hkn : q < X.size
            · have hkn' : (q : Int) < (X.size : Int) := by omega
              have hq64 : q + 64 ≤ X.size := by have := HX64.out; have := HQ.out; omega
              have hq1 : (q : Int) + 64 ≤ (X.size : Int) := by omega
              have hq0 : (0 : Int) ≤ (q : Int) + 64 := by omega
              have hq2 : (q : Int) ≤ (q : Int) + 64 := by omega
              have hw1 : wrap64 ((q : Int) + 64) = (q : Int) + 64 := by unfold wrap64; omega
              have hw2 : IntKind.i64.wrap ((q : Int) + 64) = (q : Int) + 64 := IntWalk.i64_in _ (by omega)
              have hq3 : ((q : Int) + 64).toNat = q + 64 := by omega
              have hbk := hchg.obj HK4.out (by omega)
              have HBG := hid hbg
              have HBK := hid hbk
              have HMX := hid hmx
              have HCG := hid hchg
              clear hbg hmx hchg hbk
              go_wp2_with fail
              refine wp_region_still_tail 7 (by kernel_rfl) (by kernel_rfl) ?_
              simp only [List.take_succ_cons, List.take_zero, List.drop_succ_cons, List.drop_zero]
              refine wpStill_load0 rfl 177 _ rfl G (rowF 8 f') (.array 8 176) rfl HBG.out Tryz.underlying177 rfl (by rw [rowF_size]; kernel_rfl) ?_
              refine wpStill_load0 rfl 184 _ rfl K (rowF 64 kf) (.array 64 176) rfl HBK.out Tryz.underlying184 rfl (by rw [rowF_size]; kernel_rfl) ?_
              repeat still_step
              try refine wpStill_nil ?_
              change wpList _ _ _ _ _ wr.drew
              have hbs64 : (X.extract q (q + 64)).size = 64 := by simp; omega
              go_wp2_with (first | (go_at_call 109; refine (block_any (X.extract q (q + 64)) hbs64 f' _).mono ?_; rintro e w9 ⟨rfl, hc9⟩; have hb9 := hc9.obj (HBG.out : wr.drew.heap[G]? = _) (fun h => h)) | (refine wpList_store0 rfl 177 _ _ rfl G (rowF 8 f') (rowF 8 (mixR (X.extract q (q + 64)) f')) rfl rfl hb9 (by rw [rowF_size]; exact size73) rfl (rowF_one _ _) ?_; intro w10 hb10 hs10 hc10))
              have HMX2 : Hid (mixAll X.size iv (wholeL s.data.toList) = mixAll X.size (mixR (X.extract q (q + 64)) f') ((wholeL s.data.toList).drop (q + 64))) := by
                show _ = _
                rw [HMX.out, ← HXL.out]
                have hXl : X.data.toList.length = X.size := by simp
                obtain ⟨m, hm⟩ : ∃ m, X.size = m + 1 := ⟨X.size - 1, by omega⟩
                have h1 : mixAll X.size f' (X.data.toList.drop q) = mixAll m (mixR ⟨((X.data.toList.drop q).take 64).toArray⟩ f') ((X.data.toList.drop q).drop 64) := by
                  rw [hm]
                  exact mixAll_step m f' _ (by rw [List.length_drop, hXl]; omega)
                have h2 : (⟨((X.data.toList.drop q).take 64).toArray⟩ : ByteArray) = X.extract q (q + 64) := by
                  apply ByteArray.ext
                  apply Array.ext'
                  simp [ByteArray.data_extract, List.extract_eq_take_drop]
                rw [h1, h2, List.drop_drop]
                exact mixAll_fuel _ _ _ _ (by rw [List.length_drop, hXl]; omega) (by rw [List.length_drop, hXl]; omega)
              have HCG2 := hid ((HCG.out.drew.trans hc9 (fun _ _ h => h.elim)).trans hc10 (fun _ _ h => h))
              have HB10 := hid hb10
              clear hb10 hs10 hc10 hc9 hb9
              go_wp2_with fail
              go_roundw
              case rel => exact ⟨k + 1, _, by have := HQ.out; congr 1; omega, by have := HQ.out; omega, HB10.out, by rw [show 64 * (k + 1) = q + 64 by have := HQ.out; omega]; exact HMX2.out, HCG2.out⟩
              case measure => simp [intOf]; omega
            · obtain rfl : q = X.size := by omega
              have hfin : mixAll X.size iv (wholeL s.data.toList) = f' := by
                rw [hmx]
                refine mixAll_end _ _ _ ?_
                rw [← HXL.out]
                simp
              have HFIN := hid hfin
              have hd5 := hchg.obj HD4.out (by omega)
              have HCW5 := hid (HC4.out.trans hchg (fun i hi h => by omega))
              have HBG := hid hbg
              have HD5 := hid hd5
              have hGl := heap_lt hbg
              clear hbg hchg hmx hfin hd5 HQ
              go_wp2_with (first | (refine wpList_build0 rfl 57 rfl (.agg (rowB 32 (fun _ => 0))) (build37 _) ?_) | (refine wpList_alloc0 rfl 57 rfl (rowB 32 (fun _ => 0)) (alloc37 _) ?_; intro w5 ha5 hs5 hc5) | (refine wpList_store0 rfl 57 _ _ rfl wr.heap.size (rowB 32 (fun _ => 0)) (rowB 32 (fun _ => 0)) rfl rfl ha5 (by rw [rowB_size]; exact size37) rfl (rowB_one _ _) ?_; intro w6 ha6 hs6 hc6))
              obtain ⟨D, hD⟩ : ∃ D, D = wr.heap.size := ⟨_, rfl⟩
              rw [← hD] at ha6 hc6 hGl ⊢
              have hbg6 := hc6.obj (hc5.obj HBG.out (fun h => h)) (by omega)
              have hd6 := hc6.obj (hc5.obj HD5.out (fun h => h)) (by omega)
              have hcw6 : Chg (fun _ => False) w w6 := (HCW5.out.trans hc5 (fun _ _ h => h)).trans hc6 (fun i hi h => by omega)
              have HBG6 := hid hbg6
              have HD6 := hid hd6
              have HA6 := hid ha6
              have HCW6 := hid hcw6
              have hwD : w.heap.size < D := by omega
              clear hbg6 hd6 ha6 hcw6 hc5 hc6 ha5 hs5 hs6 HBG HD5 HCW5 hD
              go_loopw [10] (fun i wx => ∃ k : Nat, k ≤ 32 ∧ i = .int .i64 k ∧ wx.heap[D]? = some (.cells (rowB 32 (fun i => if i < k then digB f' i else 0)) 57 (0, 0)) ∧ Chg (fun q => q = D) w6 wx) (fun i _ => 32 - (intOf i).toNat)
              case atStart => exact ⟨0, Nat.zero_le _, rfl, by rw [HA6.out]; rfl, Chg.refl _ _⟩
              case round =>
                obtain ⟨k, hk, rfl, hblk, hch⟩ := hrel
                by_cases hkn : k < 32
                · have hkn' : (k : Int) < 32 := by omega
                  have hq : IntKind.i64.wrap ((k : Int).tdiv 4) = ((k / 4 : Nat) : Int) := by rw [IntWalk.i64_quo _ _ (by omega)]; omega
                  have hr : (k : Int).tmod 4 = ((k % 4 : Nat) : Int) := by rw [Int.tmod_eq_emod_of_nonneg (by omega)]; omega
                  have hq8 : ((k / 4 : Nat) : Int) < 8 := by omega
                  have c1 := row_cell (hch.obj HBG6.out (by omega)) (k / 4) (by omega)
                  have cd := rowB_cell hblk k hkn
                  have fd := frozen_of hblk k
                  obtain ⟨r, hrr⟩ : ∃ r, r = k % 4 := ⟨_, rfl⟩
                  have hr4 : r < 4 := by omega
                  obtain ⟨m, hm⟩ : ∃ m, m = 24 - r * 8 := ⟨_, rfl⟩
                  have v1 : IntKind.i64.wrap (8 * (r : Int)) = 8 * (r : Int) := IntWalk.i64_in _ (by omega)
                  have v2 : IntKind.i64.wrap (24 - 8 * (r : Int)) = (m : Int) := by rw [IntWalk.i64_in _ (by omega)]; omega
                  have m1 : min m 32 = m := by omega
                  rw [← hrr] at hr
                  have HDV : Hid (f' (k / 4) / 2 ^ m % 256 = ((digB f' k).toNat : Int)) := by
                    show _ = _
                    rw [digB_val, hm, hrr]
                  have HB := hid hblk
                  have HC := hid hch
                  clear hblk hch hrr hm
                  go_wp2_with fail
                  go_roundw
                  case rel =>
                    refine ⟨k + 1, by omega, by go_num, ?_, HC.out.setCell (p := ⟨D, k, none⟩) (fun _ => rfl) _⟩
                    rw [HDV.out, heap_set_same HB.out, rowB_set]
                    refine congrArg (fun x => some (Obj.cells x _ _)) (rowB_congr fun i hi => ?_)
                    by_cases e : i = k
                    · subst e; rw [if_pos rfl, if_pos (by omega)]
                    · rw [if_neg e]
                      by_cases e2 : i < k
                      · rw [if_pos e2, if_pos (by omega)]
                      · rw [if_neg e2, if_neg (by omega)]
                  case measure => simp [intOf]; omega
                · obtain rfl : k = 32 := by omega
                  have hfin2 : wr.heap[D]? = some (.cells (rowB 32 (digB f')) 57 (0, 0)) := by
                    rw [hblk]; exact congrArg (fun x => some (Obj.cells x _ _)) (rowB_congr fun i hi => if_pos hi)
                  have hdd := hch.obj HD6.out (by omega)
                  have HCX := hid hch
                  clear hblk hch
                  go_wp2_with (first | (refine wpList_load0 rfl 57 _ rfl D (rowB 32 (digB f')) (.array 32 5) rfl hfin2 Tryz.underlying57 rfl (by rw [rowB_size]; kernel_rfl) ?_) | (refine wpList_store0 rfl 57 _ _ rfl w.heap.size (rowB 32 (fun _ => 0)) (rowB 32 (digB f')) rfl rfl hdd (by rw [rowB_size]; exact size37) rfl (rowB_one _ _) ?_; intro w9 hb9 hs9 hc9))
                  refine bodyPost_ret (v := .agg (rowB 32 (digB f'))) ?_ rfl ⟨?_, ?_⟩
                  · refine results_row Tryz.results70 _ _ w.heap.size rfl _ (run_loadVar_row _ w.heap.size 57 57 _ (0, 0) (.array 32 5) hb9 Tryz.underlying57 rfl (by rw [rowB_size]; kernel_rfl))
                  · have hLX : (wholeL s.data.toList).length = X.size := by rw [← HXL.out]; simp
                    rw [hLX, HFIN.out]
                  · exact (HCW6.out.trans HCX.out (fun i hi h => by omega)).trans hc9 (fun i hi h => by omega)
    · have hb56 : ((b.size : Int) % 64 == 56) = false := by simpa using (show ¬ (b.size : Int) % 64 = 56 by omega)
      have hnx := pad_next h56
      have hx1 : ¬ (b.size : Int) % 64 = 56 := by omega
      have hx2 : decide ((b.size : Int) % 64 = 56) = false := decide_eq_false hx1
      have hx3 : (!((b.size : Int) % 64 == 56)) = true := by rw [hb56]; rfl
      have HB := hid hb
      have HBS := hid hbs
      have HJ := hid hj
      rw [hbs] at hnx
      have HNX := hid hnx
      clear hb hj hbs hnx
      go_wp2_with fail
      go_round
      case rel => exact ⟨_, j + 1, rfl, by rw [ByteArray.data_append, Array.toList_append, HB.out]; simp [List.replicate_succ'], by rw [ByteArray.size_append, HBS.out]; rfl, by have := HJ.out; have := HNX.out; rw [show s.size + 1 + (j + 1) = s.size + 1 + j + 1 by omega]; omega⟩
      case measure =>
        show remF (b ++ _).size < remF b.size
        rw [ByteArray.size_append]
        show remF (b.size + 1) < remF b.size
        rw [HBS.out]
        have := HNX.out
        omega
end Go.Proofs.YthglfmacjoecgaaGreatDoor
namespace Go.Proofs.YthglfmacjoecgaaGreatDoor
open Go.RowKit

/-- A digest's bytes. -/
def bytesS (f : Nat → UInt8) : ByteArray := ⟨((List.range 32).map f).toArray⟩

set_option maxRecDepth 100000 in
set_option maxHeartbeats 2000000 in
theorem rbytes_any (f : Nat → UInt8) (w : World) : Calls Tryz.prog 107 #[.agg (rowB 32 f)] w (Rets (.string (bytesS f)) (Chg (fun _ => False) w)) := by
  go_enter Tryz.func107, Tryz.ntmps107
  go_wp2_with (refine wpList_box1 rfl 57 _ rfl (rowB 32 f) rfl ?_; intro w1 ha1 hs1 hc1)
  have hown0 := owns_emptyM w1 5 1
  rw [hs1] at hown0
  have HO := hid hown0
  have HC0 := hid ((Chg.refl (fun k => w.heap.size + 1 ≤ k) w1).alloc (.cells #[] 5))
  have HA := hid ha1
  clear hown0 ha1
  go_loopw [3, 4] (fun v i wr => ∃ k : Nat, k ≤ 32 ∧ i = .int .i64 k ∧ wr.ownsRow 0 5 1 v k (((List.range k).map f).map bv8) ∧ (∀ b, v.ownBlock = some b → w.heap.size + 1 ≤ b) ∧ Chg (fun k => w.heap.size + 1 ≤ k) w1 wr) (fun _ i _ => 32 - (intOf i).toNat)
  case atStart => exact ⟨0, by decide, rfl, HO.out, by simp [Value.ownBlock], HC0.out⟩
  case round =>
    obtain ⟨k, hk, rfl, hown, hov, hch⟩ := hrel
    have HV := hid hov
    have HCH := hid hch
    by_cases hkn : k < 32
    · have hkn' : (k : Int) < 32 := by omega
      have c1 := rowB_cell (hch.obj HA.out (by show ¬ w.heap.size + 1 ≤ w.heap.size; omega)) k hkn
      clear hov hch
      go_wp2_with (refine wpList_append_new rfl _ _ 125 rfl elU8r hown rfl _ 1 1 rfl rfl rfl (by unfold maxLen; omega) (by omega) (by decide) ?_; intro g1 cap1 w2 hown1 hchg hg1)
      go_roundw
      case rel =>
        refine ⟨k + 1, by omega, by go_num, ?_, ?_, HCH.out.trans hchg (fun i hi h => HV.out i h)⟩
        · rw [List.range_succ, List.map_append, List.map_append]
          exact hown1
        · intro b hb
          simp [Value.ownBlock] at hb
          subst hb
          rcases hg1 with h | h
          · exact HV.out _ h
          · exact Nat.le_trans (by have := HCH.out.size; omega) h
      case measure => simp [intOf]; omega
    · obtain rfl : k = 32 := by omega
      obtain ⟨g8, cap8, rfl, hcap8, hg8⟩ := owns_some hown (by decide)
      have hlen : ((List.range 32).map f).length = 32 := by simp
      have hconv := run_convert_bytes_back (P := Tryz.prog) wr 125 9 5 ⟨g8, 0, none⟩ cap8 ((List.range 32).map f) Tryz.underlying125 Tryz.underlying5 Tryz.underlying9 (fun j hj => by
        have hadd : (⟨g8, 0, none⟩ : Addr).add j = ⟨g8, j, none⟩ := by unfold Addr.add; split <;> simp_all
        have := hown.cellAt j (by rw [hlen] at hj; omega)
        rw [hadd, this]
        rw [hlen] at hj
        simp [bv8, hj])
      rw [hlen] at hconv
      clear hlen hown hov hch
      go_wp2_with fail
      go_ret
      exact ⟨rfl, (hc1.trans HCH.out (fun i hi h => by have : w.heap.size + 1 ≤ i := h; omega))⟩

set_option maxRecDepth 100000 in
set_option maxHeartbeats 2000000 in
theorem rBytes_any (f : Nat → UInt8) (w : World) : Calls Tryz.prog 69 #[.agg (rowB 32 f)] w (Rets (.string (bytesS f)) (Chg (fun _ => False) w)) := by
  go_enter Tryz.func69, Tryz.ntmps69
  go_wp2_with (first | (refine wpList_box1 rfl 57 _ rfl (rowB 32 f) rfl ?_; intro w1 ha1 hs1 hc1) | (refine wpList_load0 rfl 57 _ rfl w.heap.size (rowB 32 f) (.array 32 5) rfl ha1 Tryz.underlying57 rfl (by rw [rowB_size]; kernel_rfl) ?_) | (go_at_call 107; refine (rbytes_any f _).mono ?_; rintro e w2 ⟨rfl, hc2⟩))
  go_ret
  exact ⟨rfl, hc1.trans hc2 (fun _ _ h => h)⟩
end Go.Proofs.YthglfmacjoecgaaGreatDoor
namespace Go.Proofs.YthglfmacjoecgaaGreatDoor
open Go.RowKit

theorem TabsOK.mono {B B' : Nat} {w : World} (h : TabsOK B w) (hB : B ≤ B') : TabsOK B' w := ⟨h.pow, h.wds, Nat.lt_of_lt_of_le h.gp hB, Nat.lt_of_lt_of_le h.gw hB⟩
theorem TabsOK.keep {B : Nat} {w w' : World} (h : TabsOK B w) (hc : Chg (fun _ => False) w w') : TabsOK B w' := h.chg (hc.mono (fun _ _ h => h.elim))
/-- stamp.Of at one text in a row just laid. -/
theorem of_one {B : Nat} (x : ByteArray) (hx : x.size ≤ 100000) (w : World) (hT : TabsOK B w) (hB : B ≤ w.heap.size) :
    Calls Tryz.prog 28 #[.slice (some ⟨w.heap.size, 0, none⟩) 1 1] (w.alloc (.cells #[.string x] 9)) (Rets (.agg (rowB 32 (ofB [x]))) (Chg (fun _ => False) (w.alloc (.cells #[.string x] 9)))) := by
  have hT2 := hT.keep ((Chg.refl (fun _ => False) w).alloc (.cells #[.string x] 9))
  refine of_any _ [x] w.heap.size 1 1 rfl (by simp) (by simp [sumSize]; omega) (fun i hi => ?_) (by simp) hT2.wds (by have := hT.gw; show gWds < _; simp; omega)
  obtain rfl : i = 0 := by simp at hi; omega
  exact cell_of (heap_alloc_new' w _) 0

set_option maxRecDepth 100000 in
set_option maxHeartbeats 2000000 in
theorem srow_any {B : Nat} (ts : List (List UInt8)) (hr : (rowN ts).length ≤ 90000) (hl : ts.length ≤ 1000) (v : Value) (w : World) (hin : NamesAt w v ts) (hT : TabsOK B w) (hB : B ≤ w.heap.size) :
    Calls Tryz.prog 67 #[v] w (Rets (.agg (rowB 32 (ofB [bs (rowN ts)]))) (Chg (fun _ => False) w)) := by
  have hrow : ∀ W, Chg (fun _ => False) w W → Calls Tryz.prog 63 #[v] W (Rets (.string (bs (rowN ts))) (Chg (fun _ => False) W)) := fun W hW => row_any ts hr hl v W (hin.chg hW (fun _ _ h => h))
  have hX : (bs (rowN ts)).size ≤ 100000 := by rw [bs_size]; omega
  obtain ⟨X, hXX⟩ : ∃ X, X = bs (rowN ts) := ⟨_, rfl⟩
  rw [← hXX] at hrow hX ⊢
  have hof : ∀ W, Chg (fun _ => False) w W → Calls Tryz.prog 28 #[.slice (some ⟨W.heap.size, 0, none⟩) 1 1] (W.alloc (.cells #[.string X] 9)) (Rets (.agg (rowB 32 (ofB [X]))) (Chg (fun _ => False) (W.alloc (.cells #[.string X] 9)))) := fun W hW =>
    of_one X hX W (hT.keep hW) (Nat.le_trans hB hW.size)
  have HROW := hid hrow
  have HOF := hid hof
  clear hrow hof hXX hin hT hr
  generalize ofB [X] = D at *
  go_enter Tryz.func67, Tryz.ntmps67
  go_wp2_with (first | (refine wpList_alloc0 rfl 57 rfl (rowB 32 (fun _ => 0)) (alloc37 _) ?_; intro w1 ha1 hs1 hc1) | (go_at_call 63; refine (HROW.out _ hc1).mono ?_; rintro e w2 ⟨rfl, hc2⟩; have hc12 := hc1.trans hc2 (fun _ _ h => h)) | (go_at_call 28; refine (HOF.out _ hc12).mono ?_; rintro e w3 ⟨rfl, hc3⟩; have hc13 := (hc2.alloc (.cells #[.string X] 9)).trans hc3 (fun _ _ h => h); have hblk := hc13.obj ha1 (fun h => h)) | (refine wpList_store0 rfl 57 _ _ rfl w.heap.size (rowB 32 (fun _ => 0)) (rowB 32 D) rfl rfl hblk (by rw [rowB_size]; exact size37) rfl (rowB_one _ _) ?_; intro w5 hb5 hs5 hc5))
  refine bodyPost_ret (v := .agg (rowB 32 D)) ?_ rfl ⟨rfl, ?_⟩
  · exact results_row Tryz.results67 _ _ w.heap.size rfl _ (run_loadVar_row _ w.heap.size 57 57 _ (0, 0) (.array 32 5) hb5 Tryz.underlying57 rfl (by rw [rowB_size]; kernel_rfl))
  · exact (hc1.trans hc13 (fun _ _ h => h)).trans hc5 (fun i hi h => by omega)

set_option maxRecDepth 100000 in
set_option maxHeartbeats 2000000 in
theorem rsrow_any (ts : List (List UInt8)) (hr : (rowN ts).length ≤ 90000) (hl : ts.length ≤ 1000) (v : Value) (w : World) (hin : NamesAt w v ts) :
    Calls Tryz.prog 71 #[v] w (Rets (.agg (rowB 32 (ofB [bs (rowN ts)]))) (Chg (fun _ => False) w)) := by
  have hrow : ∀ W, Chg (fun _ => False) w W → Calls Tryz.prog 110 #[v] W (Rets (.string (bs (rowN ts))) (Chg (fun _ => False) W)) := fun W hW => rrow_any ts hr hl v W (hin.chg hW (fun _ _ h => h))
  have hX : (bs (rowN ts)).size ≤ 100000 := by rw [bs_size]; omega
  obtain ⟨X, hXX⟩ : ∃ X, X = bs (rowN ts) := ⟨_, rfl⟩
  rw [← hXX] at hrow hX ⊢
  have HOF := hid (rof_any X hX)
  have HROW := hid hrow
  clear hrow hXX hin hr
  generalize ofB [X] = D at *
  go_enter Tryz.func71, Tryz.ntmps71
  go_wp2_with (first | (refine wpList_alloc0 rfl 57 rfl (rowB 32 (fun _ => 0)) (alloc37 _) ?_; intro w1 ha1 hs1 hc1) | (go_at_call 110; refine (HROW.out _ hc1).mono ?_; rintro e w2 ⟨rfl, hc2⟩) | (go_at_call 70; refine (HOF.out _).mono ?_; rintro e w3 ⟨rfl, hc3⟩; have hc13 := hc2.trans hc3 (fun _ _ h => h); have hblk := hc13.obj ha1 (fun h => h)) | (refine wpList_store0 rfl 57 _ _ rfl w.heap.size (rowB 32 (fun _ => 0)) (rowB 32 D) rfl rfl hblk (by rw [rowB_size]; exact size37) rfl (rowB_one _ _) ?_; intro w5 hb5 hs5 hc5))
  refine bodyPost_ret (v := .agg (rowB 32 D)) ?_ rfl ⟨rfl, ?_⟩
  · exact results_row Tryz.results71 _ _ w.heap.size rfl _ (run_loadVar_row _ w.heap.size 57 57 _ (0, 0) (.array 32 5) hb5 Tryz.underlying57 rfl (by rw [rowB_size]; kernel_rfl))
  · exact (hc1.trans hc13 (fun _ _ h => h)).trans hc5 (fun i hi h => by omega)
end Go.Proofs.YthglfmacjoecgaaGreatDoor
