/- (*stamp.Press).Sum walked. -/
import Derived.Test.YtijiggolphppbaaGreatDoorStF
import Derived.Lib.SlBytesRow
namespace Go.Proofs.YtijiggolphppbaaGreatDoor
open Go.RowKit

def sliceLen : Value → Nat
  | .slice _ n _ => n
  | _ => 0
theorem RowM.sl {w : World} {v : Value} {l : List UInt8} (h : RowM w v l) : sliceLen v = l.length := by
  obtain ⟨g, cap, cur, fz, rfl, _⟩ := h
  rfl
def remF (n : Nat) : Nat := (120 - n % 64) % 64
/-- Zeros behind a text, so that there is room for its length. -/
def padR (l : List UInt8) : List UInt8 := l ++ List.replicate (remF l.length) 0
theorem pad_stop {n : Nat} (h : n % 64 = 56) : remF n = 0 := by unfold remF; omega
theorem pad_next {n : Nat} (h : n % 64 ≠ 56) : remF n = remF (n + 1) + 1 := by unfold remF; omega
theorem pad_size (n : Nat) : (n + remF n) % 64 = 56 := by unfold remF; omega
/-- The bytes of a length. -/
def lenB (n : Int) (i : Nat) : UInt8 := UInt8.ofNat ((IntKind.u64.wrap (IntKind.u64.wrap n * 8) / 2 ^ (8 * (7 - i))) % 256).toNat
theorem lenB_val (n : Int) (k : Nat) : ((lenB n k).toNat : Int) = IntKind.u64.wrap (IntKind.u64.wrap n * 8) / 2 ^ (8 * (7 - k)) % 256 := by
  unfold lenB
  generalize IntKind.u64.wrap (IntKind.u64.wrap n * 8) / 2 ^ (8 * (7 - k)) = x
  rw [UInt8.toNat_ofNat']
  omega
def lensL (n : Int) (k : Nat) : List UInt8 := (List.range k).map (lenB n)
theorem lensL_next (n : Int) (k : Nat) : lensL n (k + 1) = lensL n k ++ [lenB n k] := by unfold lensL; rw [List.range_succ, List.map_append]; rfl
/-- What is summed up at the end. -/
def tailL (rest : ByteArray) (n : Int) : List UInt8 := padR (rest.data.toList ++ [128]) ++ lensL n 8
def mixAll : Nat → (Nat → Int) → List UInt8 → (Nat → Int)
  | 0, f, _ => f
  | m + 1, f, l => if l.length < 64 then f else mixAll m (mixR ⟨(l.take 64).toArray⟩ f) (l.drop 64)
theorem mixAll_end (m : Nat) (f : Nat → Int) (l : List UInt8) (h : l.length < 64) : mixAll m f l = f := by
  cases m with
  | zero => rfl
  | succ m => unfold mixAll; rw [if_pos h]
def sumF (f : Nat → Int) (rest : ByteArray) (n : Int) : Nat → Int := mixAll (tailL rest n).length f (tailL rest n)
theorem tailL_len (rest : ByteArray) (n : Int) : (tailL rest n).length % 64 = 0 := by
  unfold tailL padR lensL
  have := pad_size (rest.data.toList ++ [128]).length
  simp only [List.length_append, List.length_replicate, List.length_map, List.length_range] at *
  omega
theorem remF_lt (n : Nat) : remF n < 64 := by unfold remF; omega

set_option maxRecDepth 100000 in
set_option maxHeartbeats 4000000 in
theorem ssum_any (w : World) (b : Nat) (f : Nat → Int) (rest : ByteArray) (n : Int) (hr : rest.size < 64) (hP : PressAt w b f rest n) (hT : Lib.TabIs Tryz.prog w "apiary/stamp.words" .u32 wordsL) (hgw : gWd < w.heap.size) :
    Calls Tryz.prog 128 #[.pointer (some ⟨b, 0, none⟩)] w (Rets (.agg (rowB 32 (digB (sumF f rest n)))) (Chg (fun _ => False) w)) := by
  obtain ⟨cs, hS, h8, h9⟩ := hP
  have hbw := heap_lt hS.heap
  have HS := hid hS
  have H8 := hid h8
  have H9 := hid h9
  have HT := hid hT
  clear hS h8 h9 hT
  go_enter Tryz.func128, Tryz.ntmps128
  go_wp2_with (first | (refine wpList_alloc0 rfl 62 rfl (rowB 32 (fun _ => 0)) (alloc37 _) ?_; intro w1 ha1 hs1 hc1; have x8 := hc1.cell ((cell_of HS.out.heap 8).trans H8.out) (fun h => h); obtain ⟨v0, wc, hconv, hrow, hcc, hscc, hvo⟩ := conv_row w1 rest (by unfold maxLen; omega); have HHS1 := hid hs1; have HCC := hid hcc; have HVO := hid hvo; have HSC := hid hscc; clear hs1 hcc hvo hscc) | (at_builtin; go_loud (refine wpList_append1 rfl _ _ rfl hrow rfl 128 _ rfl _ _ rfl rfl (by simp; omega) ?_; intro v2 w2 hrow2 hc2 hvo2)))
  have hl0 : Hid (padR (rest.data.toList ++ [128]) = padR (rest.data.toList ++ [128])) := rfl
  have H2 : Hid ((∀ k, v2.ownBlock = some k → w1.heap.size ≤ k) ∧ Chg (fun _ => False) w1 w2) := by
    refine ⟨fun k hk => ?_, ?_⟩
    · rcases hvo2 k hk with h | h
      · rw [HVO.out] at h; cases h; exact Nat.le_refl _
      · have := HSC.out; omega
    · refine HCC.out.trans hc2 (fun i hi h => ?_)
      rw [HVO.out] at h; cases h; exact absurd hi (Nat.lt_irrefl _)
  clear hc2 hvo2 hrow hconv x8
  go_loopw [3] (fun v wr => ∃ l : List UInt8, RowM wr v l ∧ padR l = padR (rest.data.toList ++ [128]) ∧ l.length ≤ 200 - remF l.length ∧ (∀ k, v.ownBlock = some k → w1.heap.size ≤ k) ∧ Chg (fun _ => False) w1 wr) (fun v _ => remF (sliceLen v))
  case atStart => exact ⟨_, hrow2, rfl, by have := remF_lt (rest.data.toList ++ [128]).length; simp at this ⊢; omega, H2.out.1, H2.out.2⟩
  case round =>
    obtain ⟨l, hrw, hpad, hll, hvo, hch⟩ := hrel
    have hlenV := fun W ty => hrw.len W ty
    have hmod : (l.length : Int).tmod 64 = ((l.length % 64 : Nat) : Int) := by rw [Int.tmod_eq_emod_of_nonneg (by omega)]; omega
    have HPAD := hid hpad
    have HVO2 := hid hvo
    have HCH := hid hch
    clear hpad hvo hch hrow2
    by_cases h56 : l.length % 64 = 56
    · have h56' : (((l.length % 64 : Nat) : Int) == 56) = true := by simp [h56]
      have hl0 : l = padR (rest.data.toList ++ [128]) := by
        rw [← HPAD.out]; unfold padR; rw [pad_stop h56]; simp
      have hlen8 : l.length ≤ 200 := by omega
      have HL0 := hid hl0
      clear hl0 HPAD hll
      go_wp2_with fail
      clear hlenV hmod
      obtain ⟨wo, hwo⟩ : ∃ wo : World, wo = wr := ⟨_, rfl⟩
      rw [← hwo] at hrw HCH ⊢
      clear hwo
      go_loopw [3, 23] (fun v i wr => ∃ k : Nat, k ≤ 8 ∧ i = .int .i64 k ∧ RowM wr v (l ++ lensL n k) ∧ (∀ k, v.ownBlock = some k → w1.heap.size ≤ k) ∧ Chg (fun _ => False) w1 wr) (fun _ i _ => 8 - (intOf i).toNat)
      case atStart => exact ⟨0, Nat.zero_le _, rfl, by simpa [lensL] using hrw, HVO2.out, HCH.out⟩
      case round =>
        obtain ⟨k, hk, rfl, hrw2, hvo, hch⟩ := hrel
        have hll2 : (lensL n k).length = k := by simp [lensL]
        by_cases hkn : k < 8
        · have hkn' : (k : Int) < 8 := by omega
          have x9 := (hc1.trans hch (fun _ _ h => h)).cell ((cell_of HS.out.heap 9).trans H9.out) (fun h => h)
          have hw7 : IntKind.i64.wrap (7 - (k : Int)) = ((7 - k : Nat) : Int) := by rw [IntWalk.i64_in _ (by omega)]; omega
          have hw8 : IntKind.i64.wrap (8 * ((7 - k : Nat) : Int)) = ((8 * (7 - k) : Nat) : Int) := by rw [IntWalk.i64_in _ (by omega)]; omega
          have HVO3 := hid hvo
          have HCH3 := hid hch
          clear hvo hch hrw
          go_wp2_with (at_builtin; go_loud (refine wpList_append1 rfl _ _ rfl hrw2 rfl (lenB n k) _ (by unfold bv8; rw [lenB_val]) _ _ rfl rfl (by rw [List.length_append, hll2]; omega) ?_; intro v3 w3 hrow3 hc3 hvo3))
          go_roundw
          case rel =>
            refine ⟨k + 1, by omega, by go_num, by rw [lensL_next, ← List.append_assoc]; exact hrow3, fun i hi => ?_, HCH3.out.trans hc3 (fun i hi h => absurd (HVO3.out _ h) (by omega))⟩
            rcases hvo3 i hi with h | h
            · exact HVO3.out _ h
            · exact Nat.le_trans HCH3.out.size h
          case measure => simp [intOf]; omega
        · obtain rfl : k = 8 := by omega
          have hE : l ++ lensL n 8 = tailL rest n := by rw [HL0.out]; rfl
          rw [hE] at hrw2
          have hS1 : StAt wr b 350 cs f := ⟨(hc1.trans hch (fun _ _ h => h)).obj HS.out.heap (fun h => h), HS.out.word⟩
          have hTl := tailL_len rest n
          have hTs : (tailL rest n).length ≤ 300 := by rw [← hE, List.length_append, hll2]; omega
          have HVO3 := hid hvo
          have HCH3 := hid hch
          have HS1 := hid hS1
          clear hvo hch hS1 hE hll2 hrw
          go_wp2_with (first | (refine wpList_loadst rfl 347 _ rfl b rfl (rowF 8 f) (.array 8 345) HS1.out.range Tryz.underlying347 rfl (by rw [rowF_size]; kernel_rfl) ?_) | (refine wpList_alloc0 rfl 347 rfl (rowF 8 (fun _ => 0)) (alloc74 _) ?_; intro w5 ha5 hs5 hc5) | (refine wpList_store0 rfl 347 _ _ rfl wr.heap.size (rowF 8 (fun _ => 0)) (rowF 8 f) rfl rfl ha5 (by rw [rowF_size]; exact size74) rfl (rowF_one _ _) ?_; intro w6 hb6 hs6 hc6))
          go_frame
          have hrw6 : RowM w6 u3 (tailL rest n) := hrw2.chg ((hc5.mono (fun _ _ h => h.elim)).trans hc6 (fun _ _ h => h)) (fun k hk e => by have := hrw2.lt k hk; omega)
          have hcw6 : Chg (fun _ => False) w w6 := ((((hc1.trans HCH3.out (fun _ _ h => h)).trans hc5 (fun _ _ h => h))).trans hc6 (fun i hi h => by have := HCH3.out.size; have := hc1.size; omega))
          have hbs : w.heap.size ≤ wr.heap.size := Nat.le_trans hc1.size HCH3.out.size
          have hd6 : w6.heap[w.heap.size]? = some (.cells (rowB 32 (fun _ => 0)) 62 (0, 0)) := hc6.obj (hc5.obj (HCH3.out.obj ha1 (fun h => h)) (fun h => h)) (by have h1 := heap_lt ha1; have := HCH3.out.size; omega)
          have hdb : w.heap.size ≠ wr.heap.size := by have h1 := heap_lt ha1; have := HCH3.out.size; omega
          have HD6 := hid hd6
          clear hd6
          obtain ⟨bs, hbse⟩ : ∃ bs, bs = wr.heap.size := ⟨_, rfl⟩
          have hgbs : ∀ k, u3.ownBlock = some k → k < bs := fun k hk => by have := hrw2.lt k hk; omega
          rw [← hbse] at hb6 hbs hdb ⊢
          have HSUM : Hid (sumF f rest n = mixAll (tailL rest n).length f (tailL rest n)) := hid rfl
          generalize tailL rest n = l at hrw6 hTl hTs HSUM
          obtain ⟨g, cap, cur, fz, rfl, hg, hfz, hnc, hcm, hcs, htake⟩ := hrw6
          have hgb : g ≠ bs := by have := hgbs g rfl; omega
          have hcells : ∀ i (h : i < l.length), w6.cell? ⟨g, i, none⟩ = some (bv8 l[i]) := by
            intro i hi
            rw [cell_of hg]
            have h1 : (cur.toList.take l.length)[i]? = (l.map bv8)[i]? := by rw [htake]
            rw [List.getElem?_take, if_pos hi] at h1
            rw [← Array.getElem?_toList, h1]
            simp [List.getElem?_eq_getElem hi]
          have HCE := hid hcells
          have HCW := hid hcw6
          have HB6 := hid hb6
          clear hrw2 hcells hcw6 hb6 ha5 hs5 hc5 hs6 hc6 hg hfz hcs htake hgbs hbse HVO3 HCH3 HS1 HVO2 HCH H2
          go_loopw [3] (fun v wx => ∃ off m st a c cs5, off ≤ l.length ∧ off % 64 = 0 ∧ v = .slice (some a) (l.length - off) c ∧ (off < l.length → a = ⟨g, off, none⟩ ∧ c = cap - off) ∧ l.length - off ≤ m ∧ mixAll m st (l.drop off) = mixAll l.length f l ∧ StAt wx bs 347 cs5 st ∧ Chg (fun k => k = bs) w6 wx) (fun v _ => sliceLen v)
          case atStart => exact ⟨0, l.length, f, _, _, _, Nat.zero_le _, rfl, rfl, fun _ => ⟨rfl, rfl⟩, Nat.le_refl _, rfl, StAt.row HB6.out, Chg.refl _ _⟩
          case round =>
            obtain ⟨off, m, st, a, c, cs5, hoff, hmod, rfl, hac, hm, hmix, hst, hch⟩ := hrel
            by_cases hend : off = l.length
            · subst hend
              have hlz : (l.length : Int) - (l.length : Int) = 0 := by omega
              have hlz2 : l.length - l.length = 0 := by omega
              have hfst : st = mixAll l.length f l := by
                rw [← hmix]
                exact (mixAll_end m st (l.drop l.length) (by simp)).symm
              have hdig := digest_any wr bs _ cs5 st hst
              have HFS := hid hfst
              have HCH9 := hid hch
              clear hmix hst hch hfst
              go_wp2_with (first | (go_at_call 233; refine hdig.mono ?_; rintro e w8 ⟨rfl, hc8⟩; have hd8 := hc8.obj (HCH9.out.obj HD6.out hdb) (fun h => h)) | (refine wpList_store0 rfl 62 _ _ rfl w.heap.size (rowB 32 (fun _ => 0)) (rowB 32 (digB st)) rfl rfl hd8 (by rw [rowB_size]; exact size37) rfl (rowB_one _ _) ?_; intro w9 hb9 hs9 hc9))
              refine bodyPost_ret (v := .agg (rowB 32 (digB st))) ?_ rfl ⟨by rw [HSUM.out, HFS.out], ?_⟩
              · exact results_row Tryz.results128 _ _ w.heap.size rfl _ (run_loadVar_row _ w.heap.size 62 62 _ (0, 0) (.array 32 5) hb9 Tryz.underlying62 rfl (by rw [rowB_size]; kernel_rfl))
              · exact ((HCW.out.trans HCH9.out (fun i hi h => by omega)).trans hc8 (fun _ _ h => h)).trans hc9 (fun i hi h => by omega)
            · have hlt : off < l.length := by omega
              obtain ⟨rfl, rfl⟩ := hac hlt
              have h64 : 64 ≤ l.length - off := by omega
              have h64' : (0 : Int) < ((l.length - off : Nat) : Int) := by omega
              have h65 : (64 : Int) ≤ ((l.length - off : Nat) : Int) := by omega
              have h66 : (64 : Int) ≤ ((cap - off : Nat) : Int) := by omega
              obtain ⟨m', rfl⟩ : ∃ m', m = m' + 1 := ⟨m - 1, by omega⟩
              have hbl : ((l.drop off).take 64).length = 64 := by simp; omega
              obtain ⟨blk, hblk⟩ : ∃ blk : ByteArray, blk = ⟨((l.drop off).take 64).toArray⟩ := ⟨_, rfl⟩
              have hbks : blk.size = 64 := by rw [hblk]; exact hbl
              have hby : Lib.Bytes wr g off blk := by
                intro i hi
                have hi2 : off + i < l.length := by rw [hbks] at hi; omega
                rw [hch.cell (p := ⟨g, off + i, none⟩) (HCE.out (off + i) hi2) hgb]
                subst hblk
                show some (bv8 l[off + i]) = some (.int .u8 ((((l.drop off).take 64).toArray[i]'hi).toNat : Int))
                simp [bv8]
              have hcv := Lib.run_convert_whole (P := Tryz.prog) wr 130 5 9 Tryz.underlying130 Tryz.underlying5 Tryz.underlying9 g off blk hby (cap - off)
              rw [hbks] at hcv
              have hTx := words_chg HT.out (HCW.out.trans hch (fun i hi h => absurd h (by omega))) (fun h => h)
              have hmixc := mix_any blk hbks wr bs _ cs5 st hst hTx (by omega)
              have hnext : mixAll m' (mixR blk st) (l.drop (off + 64)) = mixAll l.length f l := by
                rw [← hmix]
                conv => rhs; unfold mixAll
                rw [if_neg (by simp; omega), hblk, List.drop_drop]
              have HNX := hid hnext
              have HCH9 := hid hch
              clear hmix hst hch hnext hblk hby hTx hac
              go_wp2_with (go_at_call 232; refine hmixc.mono ?_; rintro e w8 ⟨rfl, cs8, hS8, hs8, hr8, hc8⟩)
              all_goals
                refine ⟨⟨off + 64, by omega, by omega, m', mixR blk st, _, _, ⟨rfl, by omega, rfl⟩, fun h => ?_, by omega, HNX.out, ⟨_, hS8⟩, HCH9.out.trans hc8 (fun _ _ h => h)⟩, by simp [sliceLen]; omega⟩
                first | exact absurd h (by omega) | exact ⟨rfl, by omega⟩
    · have h56' : (((l.length % 64 : Nat) : Int) == 56) = false := by simp; omega
      go_wp2_with (at_builtin; go_loud (refine wpList_append1 rfl _ _ rfl hrw rfl 0 _ rfl _ _ rfl rfl (by omega) ?_; intro v3 w3 hrow3 hc3 hvo3))
      go_roundw
      case rel =>
        refine ⟨l ++ [0], hrow3, ?_, ?_, fun k hk => ?_, HCH.out.trans hc3 (fun i hi h => absurd (HVO2.out _ h) (by omega))⟩
        · rw [← HPAD.out]
          unfold padR
          rw [List.length_append, List.length_singleton, List.append_assoc, pad_next h56, List.replicate_succ]
          rfl
        · rw [List.length_append, List.length_singleton]
          have h1 := pad_next h56
          have h2 := remF_lt l.length
          have h3 := hll
          omega
        · rcases hvo3 k hk with h | h
          · exact HVO2.out _ h
          · exact Nat.le_trans HCH.out.size h
      case measure =>
        rw [hrow3.sl, hrw.sl, List.length_append, List.length_singleton]
        have := pad_next h56
        omega
end Go.Proofs.YtijiggolphppbaaGreatDoor
