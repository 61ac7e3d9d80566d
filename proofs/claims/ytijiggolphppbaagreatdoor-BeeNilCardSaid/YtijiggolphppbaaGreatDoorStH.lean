/- stamp.Of walked: the digest of texts. -/
import Derived.Test.YtijiggolphppbaaGreatDoorStG
namespace Go.Proofs.YtijiggolphppbaaGreatDoor
open Go.RowKit

/-- The digest of texts one behind the other, byte by byte. -/
def ofB (ss : List ByteArray) : Nat → UInt8 := digB (sumF (addsR ss).1 (addsR ss).2.1 (addsR ss).2.2)

/-- Of with what its parts answer named: no walk looks into them. -/
structure OfParts (ss : List ByteArray) (f : Nat → Int) (r : ByteArray) (m : Int) (D : Nat → UInt8) : Prop where
  less : r.size < 64
  add : ∀ (w : World) (b : Nat) (g n c : Nat) (_ : n = ss.length) (_ : ss.length ≤ 1000) (_ : sumSize ss ≤ 140737488355328) (_ : ∀ i (h : i < ss.length), w.cell? ⟨g, i, none⟩ = some (.string ss[i])) (_ : g ≠ b)
    (_ : PressAt w b iv .empty 0) (_ : Lib.TabIs Tryz.prog w "apiary/stamp.words" .u32 wordsL) (_ : gWd ≠ b),
    Calls Tryz.prog 127 #[.pointer (some ⟨b, 0, none⟩), .slice (some ⟨g, 0, none⟩) n c] w
      (fun e w' => e = .returned (.pointer (some ⟨b, 0, none⟩)) ∧ PressAt w' b f r m ∧ Chg (fun k => k = b) w w')
  sum : ∀ (w : World) (b : Nat) (_ : PressAt w b f r m) (_ : Lib.TabIs Tryz.prog w "apiary/stamp.words" .u32 wordsL) (_ : gWd < w.heap.size),
    Calls Tryz.prog 128 #[.pointer (some ⟨b, 0, none⟩)] w (Rets (.agg (rowB 32 D)) (Chg (fun _ => False) w))
theorem ofParts (ss : List ByteArray) : OfParts ss (addsR ss).1 (addsR ss).2.1 (addsR ss).2.2 (ofB ss) :=
  ⟨addsR_less ss, fun w b g n c h1 h2 h3 h4 h5 h6 h7 h8 => sadd_any w b ss g n c h1 h2 h3 h4 h5 h6 h7 h8, fun w b h1 h2 h3 => ssum_any w b _ _ _ (addsR_less ss) h1 h2 h3⟩

set_option maxRecDepth 100000 in
set_option maxHeartbeats 1000000 in
theorem of_parts (w : World) (ss : List ByteArray) (g n c : Nat) (hn : n = ss.length) (hl : ss.length ≤ 1000) (hsz : sumSize ss ≤ 140737488355328) (hc : ∀ i (h : i < ss.length), w.cell? ⟨g, i, none⟩ = some (.string ss[i])) (hg : g < w.heap.size)
    (hT : Lib.TabIs Tryz.prog w "apiary/stamp.words" .u32 wordsL) (hgw : gWd < w.heap.size) (f : Nat → Int) (r : ByteArray) (m : Int) (D : Nat → UInt8) (hO : OfParts ss f r m D) :
    Calls Tryz.prog 59 #[.slice (some ⟨g, 0, none⟩) n c] w (Rets (.agg (rowB 32 D)) (Chg (fun _ => False) w)) := by
  have HC := hid hc
  have HT := hid hT
  have HO := hid hO
  clear hc hT hO
  go_enter Tryz.func59, Tryz.ntmps59
  go_wp2_with (first | (refine wpList_alloc0 rfl 62 rfl (rowB 32 (fun _ => 0)) (alloc37 _) ?_; intro w1 ha1 hs1 hc1; have HA1 := hid ha1; have HS1 := hid hs1; have HC1 := hid hc1; clear ha1 hs1 hc1) | (go_at_call 126; refine (snew_any _).mono ?_; rintro e w2 ⟨b, rfl, hb2, hP2, hc2⟩; have HC2 := hid (HC1.out.trans hc2 (fun _ _ h => h)); have HB2 := hid hb2; have HP2 := hid hP2; have HA2 := hid (hc2.obj HA1.out (fun h => h)); clear hb2 hP2 hc2))
  have hb0 : w.heap.size < b := by have h1 := HB2.out; have h2 := HS1.out; omega
  refine (HO.out.add w2 b g _ c rfl hl hsz (fun i hi => HC2.out.cell (HC.out i hi) (fun h => h)) (by omega) HP2.out (words_chg HT.out HC2.out (fun h => h)) (by omega)).mono ?_
  rintro e w3 ⟨rfl, hP3, hc3⟩
  have HC3 := hid (HC2.out.trans hc3 (fun i hi h => by omega))
  have HA3 := hid (hc3.obj HA2.out (by omega))
  have HP3 := hid hP3
  clear hc3 hP3
  have hsum := HO.out.sum w3 b HP3.out (words_chg HT.out HC3.out (fun h => h)) (Nat.lt_of_lt_of_le hgw HC3.out.size)
  go_wp2_with (first | (go_at_call 128; refine hsum.mono ?_; rintro e w4 ⟨rfl, hc4⟩; have HC4 := hid (HC3.out.trans hc4 (fun _ _ h => h)); have HA4 := hid (hc4.obj HA3.out (fun h => h)); clear hc4) | (refine wpList_store0 rfl 62 _ _ rfl w.heap.size (rowB 32 (fun _ => 0)) (rowB 32 D) rfl rfl HA4.out (by rw [rowB_size]; exact size37) rfl (rowB_one _ _) ?_; intro w5 hb5 hs5 hc5))
  refine bodyPost_ret (v := .agg (rowB 32 D)) ?_ rfl ⟨rfl, ?_⟩
  · exact results_row Tryz.results59 _ _ w.heap.size rfl _ (run_loadVar_row _ w.heap.size 62 62 _ (0, 0) (.array 32 5) hb5 Tryz.underlying62 rfl (by rw [rowB_size]; kernel_rfl))
  · exact HC4.out.trans hc5 (fun i hi h => by omega)

theorem of_any (w : World) (ss : List ByteArray) (g n c : Nat) (hn : n = ss.length) (hl : ss.length ≤ 1000) (hsz : sumSize ss ≤ 140737488355328) (hc : ∀ i (h : i < ss.length), w.cell? ⟨g, i, none⟩ = some (.string ss[i])) (hg : g < w.heap.size)
    (hT : Lib.TabIs Tryz.prog w "apiary/stamp.words" .u32 wordsL) (hgw : gWd < w.heap.size) :
    Calls Tryz.prog 59 #[.slice (some ⟨g, 0, none⟩) n c] w (Rets (.agg (rowB 32 (ofB ss))) (Chg (fun _ => False) w)) :=
  of_parts w ss g n c hn hl hsz hc hg hT hgw _ _ _ _ (ofParts ss)
end Go.Proofs.YtijiggolphppbaaGreatDoor
