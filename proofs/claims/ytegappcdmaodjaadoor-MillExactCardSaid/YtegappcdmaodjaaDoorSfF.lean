/- apiaryref03.Bytes, bytes walked: a digest's bytes as a text. -/
import Derived.Test.YtegappcdmaodjaaDoorSfE
namespace Go.Proofs.YtegappcdmaodjaaDoor
open Go.RowKit

/-- A digest's bytes. -/
def bytesS (f : Nat → UInt8) : ByteArray := ⟨((List.range 32).map f).toArray⟩

set_option maxRecDepth 100000 in
set_option maxHeartbeats 2000000 in
theorem rbytes_any (f : Nat → UInt8) (w : World) : Calls Tryd.prog 47 #[.agg (rowB 32 f)] w (Rets (.string (bytesS f)) (Chg (fun _ => False) w)) := by
  go_enter Tryd.func47, Tryd.ntmps47
  go_wp2_with (refine wpList_box1 rfl 37 _ rfl (rowB 32 f) rfl ?_; intro w1 ha1 hs1 hc1)
  have hown0 := owns_empty w1 5 1
  rw [hs1] at hown0
  have HO := hid hown0
  have HC0 := hid ((Chg.refl (fun k => w.heap.size + 1 ≤ k) w1).alloc (.cells #[] 5))
  have HA := hid ha1
  clear hown0 ha1
  go_loopw [3, 4] (fun v i wr => ∃ k : Nat, k ≤ 32 ∧ i = .int .i64 k ∧ wr.ownsRow 0 5 1 v k (((List.range k).map f).map bv8) ∧ (∀ b, v.ownBlock = some b → w.heap.size + 1 ≤ b) ∧ Chg (fun k => w.heap.size + 1 ≤ k) w1 wr) (fun _ i _ => 32 - (intOf i).toNat)
  case atStart => exact ⟨0, by decide, rfl, HO.out, by simp [Value.ownBlock], HC0.out⟩
  case round =>
    obtain ⟨k, hk, rfl, hown, hov, hch⟩ := hrel
    have HV := hid hov
    have HCH := hid hch
    by_cases hkn : k < 32
    · have hkn' : (k : Int) < 32 := by omega
      have c1 := rowB_cell (hch.obj HA.out (by show ¬ w.heap.size + 1 ≤ w.heap.size; omega)) k hkn
      clear hov hch
      go_wp2_with (refine wpList_append_new rfl _ _ 35 rfl elU8r hown rfl _ 1 1 rfl rfl rfl (by unfold maxLen; omega) (by omega) (by decide) ?_; intro g1 cap1 w2 hown1 hchg hg1)
      go_roundw
      case rel =>
        refine ⟨k + 1, by omega, by go_num, ?_, ?_, HCH.out.trans hchg (fun i hi h => HV.out i h)⟩
        · rw [List.range_succ, List.map_append, List.map_append]
          exact hown1
        · intro b hb
          simp [Value.ownBlock] at hb
          subst hb
          rcases hg1 with h | h
          · exact HV.out _ h
          · exact Nat.le_trans (by have := HCH.out.size; omega) h
      case measure => simp [intOf]; omega
    · obtain rfl : k = 32 := by omega
      obtain ⟨g8, cap8, rfl, hcap8, hg8⟩ := owns_some hown (by decide)
      have hlen : ((List.range 32).map f).length = 32 := by simp
      have hconv := run_convert_bytes_back (P := Tryd.prog) wr 35 9 5 ⟨g8, 0, none⟩ cap8 ((List.range 32).map f) Tryd.underlying35 Tryd.underlying5 Tryd.underlying9 (fun j hj => by
        have hadd : (⟨g8, 0, none⟩ : Addr).add j = ⟨g8, j, none⟩ := by unfold Addr.add; split <;> simp_all
        have := hown.cellAt j (by rw [hlen] at hj; omega)
        rw [hadd, this]
        rw [hlen] at hj
        simp [bv8, hj])
      rw [hlen] at hconv
      clear hlen hown hov hch
      go_wp2_with fail
      go_ret
      exact ⟨rfl, (hc1.trans HCH.out (fun i hi h => by have : w.heap.size + 1 ≤ i := h; omega))⟩

set_option maxRecDepth 100000 in
set_option maxHeartbeats 2000000 in
theorem rBytes_any (f : Nat → UInt8) (w : World) : Calls Tryd.prog 37 #[.agg (rowB 32 f)] w (Rets (.string (bytesS f)) (Chg (fun _ => False) w)) := by
  go_enter Tryd.func37, Tryd.ntmps37
  go_wp2_with (first | (refine wpList_box1 rfl 37 _ rfl (rowB 32 f) rfl ?_; intro w1 ha1 hs1 hc1) | (refine wpList_load0 rfl 37 _ rfl w.heap.size (rowB 32 f) (.array 32 5) rfl ha1 Tryd.underlying37 rfl (by rw [rowB_size]; kernel_rfl) ?_) | (go_at_call 47; refine (rbytes_any f _).mono ?_; rintro e w2 ⟨rfl, hc2⟩))
  go_ret
  exact ⟨rfl, hc1.trans hc2 (fun _ _ h => h)⟩
end Go.Proofs.YtegappcdmaodjaaDoor
