/- recipe.word walked. -/
import Derived.Test.YtafdcmhckpdnbaaDoorReE
import Derived.Lib.SlBytesRow
import Derived.StillTailTactics
import Derived.Deep.RegionHeld3
namespace Go.Proofs.YtafdcmhckpdnbaaDoor
open Go.RowKit

theorem elU8 : ElT Tryd.prog 76 5 1 1 := .mk' (z := .int .u8 0) Tryd.underlying76 (by kernel_rfl) rfl (by decide) rfl
theorem elStr : ElT Tryd.prog 22 9 1 16 := .mk' (z := .string ByteArray.empty) Tryd.underlying22 (by kernel_rfl) rfl (by decide) rfl
def encB (b : UInt8) : Value := .int .u8 (b.toNat : Int)
def hex2 (c : List UInt8) : List UInt8 := c.flatMap fun b => [hexd (b.toNat / 16), hexd (b.toNat % 16)]
theorem hex2_len (c : List UInt8) : (hex2 c).length = 2 * c.length := flat_len c
theorem hex2_take (c : List UInt8) (k : Nat) (h : k < c.length) : hex2 (c.take (k + 1)) = hex2 (c.take k) ++ [hexd (c[k].toNat / 16), hexd (c[k].toNat % 16)] := by
  unfold hex2
  rw [List.take_succ_eq_append_getElem h, List.flatMap_append]
  rfl
/-- A row of bytes of the call's own as a text. -/
theorem conv_own (w : World) (v : Value) (l : List UInt8) (h : w.ownsRow 0 5 1 v l.length (l.map encB)) (W : World) (hW : Chg (fun k => v.ownBlock ≠ some k) w W) :
    (convert 76 9 v).run Tryd.prog W = .ok (.string (bs l)) W := by
  rcases h.2 with ⟨rfl, hl⟩ | ⟨g, cap, cur, rfl, _, hg, hcc, hcm, hsz, htk⟩
  · have : l = [] := List.length_eq_zero_iff.1 hl
    subst this
    simp [convert, run_underlying Tryd.underlying76, run_underlying Tryd.underlying9, run_underlying Tryd.underlying5]
    rfl
  · have hB : Lib.Bytes W g 0 (bs l) := by
      intro i hi
      have hi' : i < l.length := by rw [bs_size] at hi; exact hi
      have hc : w.cell? ⟨g, 0 + i, none⟩ = some (encB l[i]) := by
        have := h.cellAt i (by simpa using hi')
        simpa [List.getElem?_eq_getElem hi'] using this
      exact hW.cell hc (fun h => h rfl)
    have := Lib.run_convert_whole (P := Tryd.prog) W 76 5 9 Tryd.underlying76 Tryd.underlying5 Tryd.underlying9 g 0 (bs l) hB cap
    rwa [bs_size] at this

theorem and15 (b : UInt8) : bits .and .u8 (b.toNat : Int) 15 = (b.toNat : Int) % 16 := by
  have key : ∀ n : Fin 256, bits .and .u8 (n.1 : Int) 15 = (n.1 : Int) % 16 := by decide +kernel
  exact key ⟨b.toNat, b.toNat_lt⟩
theorem dig_at (i : Int) (h0 : 0 ≤ i) (h1 : i < 16) (hb : i.toNat < 16) : ({ data := #[48, 49, 50, 51, 52, 53, 54, 55, 56, 57, 97, 98, 99, 100, 101, 102] } : ByteArray)[i.toNat]'hb = hexd i.toNat := by
  obtain ⟨n, rfl⟩ : ∃ n : Nat, i = n := ⟨i.toNat, by omega⟩
  have key : ∀ k : Fin 16, ({ data := #[48, 49, 50, 51, 52, 53, 54, 55, 56, 57, 97, 98, 99, 100, 101, 102] } : ByteArray)[k.1]'k.2 = hexd k.1 := by decide +kernel
  exact key ⟨n, by omega⟩
def digitsS : ByteArray := { data := #[48, 49, 50, 51, 52, 53, 54, 55, 56, 57, 97, 98, 99, 100, 101, 102] }

set_option maxRecDepth 100000 in
set_option maxHeartbeats 1000000 in
theorem word_any (c : List UInt8) (hc : c.length ≤ 64) (w : World) : Calls Tryd.prog 55 #[.string (bs c)] w (Rets (.string (bs (wordL c))) (Chg (fun _ => False) w)) := by
  have hsz := bs_size c
  by_cases h0 : c = []
  · subst h0
    have e0 : (bs []).toList.isEmpty = true := by rw [ba_isEmpty]; rfl
    go_enter Tryd.func55, Tryd.ntmps55
    go_wp2
    go_ret
    exact ⟨rfl, Chg.refl _ _⟩
  · have hp : 0 < c.length := List.length_pos_iff.2 h0
    have e0 : (bs c).toList.isEmpty = false := by rw [ba_isEmpty, hsz]; simp; omega
    obtain ⟨w1, cap, hconv, hcell, hfz, hch, hsz1, hcap⟩ := conv_bytes (P := Tryd.prog) 9 76 5 Tryd.underlying9 Tryd.underlying76 Tryd.underlying5 w (bs c)
    have hwl : wordL c = hex2 c := by unfold wordL; rw [if_neg h0]; rfl
    rw [hwl]
    rw [hsz] at hconv hcap
    have hcell' : ∀ W, Chg (fun k => w1.heap.size ≤ k) w1 W → ∀ j (h : j < c.length), W.cell? ⟨w.heap.size, j, none⟩ = some (encB c[j]) := by
      intro W hW j hj
      have := hcell j (by omega)
      refine hW.cell (this.trans ?_) (by show ¬ w1.heap.size ≤ w.heap.size; omega)
      rfl
    have HC := hid hcell'
    have H1 := hid hch
    have HS := hid hsz1
    clear hcell hcell' hfz hch hsz1 hwl h0 hsz
    generalize bs c = sc at *
    go_enter Tryd.func55, Tryd.ntmps55
    go_wp2_with fail
    go_loopw [3, 11] (fun ov iv wr => ∃ k : Nat, k ≤ c.length ∧ iv = .int .i64 k ∧ wr.ownsRow 0 5 1 ov (2 * k) ((hex2 (c.take k)).map encB) ∧ (∀ b, ov.ownBlock = some b → w1.heap.size ≤ b) ∧ Chg (fun k => w1.heap.size ≤ k) w1 wr) (fun _ iv _ => c.length - (intOf iv).toNat)
    case atStart => exact ⟨0, Nat.zero_le _, rfl, by simpa [hex2] using World.ownsRow_nil _ _ _ _, by simp [Value.ownBlock], Chg.refl _ _⟩
    case round =>
      obtain ⟨k, hk, rfl, hown, hov, hw⟩ := hrel
      have HW := hid hw
      have HV := hid hov
      clear hw hov
      by_cases hkn : k < c.length
      · have hkn' : (k : Int) < c.length := by omega
        have hck := HC.out wr HW.out k hkn
        unfold encB at hck
        obtain ⟨x, hx⟩ : ∃ x, x = c[k] := ⟨_, rfl⟩
        rw [← hx] at hck
        have hx8 := x.toNat_lt
        have ha := and15 x
        have q1 : (0 : Int) ≤ (x.toNat : Int) / 16 := by omega
        have q2 : (x.toNat : Int) / 16 < 16 := by omega
        have q3 : (0 : Int) ≤ (x.toNat : Int) % 16 := by omega
        have q4 : (x.toNat : Int) % 16 < 16 := by omega
        have HX := hid hx
        clear hx
        go_wp2_with fail
        go_region_law (refine step_append_new rfl _ _ 76 rfl elU8 hown rfl _ 2 2 rfl rfl rfl (by unfold maxLen; omega) (by omega) (by decide) ?_; intro g1 cap1 w2 hown1 hchg hg1)
        all_goals go_wp2_with fail
        all_goals go_roundw
        all_goals first
          | (simp [intOf]; omega)
          | (refine ⟨k + 1, by omega, by go_num, ?_, ?_, HW.out.trans hchg ?_⟩
             · have e1 : (2 * (k + 1)) = 2 * k + 2 := by omega
               rw [e1, hex2_take c k hkn, List.map_append, ← HX.out]
               rw [dig_at _ q1 q2, dig_at _ q3 q4] at hown1
               exact hown1
             · intro b hb
               simp [Value.ownBlock] at hb
               subst hb
               rcases hg1 with h | h
               · exact HV.out _ h
               · exact Nat.le_trans HW.out.size h
             · intro i hi h
               exact HV.out _ h)
      · obtain rfl : k = c.length := by omega
        have hcv := conv_own wr u3 (hex2 c) (by rw [hex2_len]; simpa using hown) wr (Chg.refl _ _)
        go_wp2_with fail
        go_ret
        exact ⟨rfl, H1.out.trans HW.out (fun i hi h => by have := HS.out; omega)⟩
end Go.Proofs.YtafdcmhckpdnbaaDoor
