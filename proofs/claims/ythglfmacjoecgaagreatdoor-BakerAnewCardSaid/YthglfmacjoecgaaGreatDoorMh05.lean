/- Texts of the proof, one behind the other: recipe.word walked; strings.Builder's copyCheck and WriteString walked at this program (the loader refuses copyCheck's panic; no run comes there); recipe.line. -/
import Derived.Test.YthglfmacjoecgaaGreatDoorMh04
import Derived.Lib.SlBytesRow
import Derived.StillTailTactics
import Derived.Deep.RegionHeld3
import Derived.Deep.QuietTactic
import Derived.BigQuiet
namespace Go.Proofs.YthglfmacjoecgaaGreatDoor
open Go.RowKit

theorem elU8 : ElT Tryz.prog 125 5 1 1 := .mk' (z := .int .u8 0) Tryz.underlying125 (by kernel_rfl) rfl (by decide) rfl
theorem elStr : ElT Tryz.prog 22 9 1 16 := .mk' (z := .string ByteArray.empty) Tryz.underlying22 (by kernel_rfl) rfl (by decide) rfl
def encB (b : UInt8) : Value := .int .u8 (b.toNat : Int)
def hex2 (c : List UInt8) : List UInt8 := c.flatMap fun b => [hexd (b.toNat / 16), hexd (b.toNat % 16)]
theorem hex2_len (c : List UInt8) : (hex2 c).length = 2 * c.length := flat_len c
theorem hex2_take (c : List UInt8) (k : Nat) (h : k < c.length) : hex2 (c.take (k + 1)) = hex2 (c.take k) ++ [hexd (c[k].toNat / 16), hexd (c[k].toNat % 16)] := by
  unfold hex2
  rw [List.take_succ_eq_append_getElem h, List.flatMap_append]
  rfl
/-- A row of bytes of the call's own as a text. -/
theorem conv_own (w : World) (v : Value) (l : List UInt8) (h : w.ownsRow 0 5 1 v l.length (l.map encB)) (W : World) (hW : Chg (fun k => v.ownBlock ≠ some k) w W) :
    (convert 125 9 v).run Tryz.prog W = .ok (.string (bs l)) W := by
  rcases h.2 with ⟨rfl, hl⟩ | ⟨g, cap, cur, rfl, _, hg, hcc, hcm, hsz, htk⟩
  · have : l = [] := List.length_eq_zero_iff.1 hl
    subst this
    simp [convert, run_underlying Tryz.underlying125, run_underlying Tryz.underlying9, run_underlying Tryz.underlying5]
    rfl
  · have hB : Lib.Bytes W g 0 (bs l) := by
      intro i hi
      have hi' : i < l.length := by rw [bs_size] at hi; exact hi
      have hc : w.cell? ⟨g, 0 + i, none⟩ = some (encB l[i]) := by
        have := h.cellAt i (by simpa using hi')
        simpa [List.getElem?_eq_getElem hi'] using this
      exact hW.cell hc (fun h => h rfl)
    have := Lib.run_convert_whole (P := Tryz.prog) W 125 5 9 Tryz.underlying125 Tryz.underlying5 Tryz.underlying9 g 0 (bs l) hB cap
    rwa [bs_size] at this

theorem and15 (b : UInt8) : bits .and .u8 (b.toNat : Int) 15 = (b.toNat : Int) % 16 := by
  have key : ∀ n : Fin 256, bits .and .u8 (n.1 : Int) 15 = (n.1 : Int) % 16 := by decide +kernel
  exact key ⟨b.toNat, b.toNat_lt⟩
theorem dig_at (i : Int) (h0 : 0 ≤ i) (h1 : i < 16) (hb : i.toNat < 16) : ({ data := #[48, 49, 50, 51, 52, 53, 54, 55, 56, 57, 97, 98, 99, 100, 101, 102] } : ByteArray)[i.toNat]'hb = hexd i.toNat := by
  obtain ⟨n, rfl⟩ : ∃ n : Nat, i = n := ⟨i.toNat, by omega⟩
  have key : ∀ k : Fin 16, ({ data := #[48, 49, 50, 51, 52, 53, 54, 55, 56, 57, 97, 98, 99, 100, 101, 102] } : ByteArray)[k.1]'k.2 = hexd k.1 := by decide +kernel
  exact key ⟨n, by omega⟩
set_option maxRecDepth 100000 in
set_option maxHeartbeats 1000000 in
theorem word_any (c : List UInt8) (hc : c.length ≤ 64) (w : World) : Calls Tryz.prog 147 #[.string (bs c)] w (Rets (.string (bs (wordL c))) (Chg (fun _ => False) w)) := by
  have hsz := bs_size c
  by_cases h0 : c = []
  · subst h0
    have e0 : (bs []).toList.isEmpty = true := by rw [ba_isEmpty]; rfl
    go_enter Tryz.func147, Tryz.ntmps147
    go_wp2
    go_ret
    exact ⟨rfl, Chg.refl _ _⟩
  · have hp : 0 < c.length := List.length_pos_iff.2 h0
    have e0 : (bs c).toList.isEmpty = false := by rw [ba_isEmpty, hsz]; simp; omega
    obtain ⟨w1, cap, hconv, hcell, hfz, hch, hsz1, hcap⟩ := conv_bytes (P := Tryz.prog) 9 125 5 Tryz.underlying9 Tryz.underlying125 Tryz.underlying5 w (bs c)
    have hwl : wordL c = hex2 c := by unfold wordL; rw [if_neg h0]; rfl
    rw [hwl]
    rw [hsz] at hconv hcap
    have hcell' : ∀ W, Chg (fun k => w1.heap.size ≤ k) w1 W → ∀ j (h : j < c.length), W.cell? ⟨w.heap.size, j, none⟩ = some (encB c[j]) := by
      intro W hW j hj
      have := hcell j (by omega)
      refine hW.cell (this.trans ?_) (by show ¬ w1.heap.size ≤ w.heap.size; omega)
      rfl
    have HC := hid hcell'
    have H1 := hid hch
    have HS := hid hsz1
    clear hcell hcell' hfz hch hsz1 hwl h0 hsz
    generalize bs c = sc at *
    go_enter Tryz.func147, Tryz.ntmps147
    go_wp2_with fail
    go_loopw [3, 11] (fun ov iv wr => ∃ k : Nat, k ≤ c.length ∧ iv = .int .i64 k ∧ wr.ownsRow 0 5 1 ov (2 * k) ((hex2 (c.take k)).map encB) ∧ (∀ b, ov.ownBlock = some b → w1.heap.size ≤ b) ∧ Chg (fun k => w1.heap.size ≤ k) w1 wr) (fun _ iv _ => c.length - (intOf iv).toNat)
    case atStart => exact ⟨0, Nat.zero_le _, rfl, by simpa [hex2] using World.ownsRow_nil _ _ _ _, by simp [Value.ownBlock], Chg.refl _ _⟩
    case round =>
      obtain ⟨k, hk, rfl, hown, hov, hw⟩ := hrel
      have HW := hid hw
      have HV := hid hov
      clear hw hov
      by_cases hkn : k < c.length
      · have hkn' : (k : Int) < c.length := by omega
        have hck := HC.out wr HW.out k hkn
        unfold encB at hck
        obtain ⟨x, hx⟩ : ∃ x, x = c[k] := ⟨_, rfl⟩
        rw [← hx] at hck
        have hx8 := x.toNat_lt
        have ha := and15 x
        have q1 : (0 : Int) ≤ (x.toNat : Int) / 16 := by omega
        have q2 : (x.toNat : Int) / 16 < 16 := by omega
        have q3 : (0 : Int) ≤ (x.toNat : Int) % 16 := by omega
        have q4 : (x.toNat : Int) % 16 < 16 := by omega
        have HX := hid hx
        clear hx
        go_wp2_with fail
        go_region_law (refine step_append_new rfl _ _ 125 rfl elU8 hown rfl _ 2 2 rfl rfl rfl (by unfold maxLen; omega) (by omega) (by decide) ?_; intro g1 cap1 w2 hown1 hchg hg1)
        all_goals go_wp2_with fail
        all_goals go_roundw
        all_goals first
          | (simp [intOf]; omega)
          | (refine ⟨k + 1, by omega, by go_num, ?_, ?_, HW.out.trans hchg ?_⟩
             · have e1 : (2 * (k + 1)) = 2 * k + 2 := by omega
               rw [e1, hex2_take c k hkn, List.map_append, ← HX.out]
               rw [dig_at _ q1 q2, dig_at _ q3 q4] at hown1
               exact hown1
             · intro b hb
               simp [Value.ownBlock] at hb
               subst hb
               rcases hg1 with h | h
               · exact HV.out _ h
               · exact Nat.le_trans HW.out.size h
             · intro i hi h
               exact HV.out _ h)
      · obtain rfl : k = c.length := by omega
        have hcv := conv_own wr u3 (hex2 c) (by rw [hex2_len]; simpa using hown) wr (Chg.refl _ _)
        go_wp2_with fail
        go_ret
        exact ⟨rfl, H1.out.trans HW.out (fun i hi h => by have := HS.out; omega)⟩
end Go.Proofs.YthglfmacjoecgaaGreatDoor
namespace Go.Proofs.YthglfmacjoecgaaGreatDoor
open Go.RowKit

set_option maxRecDepth 100000 in
theorem check_used (b : Nat) (w : World) (h0 : w.cell? ⟨b, 0, none⟩ = some (.pointer (some ⟨b, 0, none⟩))) :
    Calls Tryz.prog 125 #[.pointer (some ⟨b, 0, none⟩)] w (Rets (.tuple #[]) (fun w' => w' = w)) := by
  obtain ⟨j, hj, _⟩ := Option.map_eq_some_iff.1 Tryz.Builder_Extra_169.sizeBuilder
  go_enter Tryz.func125, Tryz.ntmps125
  go_wp2
  rw [Lib.run_neq_ptr_same w _ Tryz.underlying168 hj]
  go_wp2
  go_end0
  exact ⟨rfl, rfl⟩
set_option maxRecDepth 100000 in
theorem check_fresh (b : Nat) (w : World) (h0 : w.cell? ⟨b, 0, none⟩ = some (.pointer none)) (hsh : w.shape? b = some (170, 2)) (hfz : w.frozen? ⟨b, 0, none⟩ = false) :
    Calls Tryz.prog 125 #[.pointer (some ⟨b, 0, none⟩)] w (Rets (.tuple #[]) (fun w' => w' = w.setCell ⟨b, 0, none⟩ (.pointer (some ⟨b, 0, none⟩)))) := by
  obtain ⟨j, hj, hjs⟩ := Option.map_eq_some_iff.1 Tryz.Builder_Extra_169.sizeBuilder
  go_enter Tryz.func125, Tryz.ntmps125
  go_wp2
  rw [Lib.run_to_unsafe w ⟨b, 0, none⟩ Tryz.underlying168 Tryz.underlying212 hj (by rw [hjs]; decide) hsh (Nat.zero_lt_succ 1)]
  simp only [Result.andThen]
  rw [Oper.upon_value]
  go_wp2
  rw [run_callFunc_extern Tryz.func143 (by kernel_rfl) (by kernel_rfl) (by kernel_rfl) (e := Extern.AbiNoEscape.same) (by kernel_rfl)]
  rw [Lib.run_noEscape]
  simp only [Result.andThen]
  rw [Oper.upon_value]
  go_wp2
  rw [Lib.run_from_unsafe w ⟨b, 0, none⟩ Tryz.underlying212 Tryz.underlying168 hj hsh Tryz.Builder_Extra_169.liesBuilder]
  simp only [Result.andThen]
  rw [Oper.upon_value]
  go_wp2
  go_end0
  exact ⟨rfl, rfl⟩
theorem check_any (B b : Nat) (l : List Value) (w : World) (h : Lib.IsBuilder 170 5 B b l w) :
    Calls Tryz.prog 125 #[.pointer (some ⟨b, 0, none⟩)] w (Rets (.tuple #[]) (fun w' => Lib.BuilderAt 170 5 B b (.pointer (some ⟨b, 0, none⟩)) l w' ∧ Below B w w')) := by
  rcases h with h | h
  · refine (check_fresh b w h.cell0 h.shape h.frozen0).mono ?_
    rintro e w' ⟨rfl, rfl⟩
    exact ⟨rfl, h.used _, (Below.refl B w).setCell (p := ⟨b, 0, none⟩) h.1 _⟩
  · refine (check_used b w h.cell0).mono ?_
    rintro e w' ⟨rfl, rfl⟩
    exact ⟨rfl, h, Below.refl B _⟩

set_option maxRecDepth 100000 in
set_option maxHeartbeats 1000000 in
theorem write_any (B b : Nat) (l : List Value) (s : ByteArray) (w : World) (h : Lib.IsBuilder 170 5 B b l w) (hlen : l.length + s.size ≤ 140737488355328) (hBw : B ≤ w.heap.size) :
    Calls Tryz.prog 101 #[.pointer (some ⟨b, 0, none⟩), .string s] w (Rets (.tuple #[.int .i64 s.size, .nilIface]) (fun w' => Lib.BuilderAt 170 5 B b (.pointer (some ⟨b, 0, none⟩)) (l ++ Lib.strCells s) w' ∧ Below B w w')) := by
  obtain ⟨i0, hi, hz0, hz1, hz2⟩ := info_parts Tryz.Builder_Extra_169.infoByte
  have hck := check_any B b l w h
  go_enter Tryz.func101, Tryz.ntmps101
  go_wp2_with (go_at_call 125; refine hck.mono ?_)
  rintro e w1 ⟨rfl, h1, hb1⟩
  obtain ⟨hB, v, hbk, hown, hne⟩ := h1
  have c0 : w1.cell? ⟨b, 0, none⟩ = some (.pointer (some ⟨b, 0, none⟩)) := by rw [Lib.cell_of_heap hbk]; rfl
  have c1 : w1.cell? ⟨b, 1, none⟩ = some v := by rw [Lib.cell_of_heap hbk]; rfl
  go_wp2_with (at_builtin; refine Lib.wpList_append_own_string _ rfl _ _ 125 9 rfl B 5 i0 Tryz.underlying125 Tryz.underlying9 hi hz0 hz1 hz2 _ _ _ rfl hown s rfl ?c3 ?c4 ?c5 ?_)
  case c3 => unfold maxLen; omega
  case c4 => omega
  case c5 => have := hb1.size; omega
  intro v' w2 hown' hgrow _
  have hlt : b < w1.heap.size := heap_lt hbk
  have hb2 : w2.heap[b]? = some (.cells #[.pointer (some ⟨b, 0, none⟩), v] 170 (0, 0)) := by
    rw [hgrow.block b hlt (fun e => hne e.symm)]
    exact hbk
  have d0 : w2.cell? ⟨b, 0, none⟩ = some (.pointer (some ⟨b, 0, none⟩)) := by rw [Lib.cell_of_heap hb2]; rfl
  have d1 : w2.cell? ⟨b, 1, none⟩ = some v := by rw [Lib.cell_of_heap hb2]; rfl
  have f1 : w2.frozen? ⟨b, 1, none⟩ = false := Lib.frozen_of_heap hb2 1
  obtain ⟨ao, n', cap, rfl⟩ : ∃ ao n' cap, v' = .slice ao n' cap := by
    rcases hown'.2 with ⟨hv, _⟩ | ⟨g, cap, cur, hv, _⟩
    · exact ⟨_, _, _, hv⟩
    · exact ⟨_, _, _, hv⟩
  go_wp2
  go_ret2
  refine ⟨rfl, ?_, ?_⟩
  · exact Lib.BuilderAt.put (T := 170) (e := 5) hB hb2 (bs' := l ++ Lib.strCells s) (by simpa [Lib.strCells_length] using hown') (by decide)
  · exact (hb1.grown hgrow (by have := hb1.size; omega) (fun k hk => (hown.lt k hk).1)).setCell (p := ⟨b, 1, none⟩) hB _

set_option maxRecDepth 100000 in
theorem line_any (ws : List (List UInt8)) (bk o c : Nat) (w : World) (hc : ∀ i (h : i < ws.length), w.cell? ⟨bk, o + i, none⟩ = some (.string (bs ws[i]))) (hb : bk < w.heap.size) (hl : ws.length ≤ 1000) (hcap : ws.length ≤ c) (hj : (joinC 32 ws).length ≤ 100000) :
    Calls Tryz.prog 146 #[.slice (some ⟨bk, o, none⟩) ws.length c] w (Rets (.string (bs (joinC 32 ws ++ [10]))) (Chg (fun _ => False) w)) := by
  have hm : (ws.map bs).map (·.data.toList) = ws := by
    rw [List.map_map]
    calc ws.map ((·.data.toList) ∘ bs) = ws.map id := List.map_congr_left (fun s _ => bs_data s)
      _ = ws := List.map_id ws
  have h := Tryz.strings_Join bk o c (ws.map bs) { data := #[32] } w (fun j x hx => by
    rw [List.getElem?_map] at hx
    obtain ⟨y, hy, rfl⟩ := Option.map_eq_some_iff.1 hx
    obtain ⟨hlt, rfl⟩ := List.getElem?_eq_some_iff.1 hy
    exact hc j hlt) hb (by simp; omega) (by simpa using hcap) (by rw [hm]; show (Lib.join ws [32]).length ≤ _; rw [join_eq]; omega)
  rw [hm, List.length_map] at h
  have e1 : Lib.join ws ({ data := #[32] } : ByteArray).data.toList = joinC 32 ws := join_eq 32 ws
  rw [e1] at h
  have hsz : (⟨(joinC 32 ws).toArray⟩ : ByteArray).size = (joinC 32 ws).length := bs_size _
  have e2 : bs (joinC 32 ws ++ [10]) = (⟨(joinC 32 ws).toArray⟩ : ByteArray) ++ { data := #[10] } := bs_append _ [10]
  rw [e2]
  have HL := hid hj
  have hsm : ¬ 9223372036854775807 < (⟨(joinC 32 ws).toArray⟩ : ByteArray).size + 1 := by omega
  clear e1 e2 hm hc hj hsz
  generalize (⟨(joinC 32 ws).toArray⟩ : ByteArray) = r at *
  go_enter Tryz.func146, Tryz.ntmps146
  go_wp2_with (go_at_call 168; refine h.mono ?_; rintro e w' ⟨rfl, hb1⟩)
  go_ret
  exact ⟨rfl, (Chg.of_below hb1).mono (fun i hi h => by omega)⟩
end Go.Proofs.YthglfmacjoecgaaGreatDoor
