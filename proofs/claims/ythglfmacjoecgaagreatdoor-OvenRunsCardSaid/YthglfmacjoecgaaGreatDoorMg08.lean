/- Texts of the proof, one behind the other: strings.Builder's copyCheck and WriteString walked at this program (the loader refuses copyCheck's panic; no run comes there); recipe.line. -/
import Derived.Test.YthglfmacjoecgaaGreatDoorMg07
import Derived.Deep.QuietTactic
import Derived.BigQuiet
namespace Go.Proofs.YthglfmacjoecgaaGreatDoor
open Go.RowKit

set_option maxRecDepth 100000 in
theorem check_used (b : Nat) (w : World) (h0 : w.cell? ⟨b, 0, none⟩ = some (.pointer (some ⟨b, 0, none⟩))) :
    Calls Tryz.prog 125 #[.pointer (some ⟨b, 0, none⟩)] w (Rets (.tuple #[]) (fun w' => w' = w)) := by
  obtain ⟨j, hj, _⟩ := Option.map_eq_some_iff.1 Tryz.Builder_Extra_169.sizeBuilder
  go_enter Tryz.func125, Tryz.ntmps125
  go_wp2
  rw [Lib.run_neq_ptr_same w _ Tryz.underlying168 hj]
  go_wp2
  go_end0
  exact ⟨rfl, rfl⟩
set_option maxRecDepth 100000 in
theorem check_fresh (b : Nat) (w : World) (h0 : w.cell? ⟨b, 0, none⟩ = some (.pointer none)) (hsh : w.shape? b = some (170, 2)) (hfz : w.frozen? ⟨b, 0, none⟩ = false) :
    Calls Tryz.prog 125 #[.pointer (some ⟨b, 0, none⟩)] w (Rets (.tuple #[]) (fun w' => w' = w.setCell ⟨b, 0, none⟩ (.pointer (some ⟨b, 0, none⟩)))) := by
  obtain ⟨j, hj, hjs⟩ := Option.map_eq_some_iff.1 Tryz.Builder_Extra_169.sizeBuilder
  go_enter Tryz.func125, Tryz.ntmps125
  go_wp2
  rw [Lib.run_to_unsafe w ⟨b, 0, none⟩ Tryz.underlying168 Tryz.underlying212 hj (by rw [hjs]; decide) hsh (Nat.zero_lt_succ 1)]
  simp only [Result.andThen]
  rw [Oper.upon_value]
  go_wp2
  rw [run_callFunc_extern Tryz.func143 (by kernel_rfl) (by kernel_rfl) (by kernel_rfl) (e := Extern.AbiNoEscape.same) (by kernel_rfl)]
  rw [Lib.run_noEscape]
  simp only [Result.andThen]
  rw [Oper.upon_value]
  go_wp2
  rw [Lib.run_from_unsafe w ⟨b, 0, none⟩ Tryz.underlying212 Tryz.underlying168 hj hsh Tryz.Builder_Extra_169.liesBuilder]
  simp only [Result.andThen]
  rw [Oper.upon_value]
  go_wp2
  go_end0
  exact ⟨rfl, rfl⟩
theorem check_any (B b : Nat) (l : List Value) (w : World) (h : Lib.IsBuilder 170 5 B b l w) :
    Calls Tryz.prog 125 #[.pointer (some ⟨b, 0, none⟩)] w (Rets (.tuple #[]) (fun w' => Lib.BuilderAt 170 5 B b (.pointer (some ⟨b, 0, none⟩)) l w' ∧ Below B w w')) := by
  rcases h with h | h
  · refine (check_fresh b w h.cell0 h.shape h.frozen0).mono ?_
    rintro e w' ⟨rfl, rfl⟩
    exact ⟨rfl, h.used _, (Below.refl B w).setCell (p := ⟨b, 0, none⟩) h.1 _⟩
  · refine (check_used b w h.cell0).mono ?_
    rintro e w' ⟨rfl, rfl⟩
    exact ⟨rfl, h, Below.refl B _⟩

set_option maxRecDepth 100000 in
set_option maxHeartbeats 1000000 in
theorem write_any (B b : Nat) (l : List Value) (s : ByteArray) (w : World) (h : Lib.IsBuilder 170 5 B b l w) (hlen : l.length + s.size ≤ 140737488355328) (hBw : B ≤ w.heap.size) :
    Calls Tryz.prog 101 #[.pointer (some ⟨b, 0, none⟩), .string s] w (Rets (.tuple #[.int .i64 s.size, .nilIface]) (fun w' => Lib.BuilderAt 170 5 B b (.pointer (some ⟨b, 0, none⟩)) (l ++ Lib.strCells s) w' ∧ Below B w w')) := by
  obtain ⟨i0, hi, hz0, hz1, hz2⟩ := info_parts Tryz.Builder_Extra_169.infoByte
  have hck := check_any B b l w h
  go_enter Tryz.func101, Tryz.ntmps101
  go_wp2_with (go_at_call 125; refine hck.mono ?_)
  rintro e w1 ⟨rfl, h1, hb1⟩
  obtain ⟨hB, v, hbk, hown, hne⟩ := h1
  have c0 : w1.cell? ⟨b, 0, none⟩ = some (.pointer (some ⟨b, 0, none⟩)) := by rw [Lib.cell_of_heap hbk]; rfl
  have c1 : w1.cell? ⟨b, 1, none⟩ = some v := by rw [Lib.cell_of_heap hbk]; rfl
  go_wp2_with (at_builtin; refine Lib.wpList_append_own_string _ rfl _ _ 125 9 rfl B 5 i0 Tryz.underlying125 Tryz.underlying9 hi hz0 hz1 hz2 _ _ _ rfl hown s rfl ?c3 ?c4 ?c5 ?_)
  case c3 => unfold maxLen; omega
  case c4 => omega
  case c5 => have := hb1.size; omega
  intro v' w2 hown' hgrow _
  have hlt : b < w1.heap.size := heap_lt hbk
  have hb2 : w2.heap[b]? = some (.cells #[.pointer (some ⟨b, 0, none⟩), v] 170 (0, 0)) := by
    rw [hgrow.block b hlt (fun e => hne e.symm)]
    exact hbk
  have d0 : w2.cell? ⟨b, 0, none⟩ = some (.pointer (some ⟨b, 0, none⟩)) := by rw [Lib.cell_of_heap hb2]; rfl
  have d1 : w2.cell? ⟨b, 1, none⟩ = some v := by rw [Lib.cell_of_heap hb2]; rfl
  have f1 : w2.frozen? ⟨b, 1, none⟩ = false := Lib.frozen_of_heap hb2 1
  obtain ⟨ao, n', cap, rfl⟩ : ∃ ao n' cap, v' = .slice ao n' cap := by
    rcases hown'.2 with ⟨hv, _⟩ | ⟨g, cap, cur, hv, _⟩
    · exact ⟨_, _, _, hv⟩
    · exact ⟨_, _, _, hv⟩
  go_wp2
  go_ret2
  refine ⟨rfl, ?_, ?_⟩
  · exact Lib.BuilderAt.put (T := 170) (e := 5) hB hb2 (bs' := l ++ Lib.strCells s) (by simpa [Lib.strCells_length] using hown') (by decide)
  · exact (hb1.grown hgrow (by have := hb1.size; omega) (fun k hk => (hown.lt k hk).1)).setCell (p := ⟨b, 1, none⟩) hB _

set_option maxRecDepth 100000 in
theorem line_any (ws : List (List UInt8)) (bk o c : Nat) (w : World) (hc : ∀ i (h : i < ws.length), w.cell? ⟨bk, o + i, none⟩ = some (.string (bs ws[i]))) (hb : bk < w.heap.size) (hl : ws.length ≤ 1000) (hcap : ws.length ≤ c) (hj : (joinC 32 ws).length ≤ 100000) :
    Calls Tryz.prog 146 #[.slice (some ⟨bk, o, none⟩) ws.length c] w (Rets (.string (bs (joinC 32 ws ++ [10]))) (Chg (fun _ => False) w)) := by
  have hm : (ws.map bs).map (·.data.toList) = ws := by
    rw [List.map_map]
    calc ws.map ((·.data.toList) ∘ bs) = ws.map id := List.map_congr_left (fun s _ => bs_data s)
      _ = ws := List.map_id ws
  have h := Tryz.strings_Join bk o c (ws.map bs) { data := #[32] } w (fun j x hx => by
    rw [List.getElem?_map] at hx
    obtain ⟨y, hy, rfl⟩ := Option.map_eq_some_iff.1 hx
    obtain ⟨hlt, rfl⟩ := List.getElem?_eq_some_iff.1 hy
    exact hc j hlt) hb (by simp; omega) (by simpa using hcap) (by rw [hm]; show (Lib.join ws [32]).length ≤ _; rw [join_eq]; omega)
  rw [hm, List.length_map] at h
  have e1 : Lib.join ws ({ data := #[32] } : ByteArray).data.toList = joinC 32 ws := join_eq 32 ws
  rw [e1] at h
  have hsz : (⟨(joinC 32 ws).toArray⟩ : ByteArray).size = (joinC 32 ws).length := bs_size _
  have e2 : bs (joinC 32 ws ++ [10]) = (⟨(joinC 32 ws).toArray⟩ : ByteArray) ++ { data := #[10] } := bs_append _ [10]
  rw [e2]
  have HL := hid hj
  have hsm : ¬ 9223372036854775807 < (⟨(joinC 32 ws).toArray⟩ : ByteArray).size + 1 := by omega
  clear e1 e2 hm hc hj hsz
  generalize (⟨(joinC 32 ws).toArray⟩ : ByteArray) = r at *
  go_enter Tryz.func146, Tryz.ntmps146
  go_wp2_with (go_at_call 168; refine h.mono ?_; rintro e w' ⟨rfl, hb1⟩)
  go_ret
  exact ⟨rfl, (Chg.of_below hb1).mono (fun i hi h => by omega)⟩
end Go.Proofs.YthglfmacjoecgaaGreatDoor
