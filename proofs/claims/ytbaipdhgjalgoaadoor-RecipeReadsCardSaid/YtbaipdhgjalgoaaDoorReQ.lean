/- apiarylaw07.awake walked. -/
import Derived.Test.YtbaipdhgjalgoaaDoorReP
namespace Go.Proofs.YtbaipdhgjalgoaaDoor
open Go.RowKit

def awT : List UInt8 := [115, 111, 117, 114, 99, 101, 32, 97, 10, 109, 97, 107, 101, 32, 120, 32, 102, 114, 111, 109, 32, 97, 32, 97, 32, 98, 121, 32, 54, 57, 48, 48, 54, 51, 10, 109, 97, 107, 101, 32, 121, 32, 98, 121, 32, 45, 10]
def awU : List UInt8 := [115, 111, 117, 114, 99, 101, 32, 97, 10, 109, 97, 100, 101, 32, 120, 32, 98, 121, 32, 45, 10]
def awG : GrR := ⟨[[97]], [⟨[120], [[97], [97]], [105, 0, 99]⟩, ⟨[121], [], []⟩]⟩
theorem aw1 : parseR awT = (awG, 0, 0) := by kernel_rfl
theorem aw2 : printR awG = some awT := by kernel_rfl
theorem aw3 : parseR awU = (noGr, 2, 24) := by kernel_rfl
theorem aw4 : grOK awG = true := by kernel_rfl
theorem aw5 : nameL [97, 49] = true := by kernel_rfl
theorem aw6 : nameL [65] = false := by kernel_rfl

set_option maxRecDepth 100000 in
set_option maxHeartbeats 4000000 in
theorem awake_any (w : World) (hm : MaxOK w) : Calls Tryd.prog 9 #[] w (Rets (.bool true) (Chg (fun _ => False) w)) := by
  have hp1 := parse_any awT (by decide) w hm
  unfold ParsePost at hp1
  rw [aw1] at hp1
  have hp2 : ∀ W, MaxOK W → Calls Tryd.prog 10 #[.string { data := #[115, 111, 117, 114, 99, 101, 32, 97, 10, 109, 97, 100, 101, 32, 120, 32, 98, 121, 32, 45, 10] }] W (ParsePost awU W) := fun W hW => parse_any awU (by decide) W hW
  unfold ParsePost at hp2
  rw [aw3] at hp2
  have hpr : ∀ v W, GrAt W v awG → Calls Tryd.prog 14 #[v] W (Rets (.tuple #[.string (bs awT), .int .i64 0]) (Chg (fun _ => False) W)) := fun v W hg => by
    have := print_any awG v W hg
    rw [aw2, aw4] at this
    exact this
  have n1 : nameL ({ data := #[97, 49] } : ByteArray).data.toList = true := aw5
  have n2 : nameL ({ data := #[65] } : ByteArray).data.toList = false := aw6
  have N1 := hid n1
  have N2 := hid n2
  clear n1 n2
  have hp1' : Calls Tryd.prog 10 #[.string { data := #[115, 111, 117, 114, 99, 101, 32, 97, 10, 109, 97, 107, 101, 32, 120, 32, 102, 114, 111, 109, 32, 97, 32, 97, 32, 98, 121, 32, 54, 57, 48, 48, 54, 51, 10, 109, 97, 107, 101, 32, 121, 32, 98, 121, 32, 45, 10] }] w (fun e w' => Chg (fun _ => False) w w' ∧ ∃ v, e = .returned (.tuple #[v, .int .i64 0, .int .i64 0]) ∧ GrAt w' v awG) := hp1
  have hpr' : ∀ v W, GrAt W v awG → Calls Tryd.prog 14 #[v] W (Rets (.tuple #[.string { data := #[115, 111, 117, 114, 99, 101, 32, 97, 10, 109, 97, 107, 101, 32, 120, 32, 102, 114, 111, 109, 32, 97, 32, 97, 32, 98, 121, 32, 54, 57, 48, 48, 54, 51, 10, 109, 97, 107, 101, 32, 121, 32, 98, 121, 32, 45, 10] }, .int .i64 0]) (Chg (fun _ => False) W)) := hpr
  clear hp1 hpr
  have HM := hid hm
  have HP2 := hid hp2
  have HPR := hid hpr'
  clear hm hp2 hpr'
  go_enter Tryd.func9, Tryd.ntmps9
  go_wp2_with (go_at_call 10
               refine hp1'.mono ?_
               rintro e w1 ⟨hc1, v1, rfl, hg1⟩
               have hform : ∃ oa c ob d iv, v1 = .agg #[.slice oa 1 c, .slice ob 2 d] ∧ NamesAt w1 (.slice oa 1 c) awG.srcs ∧ ActsAt w1 (.slice ob 2 d) awG.acts iv := hg1.form
               obtain ⟨oa, c, ob, d, iv, rfl, hs, ha⟩ := hform
               have hg2 : GrAt (w1.alloc (.cells #[.slice oa 1 c, .slice ob 2 d] 26)) (.agg #[.slice oa 1 c, .slice ob 2 d]) awG := hg1.chg ((Chg.refl _ w1).alloc _) (fun _ _ h => h)
               have hc2 : Chg (fun _ => False) w (w1.alloc (.cells #[.slice oa 1 c, .slice ob 2 d] 26)) := hc1.alloc _
               have ha2 : ActsAt (w1.alloc (.cells #[.slice oa 1 c, .slice ob 2 d] 26)) (.slice ob 2 d) awG.acts iv := ha.chg ((Chg.refl _ w1).alloc _) (fun _ _ h => h)
               have k2 := heap_alloc_new' w1 (.cells #[.slice oa 1 c, .slice ob 2 d] 26)
               have HG2 := hid hg2
               have HC2 := hid hc2
               have HA2 := hid ha2
               have HK2 := hid k2
               clear hg1 hg2 hc1 hc2 hs ha ha2 k2 hp1')
  generalize w1.alloc (.cells #[.slice oa 1 c, .slice ob 2 d] 26) = W2 at *
  generalize w1.heap.size = b2 at *
  go_wp2_with (go_at_call 14
               refine (HPR.out _ _ HG2.out).mono ?_
               rintro e w3 ⟨rfl, hc3⟩
               have HC3 := hid hc3
               clear hc3)
  have hm3 := HM.out.chg (HC2.out.trans HC3.out (fun _ _ h => h)) (fun _ _ h => h)
  have hp4 := HP2.out w3 hm3
  clear hm3
  go_wp2_with (go_at_call 10
               refine hp4.mono ?_
               rintro e w4 ⟨hc4, v4, rfl, hg4⟩
               have hform : ∃ oa c ob d iv, v4 = .agg #[.slice oa 0 c, .slice ob 0 d] ∧ NamesAt w4 (.slice oa 0 c) noGr.srcs ∧ ActsAt w4 (.slice ob 0 d) noGr.acts iv := hg4.form
               obtain ⟨oa4, c4, ob4, d4, iv4, rfl, hs4, ha4⟩ := hform
               have hc5 : Chg (fun _ => False) W2 (w4.alloc (.cells #[.slice oa4 0 c4, .slice ob4 0 d4] 26)) := (HC3.out.trans hc4 (fun _ _ h => h)).alloc _
               have k5 := cell_of (hc5.obj HK2.out (fun h => h)) 1
               obtain ⟨bb, oo, hix, hlt, p0, p1, p2, hns, _, _⟩ := (HA2.out.chg hc5 (fun _ _ h => h)).at 0 (by decide)
               obtain ⟨oi, ci, hiv⟩ := hns.form
               rw [hiv] at p1
               have hix0 : ∀ w, (Instr.indexAt 24 (.slice ob 2 d) (.int .i64 0)).run Tryd.prog w = .ok (.pointer (some ⟨bb, oo, none⟩)) w := hix
               have p1' : (w4.alloc (.cells #[.slice oa4 0 c4, .slice ob4 0 d4] 26)).cell? ⟨bb, oo + 1, none⟩ = some (.slice oi 2 ci) := p1
               have p2' : (w4.alloc (.cells #[.slice oa4 0 c4, .slice ob4 0 d4] 26)).cell? ⟨bb, oo + 2, none⟩ = some (.string { data := #[105, 0, 99] }) := p2
               simp at k5
               have HC5 := hid hc5
               clear hg4 hs4 ha4 hc4 hc5 hix p0 p1 p2 hns hiv hp4)
  go_wp2_with (go_at_call 15
               refine (isName_any _ (by decide) _).mono ?_
               rintro e w7 ⟨he, hc7⟩
               first
                 | rw [N1.out] at he
                 | rw [N2.out] at he
               subst he
               have hacc := HC5.out.trans hc7 (fun _ _ h => h)
               clear HC5 hc7
               have HC5 := hid hacc
               clear hacc)
  go_ret
  exact ⟨rfl, HC2.out.trans HC5.out (fun _ _ h => h)⟩
end Go.Proofs.YtbaipdhgjalgoaaDoor
