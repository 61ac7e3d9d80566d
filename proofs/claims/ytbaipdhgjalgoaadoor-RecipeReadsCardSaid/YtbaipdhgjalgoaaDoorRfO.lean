/- The law RecipeReads holds: for every text it returns true, and changes no memory that was there. -/
import Derived.Test.YtbaipdhgjalgoaaDoorRfN
import Derived.Test.YtbaipdhgjalgoaaDoorRfB
import Derived.Test.YtbaipdhgjalgoaaDoorReQ
namespace Go.Proofs.YtbaipdhgjalgoaaDoor
open Go.RowKit

theorem parseT_any (s : ByteArray) (hs : s.size ≤ maxLen) (w : World) (hm : MaxOK w) : Calls Tryd.prog 10 #[.string s] w (ParsePost s.data.toList w) := by
  have := parse_any s.data.toList (by rw [← Lib.size_eq]; exact hs) w hm
  rwa [bs_list] at this
theorem rparseS_any (s : ByteArray) (hs : s.size ≤ maxLen) (w : World) : Calls Tryd.prog 11 #[.string s] w (ParsePost s.data.toList w) := by
  have := rparse_any s.data.toList (by rw [← Lib.size_eq]; exact hs) w
  rwa [bs_list] at this

set_option maxRecDepth 100000 in
set_option maxHeartbeats 4000000 in
theorem reads_any (s : ByteArray) (hs : s.size ≤ maxLen) (w : World) (hm : MaxOK w) : Calls Tryd.prog 3 #[.string s] w (Rets (.bool true) (Chg (fun _ => False) w)) := by
  have haw := awake_any w hm
  have hp1 := fun W hW => parseT_any s hs W hW
  have hp2 := fun W => rparseS_any s hs W
  unfold ParsePost at hp1 hp2
  generalize (parseR s.data.toList).1 = G at *
  generalize (parseR s.data.toList).2.1 = n at *
  generalize (parseR s.data.toList).2.2 = k at *
  have HM := hid hm
  have HP1 := hid hp1
  have HP2 := hid hp2
  clear hm hp1 hp2
  go_enter Tryd.func3, Tryd.ntmps3
  go_wp2_with (first | (go_at_call 9; refine haw.mono ?_; rintro e w1 ⟨rfl, hc1⟩; have HC1 := hid hc1; clear hc1) | (go_at_call 10; refine (HP1.out _ (HM.out.chg HC1.out (fun _ _ h => h))).mono ?_; rintro e w2 ⟨hc2, v, rfl, hg⟩; obtain ⟨oa, c, ob, d, iv, rfl, _, _⟩ := hg.form; have HC2 := hid hc2; have HG := hid hg; clear hc2 hg) | (go_at_call 11; refine (HP2.out _).mono ?_; rintro e w3 ⟨hc3, v, rfl, hg⟩; obtain ⟨pa, q, pb, r, ju, rfl, _, _⟩ := hg.form; have HC3 := hid hc3; have HH := hid hg; have k2 := heap_alloc_old' (hc3.obj (heap_alloc_new' w2 (.cells #[.slice oa G.srcs.length c, .slice ob G.acts.length d] 26)) (fun h => h)) (.cells #[.slice pa G.srcs.length q, .slice pb G.acts.length r] 26); have k3 := heap_alloc_new' w3 (.cells #[.slice pa G.srcs.length q, .slice pb G.acts.length r] 26); have u0 := (cell_of k2 0).trans rfl; have u1 := (cell_of k2 1).trans rfl; have u2 := (cell_of k3 0).trans rfl; have u3 := (cell_of k3 1).trans rfl; simp at u0 u1 u2 u3; clear hc3 hg k2 k3) | (go_at_call 12; refine (rsame_any G G _ _ _ (HG.out.chg ((((Chg.refl (fun _ => False) w2).alloc _).trans HC3.out (fun _ _ h => h)).alloc _) (fun _ _ h => h)) (HH.out.chg ((Chg.refl (fun _ => False) w3).alloc _) (fun _ _ h => h))).mono ?_; rintro e w4 ⟨B, rfl, hB, hc4⟩; obtain rfl : B = true := hB.2 rfl; have HC4 := hid hc4; clear hc4 hB))
  go_ret
  exact ⟨rfl, ((((HC1.out.trans HC2.out (fun _ _ h => h)).alloc _).trans HC3.out (fun _ _ h => h)).alloc _).trans HC4.out (fun _ _ h => h)⟩
end Go.Proofs.YtbaipdhgjalgoaaDoor
