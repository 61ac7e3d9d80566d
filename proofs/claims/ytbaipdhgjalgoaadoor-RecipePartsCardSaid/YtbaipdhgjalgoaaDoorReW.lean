/- RecipeParts walked: it returns true (printed by genw.py). -/
import Derived.Test.YtbaipdhgjalgoaaDoorReV
namespace Go.Proofs.YtbaipdhgjalgoaaDoor
open Go.RowKit

def gS (g : GrR) : GrR := ⟨g.srcs, []⟩
def gA (g : GrR) : GrR := ⟨[], g.acts⟩
theorem parts_ok (g : GrR) : grOK g = (grOK (gS g) && grOK (gA g)) := by
  rw [Bool.eq_iff_iff, Bool.and_eq_true, grOK_iff, grOK_iff, grOK_iff]
  unfold gS gA
  simp
  constructor
  · rintro ⟨h1, h2, h3, h4⟩; exact ⟨⟨h1, h3⟩, h2, h4⟩
  · rintro ⟨⟨h1, h3⟩, h2, h4⟩; exact ⟨h1, h2, h3, h4⟩
theorem parts_text (g : GrR) : bs (textL g) = bs (textL (gS g)) ++ bs (textL (gA g)) := by
  rw [← bs_append]
  congr 1
  unfold textL gS gA
  simp
theorem print_no (K : GrR) (v : Value) (W : World) (hg : GrAt W v K) (h1 : grOK K = false) : Calls Tryd.prog 14 #[v] W (Rets (.tuple #[.string { data := #[] }, .int .i64 1]) (Chg (fun _ => False) W)) := by
  have hp := print_any K v W hg
  have hr : printR K = none := by unfold printR; rw [h1]; rfl
  rw [hr, h1] at hp
  exact hp
theorem print_yes (K : GrR) (v : Value) (W : World) (s : ByteArray) (hg : GrAt W v K) (h1 : grOK K = true) (hs : bs (textL K) = s) : Calls Tryd.prog 14 #[v] W (Rets (.tuple #[.string s, .int .i64 0]) (Chg (fun _ => False) W)) :=
  print_ok K v W s hg h1 (by rw [← hs, bs_data])
theorem parse_yes (K : GrR) (s : ByteArray) (h1 : grOK K = true) (hs : s = bs (textL K)) (W : World) (hW : MaxOK W) : Calls Tryd.prog 10 #[.string s] W (fun e w' => Chg (fun _ => False) W w' ∧ ∃ v, e = .returned (.tuple #[v, .int .i64 0, .int .i64 0]) ∧ GrAt w' v K) := by
  have hz : s.data.toList = textL K := by rw [hs, bs_data]
  have := parseS_any s (by rw [hs, bs_size]; have := textL_len K h1; unfold maxLen; omega) W hW
  unfold ParsePost at this
  rw [hz, parse_text K h1] at this
  exact this
theorem gr_srcs {w : World} {sv : Value} {ss : List (List UInt8)} (h : NamesAt w sv ss) : GrAt w (.agg #[sv, .slice none 0 0]) ⟨ss, []⟩ :=
  ⟨_, _, fun _ => .bool true, rfl, h, ⟨.inl ⟨rfl, rfl⟩, Nat.zero_le _, fun i _ => rfl⟩, fun i hi => absurd hi (Nat.not_lt_zero _), fun a ha => by simp at ha⟩
theorem gr_acts {w : World} {av : Value} {xs : List ActR} {iv : Nat → Value} (h : ActsAt w av xs iv) : GrAt w (.agg #[.slice none 0 0, av]) ⟨[], xs⟩ :=
  ⟨_, _, iv, rfl, ⟨.inl ⟨rfl, rfl⟩, Nat.zero_le _, by simp⟩, h⟩
theorem gr_both {w : World} {sv av : Value} {g : GrR} {iv : Nat → Value} (h1 : NamesAt w sv g.srcs) (h2 : ActsAt w av g.acts iv) : GrAt w (.agg #[sv, av]) g := ⟨_, _, iv, rfl, h1, h2⟩

set_option maxRecDepth 100000 in
set_option maxHeartbeats 8000000 in
theorem parts_any (g : GrR) (v : Value) (w : World) (hg : GrAt w v g) (hm : MaxOK w) : Calls Tryd.prog 8 #[v] w (Rets (.bool true) (Chg (fun _ => False) w)) := by
  have hgr : ∀ W, Chg (fun _ => False) w W → Calls Tryd.prog 13 #[v] W (AnyB W) := fun W hW => great_any g v W (hg.chg hW (fun _ _ h => h))
  obtain ⟨oa, c, ob, d, iv, rfl, hs, ha⟩ := hg.form
  have hG : ∀ W, Chg (fun _ => False) w W → GrAt W (.agg #[.slice oa g.srcs.length c, .slice ob g.acts.length d]) g := fun W hW => hg.chg hW (fun _ _ h => h)
  have hGS : ∀ W, Chg (fun _ => False) w W → GrAt W (.agg #[.slice oa g.srcs.length c, .slice none 0 0]) (gS g) := fun W hW => gr_srcs (hs.chg hW (fun _ _ h => h))
  have hGA : ∀ W, Chg (fun _ => False) w W → GrAt W (.agg #[.slice none 0 0, .slice ob g.acts.length d]) (gA g) := fun W hW => gr_acts (ha.chg hW (fun _ _ h => h))
  have hC0 : Chg (fun _ => False) w (w.alloc (.cells #[.slice oa g.srcs.length c, .slice ob g.acts.length d] 26)) := (Chg.refl _ w).alloc _
  have hk0 := heap_alloc_new' w (.cells #[.slice oa g.srcs.length c, .slice ob g.acts.length d] 26)
  have hblk : ∀ W, Chg (fun _ => False) (w.alloc (.cells #[.slice oa g.srcs.length c, .slice ob g.acts.length d] 26)) W → W.cell? ⟨w.heap.size, 0, none⟩ = some (.slice oa g.srcs.length c) ∧ W.cell? ⟨w.heap.size, 1, none⟩ = some (.slice ob g.acts.length d) := fun W hW =>
    ⟨(cell_of (hW.obj hk0 (fun h => h)) 0).trans rfl, (cell_of (hW.obj hk0 (fun h => h)) 1).trans rfl⟩
  have haw := awake_any _ (hm.chg hC0 (fun _ _ h => h))
  have hpo := parts_ok g
  have HGR := hid hgr
  have HG := hid hG
  have HGS := hid hGS
  have HGA := hid hGA
  have HM := hid hm
  have HBLK := hid hblk
  have HC0 := hid hC0
  have HPO := hid hpo
  have hnq : ∀ (x y : Bool) (w : World), (binOp .neq 4 (.bool x) (.bool y)).run Tryd.prog w = .ok (.bool (!(x == y))) w := fun x y w => (NeqAt.bool (P := Tryd.prog) 4 Tryd.underlying4).1 x y w
  clear hg hs ha hC0 hk0 hgr hG hGS hGA hm hblk hpo
  go_enter Tryd.func8, Tryd.ntmps8
  go_wp2_with (go_at_call 9; refine haw.mono ?_; rintro e w1 ⟨rfl, hc1⟩; obtain ⟨u0, u1⟩ := HBLK.out _ hc1; have HC := hid hc1; clear hc1 haw)
  have hg1 := HGR.out _ (HC0.out.trans HC.out (fun _ _ h => h))
  go_wp2_with (go_at_call 13; refine hg1.mono ?_; rintro e w2 ⟨B, rfl, hc2⟩; have hcn := HC.out.trans hc2 (fun _ _ h => h); clear HC hc2 u0 u1; obtain ⟨u0, u1⟩ := HBLK.out _ hcn; have HC := hid hcn; clear hcn; clear hg1; cases B)
  all_goals first
    | (go_ret; exact ⟨rfl, HC0.out.trans HC.out (fun _ _ h => h)⟩)
    | skip
  cases hok : grOK g with
  | false =>
    have hp1 := print_no g _ _ (HG.out _ (HC0.out.trans HC.out (fun _ _ h => h))) hok
    cases hos : grOK (gS g) with
    | false =>
      have HOS := hid hos
      clear hos hok
      go_wp2_with (go_at_call 14; refine hp1.mono ?_; clear hp1; rintro e w3 ⟨rfl, hc3⟩; have hcn := HC.out.trans hc3 (fun _ _ h => h); clear HC hc3 u0 u1; obtain ⟨u0, u1⟩ := HBLK.out _ hcn; have HC := hid hcn; clear hcn)
      have hp2 := print_no (gS g) _ _ (HGS.out _ (HC0.out.trans HC.out (fun _ _ h => h))) HOS.out
      go_wp2_with (go_at_call 14; refine hp2.mono ?_; clear hp2; rintro e w4 ⟨rfl, hc4⟩; have hcn := HC.out.trans hc4 (fun _ _ h => h); clear HC hc4 u0 u1; obtain ⟨u0, u1⟩ := HBLK.out _ hcn; have HC := hid hcn; clear hcn)
      obtain ⟨tS, fI, hp3all⟩ : ∃ (tS : ByteArray) (fI : Int), ∀ W, Chg (fun _ => False) w W → Calls Tryd.prog 14 #[.agg #[.slice none 0 0, .slice ob g.acts.length d]] W (Rets (.tuple #[.string tS, .int .i64 fI]) (Chg (fun _ => False) W)) := ⟨_, _, fun W hW => print_any (gA g) _ W (HGA.out W hW)⟩
      have hp3 := hp3all _ (HC0.out.trans HC.out (fun _ _ h => h))
      clear hp3all
      go_wp2_with (go_at_call 14; refine hp3.mono ?_; clear hp3; rintro e w5 ⟨rfl, hc5⟩; have hcn := HC.out.trans hc5 (fun _ _ h => h); clear HC hc5 u0 u1; obtain ⟨u0, u1⟩ := HBLK.out _ hcn; have HC := hid hcn; clear hcn)
      go_ret
      exact ⟨rfl, HC0.out.trans HC.out (fun _ _ h => h)⟩
    | true =>
      have hoa : grOK (gA g) = false := by
        have := HPO.out
        rw [hok, hos] at this
        simpa using this.symm
      have HOS := hid hos
      have HOA := hid hoa
      clear hos hok hoa
      obtain ⟨aS, haS⟩ : ∃ aS, aS = bs (textL (gS g)) := ⟨_, rfl⟩
      have HAS := hid haS
      clear haS
      go_wp2_with (go_at_call 14; refine hp1.mono ?_; clear hp1; rintro e w3 ⟨rfl, hc3⟩; have hcn := HC.out.trans hc3 (fun _ _ h => h); clear HC hc3 u0 u1; obtain ⟨u0, u1⟩ := HBLK.out _ hcn; have HC := hid hcn; clear hcn)
      have hp2 := print_yes (gS g) _ _ aS (HGS.out _ (HC0.out.trans HC.out (fun _ _ h => h))) HOS.out HAS.out.symm
      go_wp2_with (go_at_call 14; refine hp2.mono ?_; clear hp2; rintro e w4 ⟨rfl, hc4⟩; have hcn := HC.out.trans hc4 (fun _ _ h => h); clear HC hc4 u0 u1; obtain ⟨u0, u1⟩ := HBLK.out _ hcn; have HC := hid hcn; clear hcn)
      have hp3 := print_no (gA g) _ _ (HGA.out _ (HC0.out.trans HC.out (fun _ _ h => h))) HOA.out
      go_wp2_with (go_at_call 14; refine hp3.mono ?_; clear hp3; rintro e w5 ⟨rfl, hc5⟩; have hcn := HC.out.trans hc5 (fun _ _ h => h); clear HC hc5 u0 u1; obtain ⟨u0, u1⟩ := HBLK.out _ hcn; have HC := hid hcn; clear hcn)
      go_ret
      exact ⟨rfl, HC0.out.trans HC.out (fun _ _ h => h)⟩
  | true =>
    have hos : grOK (gS g) = true ∧ grOK (gA g) = true := by
      have := HPO.out
      rw [hok] at this
      simpa using this.symm
    obtain ⟨aS, haS⟩ : ∃ aS, aS = bs (textL (gS g)) := ⟨_, rfl⟩
    obtain ⟨bS, hbS⟩ : ∃ bS, bS = bs (textL (gA g)) := ⟨_, rfl⟩
    have hsum : bs (textL g) = aS ++ bS := by rw [haS, hbS]; exact parts_text g
    have hz : ¬ 9223372036854775807 < aS.size + bS.size := by
      rw [haS, hbS, bs_size, bs_size]
      have h1 := textL_len (gS g) hos.1
      have h2 := textL_len (gA g) hos.2
      omega
    have hp1 := print_yes g _ _ (aS ++ bS) (HG.out _ (HC0.out.trans HC.out (fun _ _ h => h))) hok hsum
    have HAS := hid haS
    have HBS := hid hbS
    have HOS := hid hos
    clear haS hbS hos hok hsum
    go_wp2_with (go_at_call 14; refine hp1.mono ?_; clear hp1; rintro e w3 ⟨rfl, hc3⟩; have hcn := HC.out.trans hc3 (fun _ _ h => h); clear HC hc3 u0 u1; obtain ⟨u0, u1⟩ := HBLK.out _ hcn; have HC := hid hcn; clear hcn)
    have hp2 := print_yes (gS g) _ _ aS (HGS.out _ (HC0.out.trans HC.out (fun _ _ h => h))) HOS.out.1 HAS.out.symm
    go_wp2_with (go_at_call 14; refine hp2.mono ?_; clear hp2; rintro e w4 ⟨rfl, hc4⟩; have hcn := HC.out.trans hc4 (fun _ _ h => h); clear HC hc4 u0 u1; obtain ⟨u0, u1⟩ := HBLK.out _ hcn; have HC := hid hcn; clear hcn)
    have hp3 := print_yes (gA g) _ _ bS (HGA.out _ (HC0.out.trans HC.out (fun _ _ h => h))) HOS.out.2 HBS.out.symm
    go_wp2_with (go_at_call 14; refine hp3.mono ?_; clear hp3; rintro e w5 ⟨rfl, hc5⟩; have hcn := HC.out.trans hc5 (fun _ _ h => h); clear HC hc5 u0 u1; obtain ⟨u0, u1⟩ := HBLK.out _ hcn; have HC := hid hcn; clear hcn)
    have hq1 := parse_yes (gS g) aS HOS.out.1 HAS.out _ (HM.out.chg (HC0.out.trans HC.out (fun _ _ h => h)) (fun _ _ h => h))
    go_wp2_with (go_at_call 10; refine hq1.mono ?_; clear hq1; rintro e m1 ⟨hcm, vk, rfl, hgk⟩; have hform : ∃ oa c ob d iv, vk = .agg #[.slice oa g.srcs.length c, .slice ob 0 d] ∧ NamesAt m1 (.slice oa g.srcs.length c) g.srcs ∧ ActsAt m1 (.slice ob 0 d) [] iv := hgk.form; obtain ⟨ka, kc, kb, kd, kv, rfl, hns, _⟩ := hform; have hcm2 : Chg (fun _ => False) _ (m1.alloc (.cells #[.slice ka g.srcs.length kc, .slice kb 0 kd] 26)) := hcm.alloc _; have hm2 : Chg (fun _ => False) m1 (m1.alloc (.cells #[.slice ka g.srcs.length kc, .slice kb 0 kd] 26)) := (Chg.refl _ m1).alloc _; have HNS := hid (hns.chg hm2 (fun _ _ h => h)); have HKB := hid (heap_alloc_new' m1 (.cells #[.slice ka g.srcs.length kc, .slice kb 0 kd] 26)); clear hgk hcm hns hm2; have hcn := HC.out.trans hcm2 (fun _ _ h => h); clear HC hcm2 u0 u1; obtain ⟨u0, u1⟩ := HBLK.out _ hcn; have HC := hid hcn; clear hcn)
    generalize m1.alloc (.cells #[.slice ka g.srcs.length kc, .slice kb 0 kd] 26) = m2 at *
    generalize m1.heap.size = b9 at *
    have hq2 := parse_yes (gA g) bS HOS.out.2 HBS.out _ (HM.out.chg (HC0.out.trans HC.out (fun _ _ h => h)) (fun _ _ h => h))
    go_wp2_with (go_at_call 10; refine hq2.mono ?_; clear hq2; rintro e m3 ⟨hcm, vl, rfl, hgl⟩; have hform : ∃ oa c ob d iv, vl = .agg #[.slice oa 0 c, .slice ob g.acts.length d] ∧ NamesAt m3 (.slice oa 0 c) [] ∧ ActsAt m3 (.slice ob g.acts.length d) g.acts iv := hgl.form; obtain ⟨la, lc, lb, ld, lv, rfl, _, hal⟩ := hform; have hcm2 : Chg (fun _ => False) m2 (m3.alloc (.cells #[.slice la 0 lc, .slice lb g.acts.length ld] 26)) := hcm.alloc _; have hm4 : Chg (fun _ => False) m3 (m3.alloc (.cells #[.slice la 0 lc, .slice lb g.acts.length ld] 26)) := (Chg.refl _ m3).alloc _; have hsm := same_any g g (.agg #[.slice ka g.srcs.length kc, .slice lb g.acts.length ld]) _ (m3.alloc (.cells #[.slice la 0 lc, .slice lb g.acts.length ld] 26)) (gr_both (HNS.out.chg hcm2 (fun _ _ h => h)) (hal.chg hm4 (fun _ _ h => h))) (HG.out _ ((HC0.out.trans HC.out (fun _ _ h => h)).trans hcm2 (fun _ _ h => h))); have p9 := hcm2.obj HKB.out (fun h => h); have x0 := (cell_of p9 0).trans rfl; have x1 := (cell_of p9 1).trans rfl; have HP9 := hid p9; have HL9 := hid (heap_alloc_new' m3 (.cells #[.slice la 0 lc, .slice lb g.acts.length ld] 26)); clear hgl hcm hal hm4 p9; have hcn := HC.out.trans hcm2 (fun _ _ h => h); clear HC hcm2 u0 u1; obtain ⟨u0, u1⟩ := HBLK.out _ hcn; have HC := hid hcn; clear hcn)
    generalize m3.alloc (.cells #[.slice la 0 lc, .slice lb g.acts.length ld] 26) = m4 at *
    generalize m3.heap.size = b10 at *
    go_wp2_with (go_at_call 17; refine hsm.mono ?_; clear hsm; rintro e m6 ⟨B6, rfl, hB6, hc6⟩; obtain rfl := hB6.2 (by first | exact rfl | trivial); clear hB6; have r1 : m6.cell? ⟨b9, 1, none⟩ = some (.slice kb 0 kd) := (cell_of (hc6.obj HP9.out (fun h => h)) 1).trans rfl; have r2 : m6.cell? ⟨b10, 0, none⟩ = some (.slice la 0 lc) := (cell_of (hc6.obj HL9.out (fun h => h)) 0).trans rfl; have hcn := HC.out.trans hc6 (fun _ _ h => h); clear HC hc6 u0 u1; obtain ⟨u0, u1⟩ := HBLK.out _ hcn; have HC := hid hcn; clear hcn)
    go_ret
    exact ⟨rfl, HC0.out.trans HC.out (fun _ _ h => h)⟩
end Go.Proofs.YtbaipdhgjalgoaaDoor
