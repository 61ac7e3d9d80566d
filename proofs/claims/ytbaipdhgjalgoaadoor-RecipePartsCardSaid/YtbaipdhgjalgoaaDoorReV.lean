/- RecipeBack walked: it returns true (printed by genv.py). -/
import Derived.Test.YtbaipdhgjalgoaaDoorReU
namespace Go.Proofs.YtbaipdhgjalgoaaDoor
open Go.RowKit

theorem parseL_err : ∀ (f n : Nat) (g : GrR) (t : List UInt8), 1 ≤ n → (parseL f n g t).2.2 ≠ 0 → (parseL f n g t).1 = noGr ∧ 1 ≤ (parseL f n g t).2.1 := by
  intro f
  induction f with
  | zero =>
    intro n g t hn h
    unfold parseL at h ⊢
    split at h
    · exact absurd rfl h
    · rw [if_neg (by assumption)]; exact ⟨rfl, hn⟩
  | succ f ih =>
    intro n g t hn h
    unfold parseL at h ⊢
    split at h
    · exact absurd rfl h
    rw [if_neg (by assumption)]
    split at h
    · rw [if_pos (by assumption)]; exact ⟨rfl, hn⟩
    rw [if_neg (by assumption)]
    split at h
    · exact ⟨rfl, hn⟩
    · exact ih _ _ _ (by omega) h
theorem parseL_ok : ∀ (f n : Nat) (g : GrR) (t : List UInt8), (parseL f n g t).2.2 = 0 → (parseL f n g t).2.1 = 0 := by
  intro f
  induction f with
  | zero =>
    intro n g t h
    unfold parseL at h ⊢
    split at h
    · rw [if_pos (by assumption)]
    · exact absurd h (by simp)
  | succ f ih =>
    intro n g t h
    unfold parseL at h ⊢
    split at h
    · rw [if_pos (by assumption)]
    rw [if_neg (by assumption)]
    split at h
    · exact absurd h (by simp)
    rw [if_neg (by assumption)]
    split at h
    · exact absurd h (by simp)
    · exact ih _ _ _ h
theorem back_text (t : List UInt8) (hl : t.length ≤ 8192) (K : GrR) (n c : Nat) (h : parseR t = (K, n, c)) : (c ≠ 0 → K = noGr ∧ 1 ≤ n) ∧ (c = 0 → grOK K = true ∧ textL K = t) := by
  have hp : parseR t = parseL t.length 1 noGr t := by unfold parseR; rw [if_neg (by omega)]
  constructor
  · intro hc
    have := parseL_err t.length 1 noGr t (Nat.le_refl _) (by rw [← hp, h]; exact hc)
    rw [← hp, h] at this
    exact this
  · intro hc
    subst hc
    have := parseL_ok t.length 1 noGr t (by rw [← hp, h])
    rw [← hp, h] at this
    have hn : n = 0 := this
    subst hn
    exact text_parse t K h

theorem print_ok (K : GrR) (v : Value) (W : World) (text : ByteArray) (hg : GrAt W v K) (h1 : grOK K = true) (h2 : textL K = text.data.toList) : Calls Tryd.prog 14 #[v] W (Rets (.tuple #[.string text, .int .i64 0]) (Chg (fun _ => False) W)) := by
  have hp := print_any K v W hg
  have hr : printR K = some (textL K) := by unfold printR; rw [h1]; rfl
  rw [hr, h1] at hp
  have e : bs (textL K) = text := by rw [h2, bs_list]
  rw [← e]
  exact hp

set_option maxRecDepth 100000 in
set_option maxHeartbeats 8000000 in
theorem back_any (g h : GrR) (v u : Value) (text : ByteArray) (ht : text.size ≤ maxLen) (w : World) (hg : GrAt w v g) (hh : GrAt w u h) (hm : MaxOK w) : Calls Tryd.prog 7 #[v, u, .string text] w (Rets (.bool true) (Chg (fun _ => False) w)) := by
  have hgr : ∀ W, Chg (fun _ => False) w W → Calls Tryd.prog 13 #[v] W (AnyB W) := fun W hW => great_any g v W (hg.chg hW (fun _ _ h => h))
  have hgr2 : ∀ W, Chg (fun _ => False) w W → Calls Tryd.prog 13 #[u] W (AnyB W) := fun W hW => great_any h u W (hh.chg hW (fun _ _ h => h))
  have hpr : ∀ W, Chg (fun _ => False) w W → Calls Tryd.prog 14 #[v] W (Rets (.tuple #[.string (bs ((printR g).getD [])), .int .i64 (if grOK g = true then 0 else 1)]) (Chg (fun _ => False) W)) := fun W hW => print_any g v W (hg.chg hW (fun _ _ h => h))
  have hpr2 : ∀ W, Chg (fun _ => False) w W → Calls Tryd.prog 14 #[u] W (Rets (.tuple #[.string (bs ((printR h).getD [])), .int .i64 (if grOK h = true then 0 else 1)]) (Chg (fun _ => False) W)) := fun W hW => print_any h u W (hh.chg hW (fun _ _ h => h))
  have hsm : ∀ W, Chg (fun _ => False) w W → Calls Tryd.prog 17 #[v, u] W (Ans (g = h) W) := fun W hW => same_any g h v u W (hg.chg hW (fun _ _ h => h)) (hh.chg hW (fun _ _ h => h))
  have hsk : ∀ W k, Chg (fun _ => False) w W → GrAt W k g → Calls Tryd.prog 17 #[k, v] W (Ans (g = g) W) := fun W k hW hk => same_any g g k v W hk (hg.chg hW (fun _ _ h => h))
  obtain ⟨oa, c, ob, d, iv, rfl, _, _⟩ := hg.form
  obtain ⟨pa, q, pb, r, ju, rfl, _, _⟩ := hh.form
  have hC0 : Chg (fun _ => False) w ((w.alloc (.cells #[.slice oa g.srcs.length c, .slice ob g.acts.length d] 26)).alloc (.cells #[.slice pa h.srcs.length q, .slice pb h.acts.length r] 26)) := ((Chg.refl _ w).alloc _).alloc _
  have hk0 : ((w.alloc (.cells #[.slice oa g.srcs.length c, .slice ob g.acts.length d] 26)).alloc (.cells #[.slice pa h.srcs.length q, .slice pb h.acts.length r] 26)).heap[w.heap.size]? = some (.cells #[.slice oa g.srcs.length c, .slice ob g.acts.length d] 26 (0, 0)) := heap_alloc_old' (heap_alloc_new' w _) _
  have hk1 : ((w.alloc (.cells #[.slice oa g.srcs.length c, .slice ob g.acts.length d] 26)).alloc (.cells #[.slice pa h.srcs.length q, .slice pb h.acts.length r] 26)).heap[w.heap.size + 1]? = some (.cells #[.slice pa h.srcs.length q, .slice pb h.acts.length r] 26 (0, 0)) := by
    have := heap_alloc_new' (w.alloc (.cells #[.slice oa g.srcs.length c, .slice ob g.acts.length d] 26)) (.cells #[.slice pa h.srcs.length q, .slice pb h.acts.length r] 26)
    simpa using this
  have hblk : ∀ W, Chg (fun _ => False) ((w.alloc (.cells #[.slice oa g.srcs.length c, .slice ob g.acts.length d] 26)).alloc (.cells #[.slice pa h.srcs.length q, .slice pb h.acts.length r] 26)) W → W.cell? ⟨w.heap.size, 0, none⟩ = some (.slice oa g.srcs.length c) ∧ W.cell? ⟨w.heap.size, 1, none⟩ = some (.slice ob g.acts.length d) ∧ W.cell? ⟨w.heap.size + 1, 0, none⟩ = some (.slice pa h.srcs.length q) ∧ W.cell? ⟨w.heap.size + 1, 1, none⟩ = some (.slice pb h.acts.length r) := fun W hW =>
    ⟨(cell_of (hW.obj hk0 (fun h => h)) 0).trans rfl, (cell_of (hW.obj hk0 (fun h => h)) 1).trans rfl, (cell_of (hW.obj hk1 (fun h => h)) 0).trans rfl, (cell_of (hW.obj hk1 (fun h => h)) 1).trans rfl⟩
  have haw := awake_any _ (hm.chg hC0 (fun _ _ h => h))
  have HGR := hid hgr
  have HGR2 := hid hgr2
  have HPR := hid hpr
  have HPR2 := hid hpr2
  have HSM := hid hsm
  have HSK := hid hsk
  have HM := hid hm
  have HBLK := hid hblk
  have HC0 := hid hC0
  have hnq : ∀ (x y : Bool) (w : World), (binOp .neq 4 (.bool x) (.bool y)).run Tryd.prog w = .ok (.bool (!(x == y))) w := fun x y w => (NeqAt.bool (P := Tryd.prog) 4 Tryd.underlying4).1 x y w
  unfold maxLen at ht
  clear hg hh hC0 hk0 hk1 hgr hgr2 hpr hpr2 hsm hsk hm hblk
  by_cases h8 : (8192 : Int) < (text.size : Int)
  · go_enter Tryd.func7, Tryd.ntmps7
    go_wp2_with (go_at_call 9; refine haw.mono ?_; rintro e w1 ⟨rfl, hc1⟩; obtain ⟨u0, u1, u2, u3⟩ := HBLK.out _ hc1; have HC := hid hc1; clear hc1 haw)
    have hg1 := HGR.out _ (HC0.out.trans HC.out (fun _ _ h => h))
    go_wp2_with (go_at_call 13; refine hg1.mono ?_; rintro e w2 ⟨B, rfl, hc2⟩; have hcn := HC.out.trans hc2 (fun _ _ h => h); clear HC hc2 u0 u1 u2 u3; obtain ⟨u0, u1, u2, u3⟩ := HBLK.out _ hcn; have HC := hid hcn; clear hcn; clear hg1; cases B)
    all_goals first
      | (go_ret; exact ⟨rfl, HC0.out.trans HC.out (fun _ _ h => h)⟩)
      | skip
    have hg2 := HGR2.out _ (HC0.out.trans HC.out (fun _ _ h => h))
    go_wp2_with (go_at_call 13; refine hg2.mono ?_; rintro e w3 ⟨B2, rfl, hc3⟩; have hcn := HC.out.trans hc3 (fun _ _ h => h); clear HC hc3 u0 u1 u2 u3; obtain ⟨u0, u1, u2, u3⟩ := HBLK.out _ hcn; have HC := hid hcn; clear hcn; clear hg2; cases B2)
    all_goals (go_ret; exact ⟨rfl, HC0.out.trans HC.out (fun _ _ h => h)⟩)
  · have d8 : decide ((8192 : Int) < (text.size : Int)) = false := decide_eq_false h8
    go_enter Tryd.func7, Tryd.ntmps7
    go_wp2_with (go_at_call 9; refine haw.mono ?_; rintro e w1 ⟨rfl, hc1⟩; obtain ⟨u0, u1, u2, u3⟩ := HBLK.out _ hc1; have HC := hid hc1; clear hc1 haw)
    have hg1 := HGR.out _ (HC0.out.trans HC.out (fun _ _ h => h))
    go_wp2_with (go_at_call 13; refine hg1.mono ?_; rintro e w2 ⟨B, rfl, hc2⟩; have hcn := HC.out.trans hc2 (fun _ _ h => h); clear HC hc2 u0 u1 u2 u3; obtain ⟨u0, u1, u2, u3⟩ := HBLK.out _ hcn; have HC := hid hcn; clear hcn; clear hg1; cases B)
    all_goals first
      | (go_ret; exact ⟨rfl, HC0.out.trans HC.out (fun _ _ h => h)⟩)
      | skip
    have hg2 := HGR2.out _ (HC0.out.trans HC.out (fun _ _ h => h))
    go_wp2_with (go_at_call 13; refine hg2.mono ?_; rintro e w3 ⟨B2, rfl, hc3⟩; have hcn := HC.out.trans hc3 (fun _ _ h => h); clear HC hc3 u0 u1 u2 u3; obtain ⟨u0, u1, u2, u3⟩ := HBLK.out _ hcn; have HC := hid hcn; clear hcn; clear hg2; cases B2)
    all_goals first
      | (go_ret; exact ⟨rfl, HC0.out.trans HC.out (fun _ _ h => h)⟩)
      | skip
    have hlt : text.data.toList.length ≤ 8192 := by rw [← Lib.size_eq]; omega
    obtain ⟨K, nK, cK, hK⟩ : ∃ K nK cK, parseR text.data.toList = (K, nK, cK) := ⟨_, _, _, rfl⟩
    obtain ⟨bt1, bt2⟩ := back_text _ hlt K nK cK hK
    have hpt : ∀ W, MaxOK W → Calls Tryd.prog 10 #[.string text] W (fun e w' => Chg (fun _ => False) W w' ∧ ∃ v, e = .returned (.tuple #[v, .int .i64 nK, .int .i64 cK]) ∧ GrAt w' v K) := fun W hW => by
      have := parseS_any text (by unfold maxLen; omega) W hW
      unfold ParsePost at this
      rw [hK] at this
      exact this
    have HPT := hid hpt
    have BT1 := hid bt1
    have BT2 := hid bt2
    clear hpt bt1 bt2 hK hlt
    cases hok : grOK g with
    | false =>
      have hp := HPR.out _ (HC0.out.trans HC.out (fun _ _ h => h))
      rw [hok] at hp
      obtain ⟨sS, hsS⟩ : ∃ sS, sS = bs ((printR g).getD []) := ⟨_, rfl⟩
      rw [← hsS] at hp
      have hp' : Calls Tryd.prog 14 #[.agg #[.slice oa g.srcs.length c, .slice ob g.acts.length d]] w3 (Rets (.tuple #[.string sS, .int .i64 1]) (Chg (fun _ => False) w3)) := hp
      clear hp hok hsS
      go_wp2_with (first | (go_at_call 14; refine hp'.mono ?_; clear hp'; rintro e w4 ⟨rfl, hc4⟩; have hcn := HC.out.trans hc4 (fun _ _ h => h); clear HC hc4 u0 u1 u2 u3; obtain ⟨u0, u1, u2, u3⟩ := HBLK.out _ hcn; have HC := hid hcn; clear hcn))
      obtain ⟨tS, fI, hp2all⟩ : ∃ (tS : ByteArray) (fI : Int), ∀ W, Chg (fun _ => False) w W → Calls Tryd.prog 14 #[.agg #[.slice pa h.srcs.length q, .slice pb h.acts.length r]] W (Rets (.tuple #[.string tS, .int .i64 fI]) (Chg (fun _ => False) W)) := ⟨_, _, HPR2.out⟩
      have hp2 := hp2all _ (HC0.out.trans HC.out (fun _ _ h => h))
      clear hp2all
      go_wp2_with (first | (go_at_call 14; refine hp2.mono ?_; clear hp2; rintro e w5 ⟨rfl, hc5⟩; have hcn := HC.out.trans hc5 (fun _ _ h => h); clear HC hc5 u0 u1 u2 u3; obtain ⟨u0, u1, u2, u3⟩ := HBLK.out _ hcn; have HC := hid hcn; clear hcn))
      have hpt1 := HPT.out _ (HM.out.chg (HC0.out.trans HC.out (fun _ _ h => h)) (fun _ _ h => h))
      by_cases hc0 : cK = 0
      · subst hc0
        obtain ⟨hk1, hk2⟩ := BT2.out rfl
        go_wp2_with (go_at_call 10; refine hpt1.mono ?_; rintro e n1 ⟨hcm, vk, rfl, hgk⟩; obtain ⟨ka, kc, kb, kd, kv, rfl, _, _⟩ := hgk.form; have hcm2 : Chg (fun _ => False) _ (n1.alloc (.cells #[.slice ka K.srcs.length kc, .slice kb K.acts.length kd] 26)) := hcm.alloc _; have hpk3 := print_ok K _ (n1.alloc (.cells #[.slice ka K.srcs.length kc, .slice kb K.acts.length kd] 26)) text (hgk.chg ((Chg.refl (fun _ => False) n1).alloc _) (fun _ _ h => h)) hk1 hk2; clear hgk hcm hpt1 hk1 hk2; have hcn := HC.out.trans hcm2 (fun _ _ h => h); clear HC hcm2 u0 u1 u2 u3; obtain ⟨u0, u1, u2, u3⟩ := HBLK.out _ hcn; have HC := hid hcn; clear hcn)
        go_wp2_with (go_at_call 14; refine hpk3.mono ?_; clear hpk3; rintro e n2 ⟨rfl, hc9⟩; have hcn := HC.out.trans hc9 (fun _ _ h => h); clear HC hc9 u0 u1 u2 u3; obtain ⟨u0, u1, u2, u3⟩ := HBLK.out _ hcn; have HC := hid hcn; clear hcn)
        go_ret
        exact ⟨rfl, HC0.out.trans HC.out (fun _ _ h => h)⟩
      · obtain ⟨rfl, hk2⟩ := BT1.out hc0
        have hci : ¬ ((cK : Nat) : Int) = 0 := by omega
        have hni : (0 : Int) < ((nK : Nat) : Int) := by omega
        go_wp2_with (go_at_call 10; refine hpt1.mono ?_; rintro e n1 ⟨hcm, vk, rfl, hgk⟩; have hsame := fun W hW => same_any noGr noGr vk (.agg #[.slice none 0 0, .slice none 0 0]) W (hgk.chg hW (fun _ _ h => h)) (noGr_at W); obtain ⟨ka, kc, kb, kd, kv, rfl, _, _⟩ := hgk.form; have hcm2 : Chg (fun _ => False) _ (n1.alloc (.cells #[.slice ka noGr.srcs.length kc, .slice kb noGr.acts.length kd] 26)) := hcm.alloc _; have hsame3 := hsame (n1.alloc (.cells #[.slice ka noGr.srcs.length kc, .slice kb noGr.acts.length kd] 26)) ((Chg.refl _ n1).alloc _); clear hgk hcm hpt1 hsame; have hcn := HC.out.trans hcm2 (fun _ _ h => h); clear HC hcm2 u0 u1 u2 u3; obtain ⟨u0, u1, u2, u3⟩ := HBLK.out _ hcn; have HC := hid hcn; clear hcn)
        go_wp2_with (go_at_call 17; refine hsame3.mono ?_; clear hsame3; rintro e n2 ⟨B9, rfl, hB9, hc9⟩; obtain rfl := hB9.2 (by first | exact rfl | trivial); have hcn := HC.out.trans hc9 (fun _ _ h => h); clear HC hc9 u0 u1 u2 u3; obtain ⟨u0, u1, u2, u3⟩ := HBLK.out _ hcn; have HC := hid hcn; clear hcn)
        go_ret
        exact ⟨rfl, HC0.out.trans HC.out (fun _ _ h => h)⟩
    | true =>
      have hp := HPR.out _ (HC0.out.trans HC.out (fun _ _ h => h))
      have hr : printR g = some (textL g) := by unfold printR; rw [hok]; rfl
      rw [hok, hr] at hp
      obtain ⟨sS, hsS⟩ : ∃ sS, sS = bs (textL g) := ⟨_, rfl⟩
      have hp' : Calls Tryd.prog 14 #[.agg #[.slice oa g.srcs.length c, .slice ob g.acts.length d]] w3 (Rets (.tuple #[.string sS, .int .i64 0]) (Chg (fun _ => False) w3)) := by rw [hsS]; exact hp
      have hps : ∀ W, MaxOK W → Calls Tryd.prog 10 #[.string sS] W (fun e w' => Chg (fun _ => False) W w' ∧ ∃ v, e = .returned (.tuple #[v, .int .i64 0, .int .i64 0]) ∧ GrAt w' v g) := fun W hW => by
        have hz : sS.data.toList = textL g := by rw [hsS, bs_data]
        have := parseS_any sS (by rw [hsS, bs_size]; have := textL_len g hok; unfold maxLen; omega) W hW
        unfold ParsePost at this
        rw [hz, parse_text g hok] at this
        exact this
      have HPS := hid hps
      have HSS := hid hsS
      have HOK := hid hok
      clear hp hr hok hsS hps
      go_wp2_with (first | (go_at_call 14; refine hp'.mono ?_; clear hp'; rintro e w4 ⟨rfl, hc4⟩; have hcn := HC.out.trans hc4 (fun _ _ h => h); clear HC hc4 u0 u1 u2 u3; obtain ⟨u0, u1, u2, u3⟩ := HBLK.out _ hcn; have HC := hid hcn; clear hcn))
      cases hok2 : grOK h with
      | false =>
        obtain ⟨tS, htS⟩ : ∃ tS, tS = bs ((printR h).getD []) := ⟨_, rfl⟩
        have hp2 := HPR2.out _ (HC0.out.trans HC.out (fun _ _ h => h))
        rw [hok2, ← htS] at hp2
        have hp3 : Calls Tryd.prog 14 #[.agg #[.slice pa h.srcs.length q, .slice pb h.acts.length r]] w4 (Rets (.tuple #[.string tS, .int .i64 1]) (Chg (fun _ => False) w4)) := hp2
        clear htS hp2 hok2
        go_wp2_with (first | (go_at_call 14; refine hp3.mono ?_; clear hp3; rintro e w5 ⟨rfl, hc5⟩; have hcn := HC.out.trans hc5 (fun _ _ h => h); clear HC hc5 u0 u1 u2 u3; obtain ⟨u0, u1, u2, u3⟩ := HBLK.out _ hcn; have HC := hid hcn; clear hcn))
        have hps1 := HPS.out _ (HM.out.chg (HC0.out.trans HC.out (fun _ _ h => h)) (fun _ _ h => h))
        go_wp2_with (go_at_call 10; refine hps1.mono ?_; rintro e m1 ⟨hcm, vk, rfl, hgk⟩; obtain ⟨ka, kc, kb, kd, kv, rfl, _, _⟩ := hgk.form; have hcm2 : Chg (fun _ => False) _ (m1.alloc (.cells #[.slice ka g.srcs.length kc, .slice kb g.acts.length kd] 26)) := hcm.alloc _; have HGK := hid (hgk.chg ((Chg.refl (fun _ => False) m1).alloc (.cells #[.slice ka g.srcs.length kc, .slice kb g.acts.length kd] 26)) (fun _ _ h => h)); clear hgk hcm hps1; have hcn := HC.out.trans hcm2 (fun _ _ h => h); clear HC hcm2 u0 u1 u2 u3; obtain ⟨u0, u1, u2, u3⟩ := HBLK.out _ hcn; have HC := hid hcn; clear hcn)
        have hsk1 := HSK.out _ _ (HC0.out.trans HC.out (fun _ _ h => h)) HGK.out
        go_wp2_with (go_at_call 17; refine hsk1.mono ?_; clear hsk1; rintro e m2 ⟨B7, rfl, hB7, hc7⟩; obtain rfl := hB7.2 (by first | exact rfl | trivial); have hcn := HC.out.trans hc7 (fun _ _ h => h); clear HC hc7 u0 u1 u2 u3; obtain ⟨u0, u1, u2, u3⟩ := HBLK.out _ hcn; have HC := hid hcn; clear hcn)
        have hpt1 := HPT.out _ (HM.out.chg (HC0.out.trans HC.out (fun _ _ h => h)) (fun _ _ h => h))
        by_cases hc0 : cK = 0
        · subst hc0
          obtain ⟨hk1, hk2⟩ := BT2.out rfl
          go_wp2_with (go_at_call 10; refine hpt1.mono ?_; rintro e n1 ⟨hcm, vk, rfl, hgk⟩; obtain ⟨ka, kc, kb, kd, kv, rfl, _, _⟩ := hgk.form; have hcm2 : Chg (fun _ => False) _ (n1.alloc (.cells #[.slice ka K.srcs.length kc, .slice kb K.acts.length kd] 26)) := hcm.alloc _; have hpk3 := print_ok K _ (n1.alloc (.cells #[.slice ka K.srcs.length kc, .slice kb K.acts.length kd] 26)) text (hgk.chg ((Chg.refl (fun _ => False) n1).alloc _) (fun _ _ h => h)) hk1 hk2; clear hgk hcm hpt1 hk1 hk2; have hcn := HC.out.trans hcm2 (fun _ _ h => h); clear HC hcm2 u0 u1 u2 u3; obtain ⟨u0, u1, u2, u3⟩ := HBLK.out _ hcn; have HC := hid hcn; clear hcn)
          go_wp2_with (go_at_call 14; refine hpk3.mono ?_; clear hpk3; rintro e n2 ⟨rfl, hc9⟩; have hcn := HC.out.trans hc9 (fun _ _ h => h); clear HC hc9 u0 u1 u2 u3; obtain ⟨u0, u1, u2, u3⟩ := HBLK.out _ hcn; have HC := hid hcn; clear hcn)
          go_ret
          exact ⟨rfl, HC0.out.trans HC.out (fun _ _ h => h)⟩
        · obtain ⟨rfl, hk2⟩ := BT1.out hc0
          have hci : ¬ ((cK : Nat) : Int) = 0 := by omega
          have hni : (0 : Int) < ((nK : Nat) : Int) := by omega
          go_wp2_with (go_at_call 10; refine hpt1.mono ?_; rintro e n1 ⟨hcm, vk, rfl, hgk⟩; have hsame := fun W hW => same_any noGr noGr vk (.agg #[.slice none 0 0, .slice none 0 0]) W (hgk.chg hW (fun _ _ h => h)) (noGr_at W); obtain ⟨ka, kc, kb, kd, kv, rfl, _, _⟩ := hgk.form; have hcm2 : Chg (fun _ => False) _ (n1.alloc (.cells #[.slice ka noGr.srcs.length kc, .slice kb noGr.acts.length kd] 26)) := hcm.alloc _; have hsame3 := hsame (n1.alloc (.cells #[.slice ka noGr.srcs.length kc, .slice kb noGr.acts.length kd] 26)) ((Chg.refl _ n1).alloc _); clear hgk hcm hpt1 hsame; have hcn := HC.out.trans hcm2 (fun _ _ h => h); clear HC hcm2 u0 u1 u2 u3; obtain ⟨u0, u1, u2, u3⟩ := HBLK.out _ hcn; have HC := hid hcn; clear hcn)
          go_wp2_with (go_at_call 17; refine hsame3.mono ?_; clear hsame3; rintro e n2 ⟨B9, rfl, hB9, hc9⟩; obtain rfl := hB9.2 (by first | exact rfl | trivial); have hcn := HC.out.trans hc9 (fun _ _ h => h); clear HC hc9 u0 u1 u2 u3; obtain ⟨u0, u1, u2, u3⟩ := HBLK.out _ hcn; have HC := hid hcn; clear hcn)
          go_ret
          exact ⟨rfl, HC0.out.trans HC.out (fun _ _ h => h)⟩
      | true =>
        have hr2 : printR h = some (textL h) := by unfold printR; rw [hok2]; rfl
        obtain ⟨tS, htS⟩ : ∃ tS, tS = bs (textL h) := ⟨_, rfl⟩
        have hp2 := HPR2.out _ (HC0.out.trans HC.out (fun _ _ h => h))
        rw [hok2, hr2] at hp2
        have hp3 : Calls Tryd.prog 14 #[.agg #[.slice pa h.srcs.length q, .slice pb h.acts.length r]] w4 (Rets (.tuple #[.string tS, .int .i64 0]) (Chg (fun _ => False) w4)) := by rw [htS]; exact hp2
        have hse : (sS.toList == tS.toList) = decide (textL g = textL h) := by rw [HSS.out, htS, bs_eq]
        have hinj : textL g = textL h → g = h := textL_inj g h HOK.out hok2
        have HINJ := hid hinj
        clear htS hp2 hok2 hr2 hinj
        by_cases hgh : g = h
        · rw [decide_eq_true (by rw [hgh])] at hse
          have HGH := hid hgh
          clear hgh
          go_wp2_with (first | (go_at_call 14; refine hp3.mono ?_; clear hp3; rintro e w5 ⟨rfl, hc5⟩; have hcn := HC.out.trans hc5 (fun _ _ h => h); clear HC hc5 u0 u1 u2 u3; obtain ⟨u0, u1, u2, u3⟩ := HBLK.out _ hcn; have HC := hid hcn; clear hcn))
          have hsm1 := HSM.out _ (HC0.out.trans HC.out (fun _ _ h => h))
          go_wp2_with (go_at_call 17; refine hsm1.mono ?_; clear hsm1 hse; rintro e w6 ⟨B6, rfl, hB6, hc6⟩; obtain rfl := hB6.2 HGH.out; clear hB6; have hcn := HC.out.trans hc6 (fun _ _ h => h); clear HC hc6 u0 u1 u2 u3; obtain ⟨u0, u1, u2, u3⟩ := HBLK.out _ hcn; have HC := hid hcn; clear hcn)
          have hps1 := HPS.out _ (HM.out.chg (HC0.out.trans HC.out (fun _ _ h => h)) (fun _ _ h => h))
          go_wp2_with (go_at_call 10; refine hps1.mono ?_; rintro e m1 ⟨hcm, vk, rfl, hgk⟩; obtain ⟨ka, kc, kb, kd, kv, rfl, _, _⟩ := hgk.form; have hcm2 : Chg (fun _ => False) _ (m1.alloc (.cells #[.slice ka g.srcs.length kc, .slice kb g.acts.length kd] 26)) := hcm.alloc _; have HGK := hid (hgk.chg ((Chg.refl (fun _ => False) m1).alloc (.cells #[.slice ka g.srcs.length kc, .slice kb g.acts.length kd] 26)) (fun _ _ h => h)); clear hgk hcm hps1; have hcn := HC.out.trans hcm2 (fun _ _ h => h); clear HC hcm2 u0 u1 u2 u3; obtain ⟨u0, u1, u2, u3⟩ := HBLK.out _ hcn; have HC := hid hcn; clear hcn)
          have hsk1 := HSK.out _ _ (HC0.out.trans HC.out (fun _ _ h => h)) HGK.out
          go_wp2_with (go_at_call 17; refine hsk1.mono ?_; clear hsk1; rintro e m2 ⟨B7, rfl, hB7, hc7⟩; obtain rfl := hB7.2 (by first | exact rfl | trivial); have hcn := HC.out.trans hc7 (fun _ _ h => h); clear HC hc7 u0 u1 u2 u3; obtain ⟨u0, u1, u2, u3⟩ := HBLK.out _ hcn; have HC := hid hcn; clear hcn)
          have hpt1 := HPT.out _ (HM.out.chg (HC0.out.trans HC.out (fun _ _ h => h)) (fun _ _ h => h))
          by_cases hc0 : cK = 0
          · subst hc0
            obtain ⟨hk1, hk2⟩ := BT2.out rfl
            go_wp2_with (go_at_call 10; refine hpt1.mono ?_; rintro e n1 ⟨hcm, vk, rfl, hgk⟩; obtain ⟨ka, kc, kb, kd, kv, rfl, _, _⟩ := hgk.form; have hcm2 : Chg (fun _ => False) _ (n1.alloc (.cells #[.slice ka K.srcs.length kc, .slice kb K.acts.length kd] 26)) := hcm.alloc _; have hpk3 := print_ok K _ (n1.alloc (.cells #[.slice ka K.srcs.length kc, .slice kb K.acts.length kd] 26)) text (hgk.chg ((Chg.refl (fun _ => False) n1).alloc _) (fun _ _ h => h)) hk1 hk2; clear hgk hcm hpt1 hk1 hk2; have hcn := HC.out.trans hcm2 (fun _ _ h => h); clear HC hcm2 u0 u1 u2 u3; obtain ⟨u0, u1, u2, u3⟩ := HBLK.out _ hcn; have HC := hid hcn; clear hcn)
            go_wp2_with (go_at_call 14; refine hpk3.mono ?_; clear hpk3; rintro e n2 ⟨rfl, hc9⟩; have hcn := HC.out.trans hc9 (fun _ _ h => h); clear HC hc9 u0 u1 u2 u3; obtain ⟨u0, u1, u2, u3⟩ := HBLK.out _ hcn; have HC := hid hcn; clear hcn)
            go_ret
            exact ⟨rfl, HC0.out.trans HC.out (fun _ _ h => h)⟩
          · obtain ⟨rfl, hk2⟩ := BT1.out hc0
            have hci : ¬ ((cK : Nat) : Int) = 0 := by omega
            have hni : (0 : Int) < ((nK : Nat) : Int) := by omega
            go_wp2_with (go_at_call 10; refine hpt1.mono ?_; rintro e n1 ⟨hcm, vk, rfl, hgk⟩; have hsame := fun W hW => same_any noGr noGr vk (.agg #[.slice none 0 0, .slice none 0 0]) W (hgk.chg hW (fun _ _ h => h)) (noGr_at W); obtain ⟨ka, kc, kb, kd, kv, rfl, _, _⟩ := hgk.form; have hcm2 : Chg (fun _ => False) _ (n1.alloc (.cells #[.slice ka noGr.srcs.length kc, .slice kb noGr.acts.length kd] 26)) := hcm.alloc _; have hsame3 := hsame (n1.alloc (.cells #[.slice ka noGr.srcs.length kc, .slice kb noGr.acts.length kd] 26)) ((Chg.refl _ n1).alloc _); clear hgk hcm hpt1 hsame; have hcn := HC.out.trans hcm2 (fun _ _ h => h); clear HC hcm2 u0 u1 u2 u3; obtain ⟨u0, u1, u2, u3⟩ := HBLK.out _ hcn; have HC := hid hcn; clear hcn)
            go_wp2_with (go_at_call 17; refine hsame3.mono ?_; clear hsame3; rintro e n2 ⟨B9, rfl, hB9, hc9⟩; obtain rfl := hB9.2 (by first | exact rfl | trivial); have hcn := HC.out.trans hc9 (fun _ _ h => h); clear HC hc9 u0 u1 u2 u3; obtain ⟨u0, u1, u2, u3⟩ := HBLK.out _ hcn; have HC := hid hcn; clear hcn)
            go_ret
            exact ⟨rfl, HC0.out.trans HC.out (fun _ _ h => h)⟩
        · rw [decide_eq_false (fun e => hgh (HINJ.out e))] at hse
          have HGH := hid hgh
          clear hgh
          go_wp2_with (first | (go_at_call 14; refine hp3.mono ?_; clear hp3; rintro e w5 ⟨rfl, hc5⟩; have hcn := HC.out.trans hc5 (fun _ _ h => h); clear HC hc5 u0 u1 u2 u3; obtain ⟨u0, u1, u2, u3⟩ := HBLK.out _ hcn; have HC := hid hcn; clear hcn))
          have hsm1 := HSM.out _ (HC0.out.trans HC.out (fun _ _ h => h))
          go_wp2_with (go_at_call 17; refine hsm1.mono ?_; clear hsm1 hse; rintro e w6 ⟨B6, rfl, hB6, hc6⟩; obtain rfl := Bool.eq_false_iff.2 (fun e => HGH.out (hB6.1 e)); clear hB6; have hcn := HC.out.trans hc6 (fun _ _ h => h); clear HC hc6 u0 u1 u2 u3; obtain ⟨u0, u1, u2, u3⟩ := HBLK.out _ hcn; have HC := hid hcn; clear hcn)
          have hps1 := HPS.out _ (HM.out.chg (HC0.out.trans HC.out (fun _ _ h => h)) (fun _ _ h => h))
          go_wp2_with (go_at_call 10; refine hps1.mono ?_; rintro e m1 ⟨hcm, vk, rfl, hgk⟩; obtain ⟨ka, kc, kb, kd, kv, rfl, _, _⟩ := hgk.form; have hcm2 : Chg (fun _ => False) _ (m1.alloc (.cells #[.slice ka g.srcs.length kc, .slice kb g.acts.length kd] 26)) := hcm.alloc _; have HGK := hid (hgk.chg ((Chg.refl (fun _ => False) m1).alloc (.cells #[.slice ka g.srcs.length kc, .slice kb g.acts.length kd] 26)) (fun _ _ h => h)); clear hgk hcm hps1; have hcn := HC.out.trans hcm2 (fun _ _ h => h); clear HC hcm2 u0 u1 u2 u3; obtain ⟨u0, u1, u2, u3⟩ := HBLK.out _ hcn; have HC := hid hcn; clear hcn)
          have hsk1 := HSK.out _ _ (HC0.out.trans HC.out (fun _ _ h => h)) HGK.out
          go_wp2_with (go_at_call 17; refine hsk1.mono ?_; clear hsk1; rintro e m2 ⟨B7, rfl, hB7, hc7⟩; obtain rfl := hB7.2 (by first | exact rfl | trivial); have hcn := HC.out.trans hc7 (fun _ _ h => h); clear HC hc7 u0 u1 u2 u3; obtain ⟨u0, u1, u2, u3⟩ := HBLK.out _ hcn; have HC := hid hcn; clear hcn)
          have hpt1 := HPT.out _ (HM.out.chg (HC0.out.trans HC.out (fun _ _ h => h)) (fun _ _ h => h))
          by_cases hc0 : cK = 0
          · subst hc0
            obtain ⟨hk1, hk2⟩ := BT2.out rfl
            go_wp2_with (go_at_call 10; refine hpt1.mono ?_; rintro e n1 ⟨hcm, vk, rfl, hgk⟩; obtain ⟨ka, kc, kb, kd, kv, rfl, _, _⟩ := hgk.form; have hcm2 : Chg (fun _ => False) _ (n1.alloc (.cells #[.slice ka K.srcs.length kc, .slice kb K.acts.length kd] 26)) := hcm.alloc _; have hpk3 := print_ok K _ (n1.alloc (.cells #[.slice ka K.srcs.length kc, .slice kb K.acts.length kd] 26)) text (hgk.chg ((Chg.refl (fun _ => False) n1).alloc _) (fun _ _ h => h)) hk1 hk2; clear hgk hcm hpt1 hk1 hk2; have hcn := HC.out.trans hcm2 (fun _ _ h => h); clear HC hcm2 u0 u1 u2 u3; obtain ⟨u0, u1, u2, u3⟩ := HBLK.out _ hcn; have HC := hid hcn; clear hcn)
            go_wp2_with (go_at_call 14; refine hpk3.mono ?_; clear hpk3; rintro e n2 ⟨rfl, hc9⟩; have hcn := HC.out.trans hc9 (fun _ _ h => h); clear HC hc9 u0 u1 u2 u3; obtain ⟨u0, u1, u2, u3⟩ := HBLK.out _ hcn; have HC := hid hcn; clear hcn)
            go_ret
            exact ⟨rfl, HC0.out.trans HC.out (fun _ _ h => h)⟩
          · obtain ⟨rfl, hk2⟩ := BT1.out hc0
            have hci : ¬ ((cK : Nat) : Int) = 0 := by omega
            have hni : (0 : Int) < ((nK : Nat) : Int) := by omega
            go_wp2_with (go_at_call 10; refine hpt1.mono ?_; rintro e n1 ⟨hcm, vk, rfl, hgk⟩; have hsame := fun W hW => same_any noGr noGr vk (.agg #[.slice none 0 0, .slice none 0 0]) W (hgk.chg hW (fun _ _ h => h)) (noGr_at W); obtain ⟨ka, kc, kb, kd, kv, rfl, _, _⟩ := hgk.form; have hcm2 : Chg (fun _ => False) _ (n1.alloc (.cells #[.slice ka noGr.srcs.length kc, .slice kb noGr.acts.length kd] 26)) := hcm.alloc _; have hsame3 := hsame (n1.alloc (.cells #[.slice ka noGr.srcs.length kc, .slice kb noGr.acts.length kd] 26)) ((Chg.refl _ n1).alloc _); clear hgk hcm hpt1 hsame; have hcn := HC.out.trans hcm2 (fun _ _ h => h); clear HC hcm2 u0 u1 u2 u3; obtain ⟨u0, u1, u2, u3⟩ := HBLK.out _ hcn; have HC := hid hcn; clear hcn)
            go_wp2_with (go_at_call 17; refine hsame3.mono ?_; clear hsame3; rintro e n2 ⟨B9, rfl, hB9, hc9⟩; obtain rfl := hB9.2 (by first | exact rfl | trivial); have hcn := HC.out.trans hc9 (fun _ _ h => h); clear HC hc9 u0 u1 u2 u3; obtain ⟨u0, u1, u2, u3⟩ := HBLK.out _ hcn; have HC := hid hcn; clear hcn)
            go_ret
            exact ⟨rfl, HC0.out.trans HC.out (fun _ _ h => h)⟩
end Go.Proofs.YtbaipdhgjalgoaaDoor
