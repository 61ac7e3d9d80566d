/- recipe.Parse walked. -/
import Derived.Test.YtbaipdhgjalgoaaDoorReM
namespace Go.Proofs.YtbaipdhgjalgoaaDoor
open Go.RowKit

theorem read_any {base : Nat} {w : World} {gb : Nat} {sv av : Value} {ss : List (List UInt8)} {ps : List (ActR × Value)} (h : GSt base w gb sv av ss ps) (hb : base ≤ w.heap.size) (hm : MaxOK w) (t : List UInt8) (ht : t.length ≤ 8192) (h8 : ss.length ≤ 8) (h12 : ps.length ≤ 12) :
    Calls Tryd.prog 20 #[.pointer (some ⟨gb, 0, none⟩), .string (bs t)] w (ReadPost base w gb (readL ⟨ss, ps.map (·.1)⟩ (splitC 32 t))) := by
  by_cases hs : (splitC 32 t).length = 2 ∧ (splitC 32 t).getD 0 [] = wSource
  · obtain ⟨y0, y1, e⟩ := list_two hs.1
    have e0 : y0 = wSource := by have := hs.2; rw [e] at this; exact this
    subst e0
    rw [e, readL_src2]
    exact read_src h hb hm t ht h8 y1 e
  · rw [readL_act2 _ _ _ hs]
    exact read_act h hb hm t ht h12 _ rfl hs
theorem readL_bound {g g' : GrR} {ws : List (List UInt8)} (h : readL g ws = some g') (h8 : g.srcs.length ≤ 8) (h12 : g.acts.length ≤ 12) : g'.srcs.length ≤ 8 ∧ g'.acts.length ≤ 12 := by
  unfold readL at h
  split at h
  · split at h
    · rename_i hh
      cases h
      exact ⟨by simp; omega, h12⟩
    · cases h
  · split at h
    · cases h
    · split at h
      · rename_i hh
        cases h
        exact ⟨h8, by simp; omega⟩
      · cases h
theorem res2 {W : World} {R : Nat} {T : TypeId} {a b : Value} (h : W.heap[R]? = some (.cells #[a, b] T (0, 0))) (u t : Value) :
    ((W.setCell ⟨R, 0, none⟩ u).setCell ⟨R, 1, none⟩ t).cell? ⟨R, 0, none⟩ = some u ∧ ((W.setCell ⟨R, 0, none⟩ u).setCell ⟨R, 1, none⟩ t).cell? ⟨R, 1, none⟩ = some t ∧ (W.setCell ⟨R, 0, none⟩ u).cell? ⟨R, 1, none⟩ = some b := by
  have y0 := heap_set_same h 0 u
  exact ⟨cell_of (heap_set_same y0 1 t) 0, cell_of (heap_set_same y0 1 t) 1, cell_of y0 1⟩
def lenV : Value → Nat
  | .string s => s.size
  | _ => 0
def ParsePost (t : List UInt8) (w : World) (e : Ending) (w' : World) : Prop :=
  Chg (fun _ => False) w w' ∧ ∃ v, e = .returned (.tuple #[v, .int .i64 (parseR t).2.1, .int .i64 (parseR t).2.2]) ∧ GrAt w' v (parseR t).1
theorem noGr_at (w : World) : GrAt w (.agg #[.slice none 0 0, .slice none 0 0]) noGr :=
  ⟨_, _, fun _ => .bool true, rfl, ⟨.inl ⟨rfl, rfl⟩, Nat.zero_le _, by simp [noGr]⟩, ⟨.inl ⟨rfl, rfl⟩, Nat.zero_le _, fun i _ => rfl⟩, fun i hi => absurd hi (Nat.not_lt_zero _), fun a ha => by simp [noGr] at ha⟩

set_option maxRecDepth 100000 in
set_option maxHeartbeats 4000000 in
theorem parse_any (t : List UInt8) (ht : t.length ≤ maxLen) (w : World) (hm : MaxOK w) : Calls Tryd.prog 10 #[.string (bs t)] w (ParsePost t w) := by
  have hsz := bs_size t
  unfold maxLen at ht
  by_cases hbig : 8192 < t.length
  · have hr : parseR t = (noGr, 0, 4) := by unfold parseR; rw [if_pos hbig]
    have HR := hid hr
    have hb' : (8192 : Int) < (t.length : Int) := by omega
    clear hr hm
    go_enter Tryd.func10, Tryd.ntmps10
    go_wp2_with fail
    refine bodyPost_ret (v := .tuple #[.agg #[.slice none 0 0, .slice none 0 0], .int .i64 0, .int .i64 4]) (by simp [results, Tryd.results10, go_sem] <;> rfl) rfl ⟨(Chg.refl _ w).alloc _, ?_⟩
    rw [HR.out]
    exact ⟨_, rfl, noGr_at _⟩
  · have hb' : ¬ (8192 : Int) < (t.length : Int) := by omega
    have hr : parseR t = parseL t.length 1 noGr t := by unfold parseR; rw [if_neg hbig]
    have HR := hid hr
    have HM := hid hm
    have h8192 : t.length ≤ 8192 := by omega
    have H81 := hid h8192
    clear hr hm hbig
    go_enter Tryd.func10, Tryd.ntmps10
    go_wp2_with fail
    have hgs : GSt (w.heap.size + 1) ((w.alloc (.cells #[.slice none 0 0, .slice none 0 0] 26)).alloc (.cells #[.slice none 0 0, .slice none 0 0] 26)) (w.heap.size + 1) (.slice none 0 0) (.slice none 0 0) [] [] := by
      refine ⟨?_, World.ownsRow_nil _ _ _ _, World.ownsRow_nil _ _ _ _, by simp [Value.ownBlock], by simp [Value.ownBlock], by simp [Value.ownBlock], Nat.le_refl _, by simp [Value.ownBlock], by simp [Value.ownBlock], by simp, by simp⟩
      have := heap_alloc_new' (w.alloc (.cells #[.slice none 0 0, .slice none 0 0] 26)) (.cells #[.slice none 0 0, .slice none 0 0] 26)
      simpa using this
    have hA0 : ((w.alloc (.cells #[.slice none 0 0, .slice none 0 0] 26)).alloc (.cells #[.slice none 0 0, .slice none 0 0] 26)).heap[w.heap.size]? = some (.cells #[.slice none 0 0, .slice none 0 0] 26 (0, 0)) := heap_alloc_old' (heap_alloc_new' w _) _
    have hc2 : Chg (fun _ => False) w ((w.alloc (.cells #[.slice none 0 0, .slice none 0 0] 26)).alloc (.cells #[.slice none 0 0, .slice none 0 0] 26)) := ((Chg.refl _ w).alloc _).alloc _
    have HGS := hid hgs
    have HA0 := hid hA0
    have HC2 := hid hc2
    clear hgs hA0 hc2
    generalize (w.alloc (.cells #[.slice none 0 0, .slice none 0 0] 26)).alloc (.cells #[.slice none 0 0, .slice none 0 0] 26) = W2 at *
    go_loopw [0, 6] (fun sv0 nv wr => ∃ (t' : List UInt8) (n : Nat) (sv av : Value) (ss : List (List UInt8)) (ps : List (ActR × Value)), sv0 = .string (bs t') ∧ nv = .int .i64 n ∧ t'.length ≤ 8192 ∧ n + t'.length ≤ 8200 ∧ parseR t = parseL t'.length n ⟨ss, ps.map (·.1)⟩ t' ∧ GSt (w.heap.size + 1) wr (w.heap.size + 1) sv av ss ps ∧ ss.length ≤ 8 ∧ ps.length ≤ 12 ∧ Chg (fun k => w.heap.size + 1 ≤ k) W2 wr) (fun sv0 _ _ => lenV sv0)
    case atStart => exact ⟨t, 1, _, _, [], [], rfl, rfl, H81.out, by have := H81.out; omega, HR.out, HGS.out, by simp, by simp, Chg.refl _ _⟩
    case round =>
      obtain ⟨t', n, sv, av, ss, ps, rfl, rfl, ht', hnt, hpr, hg, h8, h12, hch⟩ := hrel
      obtain ⟨oa, ca, rfl⟩ := own_form hg.so
      obtain ⟨ob, cb, rfl⟩ := own_form hg.ao
      have hR := hch.obj HA0.out (by show ¬ w.heap.size + 1 ≤ w.heap.size; omega)
      have hfar : Chg (fun _ => False) w wr := HC2.out.trans hch (fun i hi h => by omega)
      have hmr := HM.out.chg hfar (fun _ _ h => h)
      have c0 := cell_of hg.blk 0
      have c1 := cell_of hg.blk 1
      have z0 := cell_of hR 0
      have z1 := cell_of hR 1
      have f0 := frozen_of hR 0
      have f1 := frozen_of hR 1
      simp at c0 c1 z0 z1
      have hsz' := bs_size t'
      have HPR := hid hpr
      have HG := hid hg
      have HRB := hid hR
      have HFAR := hid hfar
      have HCH := hid hch
      have HMR := hid hmr
      have H8 := hid h8
      have H12 := hid h12
      clear hpr hg hR hfar hch hmr h8 h12
      by_cases he : t' = []
      · subst he
        have e0 : (bs []).toList.isEmpty = true := by rw [ba_isEmpty]; rfl
        have XS := res2 HRB.out (.slice oa ss.length ca) (.slice ob ps.length cb)
        have x0 := XS.1
        have x1 := XS.2.1
        have x2 := XS.2.2
        go_wp2_with fail
        refine bodyPost_ret (v := .tuple #[.agg #[.slice oa ss.length ca, .slice ob ps.length cb], .int .i64 0, .int .i64 0]) (by simp [results, Tryd.results10, go_sem, x0, x1] <;> rfl) rfl ⟨?_, ?_⟩
        · exact (HFAR.out.setCell (p := ⟨w.heap.size, 0, none⟩) (fun h => absurd h (Nat.lt_irrefl _)) _).setCell (p := ⟨w.heap.size, 1, none⟩) (fun h => absurd h (Nat.lt_irrefl _)) _
        · rw [HPR.out, parseL_nil]
          refine ⟨_, rfl, ?_⟩
          exact HG.out.gr (F := fun k => k = w.heap.size) (((Chg.refl (fun k => k = w.heap.size) wr).setCell (p := ⟨w.heap.size, 0, none⟩) (fun _ => rfl) _).setCell (p := ⟨w.heap.size, 1, none⟩) (fun _ => rfl) _) (fun k hk e => by omega) ⟨H8.out, H12.out⟩
      · have e0 : (bs t').toList.isEmpty = false := by rw [ba_isEmpty, hsz']; simpa using he
        have hcut := cut_any t' (by omega) wr HMR.out
        have s0 : ∀ q, (wr.drewN q).setCell ⟨w.heap.size, 0, none⟩ (.slice none 0 0) = wr.drewN q := fun q => setCell_id (w := wr.drewN q) HRB.out rfl
        cases hcc : (cutC 10 t').2.2 with
        | false =>
          rw [hcc] at hcut
          have hbad := parseL_noline t'.length n ⟨ss, ps.map (·.1)⟩ t' he hcc
          rw [← HPR.out] at hbad
          have HBAD := hid hbad
          clear hbad hcc s0
          go_wp2_with (go_at_call 19; refine hcut.mono ?_; rintro e w4 ⟨rfl, hc4⟩; have k4 := hc4.obj HRB.out (fun h => h); have y0 := cell_of k4 0; have y1 := cell_of k4 1; have g0 := frozen_of k4 0; have g1 := frozen_of k4 1; simp at y0 y1; have i0 : w4.setCell ⟨w.heap.size, 0, none⟩ (.slice none 0 0) = w4 := setCell_id k4 rfl; have i1 : w4.setCell ⟨w.heap.size, 1, none⟩ (.slice none 0 0) = w4 := setCell_id k4 rfl)
          refine bodyPost_ret (v := .tuple #[.agg #[.slice none 0 0, .slice none 0 0], .int .i64 n, .int .i64 3]) (by simp [results, Tryd.results10, go_sem, y0, y1] <;> rfl) rfl ⟨HFAR.out.trans hc4 (fun _ _ h => h), ?_⟩
          rw [HBAD.out]
          exact ⟨_, rfl, noGr_at _⟩
        | true =>
          rw [hcc] at hcut
          clear s0
          obtain ⟨f, hf⟩ : ∃ f, t'.length = f + 1 := ⟨t'.length - 1, by have := List.length_pos_iff.2 he; omega⟩
          have hlt := cutC_lt 10 t' hcc
          have hsp := congrArg List.length (cutC_spec 10 t' hcc).1
          simp only [List.length_append, List.length_cons] at hsp
          cases hrd : readL ⟨ss, ps.map (·.1)⟩ (splitC 32 (cutC 10 t').1) with
          | none =>
            have hbad := parseL_bad f n ⟨ss, ps.map (·.1)⟩ t' he hcc hrd
            rw [← hf, ← HPR.out] at hbad
            have hrc : ∀ W, Chg (fun _ => False) wr W → Calls Tryd.prog 20 #[.pointer (some ⟨w.heap.size + 1, 0, none⟩), .string (bs (cutC 10 t').1)] W (ReadPost (w.heap.size + 1) W (w.heap.size + 1) none) := fun W hW => by
              rw [← hrd]
              exact read_any (HG.out.keep hW) (by have := HG.out.lt; have := hW.size; omega) (HMR.out.chg hW (fun _ _ h => h)) _ (by omega) H8.out H12.out
            have HBAD := hid hbad
            have HRC := hid hrc
            clear hbad hcc hrd hrc hf hlt hsp
            generalize bs (cutC 10 t').1 = l1 at *
            generalize bs (cutC 10 t').2.1 = l2 at *
            go_wp2_with (first | (go_at_call 19; refine hcut.mono ?_; rintro e w4 ⟨rfl, hc4⟩) | (go_at_call 20; refine (HRC.out _ hc4).mono ?_; rintro e w5 ⟨hc5, rfl⟩; have k5 := hc5.obj (hc4.obj HRB.out (fun h => h)) (by show ¬ w.heap.size + 1 ≤ w.heap.size; omega); have y0 := cell_of k5 0; have y1 := cell_of k5 1; have g0 := frozen_of k5 0; have g1 := frozen_of k5 1; simp at y0 y1; have i0 : w5.setCell ⟨w.heap.size, 0, none⟩ (.slice none 0 0) = w5 := setCell_id k5 rfl; have i1 : w5.setCell ⟨w.heap.size, 1, none⟩ (.slice none 0 0) = w5 := setCell_id k5 rfl))
            refine bodyPost_ret (v := .tuple #[.agg #[.slice none 0 0, .slice none 0 0], .int .i64 n, .int .i64 24]) (by simp [results, Tryd.results10, go_sem, y0, y1] <;> rfl) rfl ⟨(HFAR.out.trans hc4 (fun _ _ h => h)).trans hc5 (fun i hi h => by omega), ?_⟩
            rw [HBAD.out]
            exact ⟨_, rfl, noGr_at _⟩
          | some g' =>
            have hst := parseL_step f n ⟨ss, ps.map (·.1)⟩ g' t' he hcc hrd
            rw [← hf, ← HPR.out, parseL_fuel f (cutC 10 t').2.1.length _ _ _ (by omega) (Nat.le_refl _)] at hst
            have hbd := readL_bound hrd H8.out (by have := H12.out; simpa using this)
            have hrc : ∀ W, Chg (fun _ => False) wr W → Calls Tryd.prog 20 #[.pointer (some ⟨w.heap.size + 1, 0, none⟩), .string (bs (cutC 10 t').1)] W (ReadPost (w.heap.size + 1) W (w.heap.size + 1) (some g')) := fun W hW => by
              rw [← hrd]
              exact read_any (HG.out.keep hW) (by have := HG.out.lt; have := hW.size; omega) (HMR.out.chg hW (fun _ _ h => h)) _ (by omega) H8.out H12.out
            have HST := hid hst
            have HRC := hid hrc
            have HBD := hid hbd
            have HLT := hid hlt
            have HSP := hid hsp
            clear hst hcc hrd hrc hf hbd hlt hsp
            generalize bs (cutC 10 t').1 = l1 at *
            obtain ⟨l2, hl2⟩ : ∃ l2, l2 = bs (cutC 10 t').2.1 := ⟨_, rfl⟩
            rw [← hl2] at hcut
            have HL2 := hid hl2
            clear hl2
            go_wp2_with (first | (go_at_call 19; refine hcut.mono ?_; rintro e w4 ⟨rfl, hc4⟩) | (go_at_call 20; refine (HRC.out _ hc4).mono ?_; rintro e w5 ⟨hc5, rfl, sv5, av5, ps5, hg5, hps5⟩))
            go_roundw
            case rel =>
              refine ⟨(cutC 10 t').2.1, n + 1, sv5, av5, g'.srcs, ps5, by rw [HL2.out], by go_num, by have := HLT.out; omega, by have := HLT.out; omega, ?_, hg5, HBD.out.1, by have := HBD.out.2; rw [hps5] at this; simpa using this, (HCH.out.trans hc4 (fun _ _ h => h.elim)).trans hc5 (fun _ _ h => h)⟩
              rw [HST.out, ← hps5]
            case measure =>
              have e1 : lenV (.string l2) = (cutC 10 t').2.1.length := by rw [HL2.out]; exact bs_size _
              have e2 : lenV (.string (bs t')) = t'.length := bs_size _
              have := HLT.out
              simp [e1, e2]; omega
end Go.Proofs.YtbaipdhgjalgoaaDoor
