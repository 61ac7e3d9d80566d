/- apiaryref07.Parse walked (printed by genk.py). -/
import Derived.Test.YtbaipdhgjalgoaaDoorRfM
import Derived.Test.YtbaipdhgjalgoaaDoorReN
namespace Go.Proofs.YtbaipdhgjalgoaaDoor
open Go.RowKit

theorem cut_get (c : UInt8) : ∀ (l : List UInt8) (i : Nat), i < (cutC c l).1.length → ∃ h : i < l.length, l[i] ≠ c
  | [], i, h => by simp [cutC] at h
  | x :: r, i, h => by
    unfold cutC at h
    split at h
    · simp at h
    · rename_i hx
      cases i with
      | zero => exact ⟨by simp, by simpa using hx⟩
      | succ i =>
        obtain ⟨h1, h2⟩ := cut_get c r i (by simpa using h)
        exact ⟨by simpa using h1, by simpa using h2⟩
theorem cut_end (c : UInt8) : ∀ (l : List UInt8), (cutC c l).2.2 = true → ∃ h : (cutC c l).1.length < l.length, l[(cutC c l).1.length] = c
  | [], h => by simp [cutC] at h
  | x :: r, h => by
    by_cases hx : x = c
    · exact ⟨by simp [cutC, hx], by simp [cutC, hx]⟩
    · have h' : (cutC c r).2.2 = true := by simpa [cutC, hx] using h
      obtain ⟨h1, h2⟩ := cut_end c r h'
      exact ⟨by simpa [cutC, hx] using h1, by simpa [cutC, hx] using h2⟩
theorem cut_no (c : UInt8) : ∀ (l : List UInt8), (cutC c l).2.2 = false → (cutC c l).1.length = l.length
  | [], h => by simp [cutC]
  | x :: r, h => by
    by_cases hx : x = c
    · simp [cutC, hx] at h
    · have h' : (cutC c r).2.2 = false := by simpa [cutC, hx] using h
      have := cut_no c r h'
      simpa [cutC, hx] using this
theorem cut_take (c : UInt8) : ∀ (l : List UInt8), (cutC c l).2.2 = true → (cutC c l).1 = l.take (cutC c l).1.length ∧ (cutC c l).2.1 = l.drop ((cutC c l).1.length + 1)
  | [], h => by simp [cutC] at h
  | x :: r, h => by
    by_cases hx : x = c
    · simp [cutC, hx]
    · have h' : (cutC c r).2.2 = true := by simpa [cutC, hx] using h
      obtain ⟨h1, h2⟩ := cut_take c r h'
      constructor
      · have e : (cutC c (x :: r)).1 = x :: (cutC c r).1 := by simp [cutC, hx]
        rw [e]
        simpa using h1
      · have e : (cutC c (x :: r)).1 = x :: (cutC c r).1 := by simp [cutC, hx]
        have e2 : (cutC c (x :: r)).2.1 = (cutC c r).2.1 := by simp [cutC, hx]
        rw [e, e2]
        simpa using h2
theorem ract_form {o : Option ActR} {w w' : World} {e : Ending} (h : RAct o w e w') : Chg (fun _ => False) w w' ∧ ∃ s oa n c cd, e = .returned (.tuple #[.agg #[.string s, .slice oa n c, .string cd], .bool o.isSome]) ∧
    ∀ a, o = some a → s = bs a.name ∧ n = a.ins.length ∧ cd = bs a.code ∧ NamesAt w' (.slice oa n c) a.ins ∧ ∀ ad, oa = some ad → w.heap.size ≤ ad.block := by
  obtain ⟨hc, hp⟩ := h
  refine ⟨hc, ?_⟩
  cases o with
  | none =>
    obtain ⟨s, oa, n, c, cd, rfl⟩ := hp
    exact ⟨s, oa, n, c, cd, rfl, fun a h => by cases h⟩
  | some a =>
    obtain ⟨oa, c, rfl, h1, h2⟩ := hp
    exact ⟨_, oa, _, c, _, rfl, fun a' h => by cases h; exact ⟨rfl, rfl, rfl, h1, h2⟩⟩

set_option maxRecDepth 100000 in
set_option maxHeartbeats 8000000 in
theorem rparse_any (t : List UInt8) (ht : t.length ≤ maxLen) (w : World) : Calls Tryd.prog 11 #[.string (bs t)] w (ParsePost t w) := by
  have hsz := bs_size t
  unfold maxLen at ht
  by_cases hbig : 8192 < t.length
  · have hr : parseR t = (noGr, 0, 4) := by unfold parseR; rw [if_pos hbig]
    have HR := hid hr
    have hb' : (8192 : Int) < (t.length : Int) := by omega
    clear hr
    go_enter Tryd.func11, Tryd.ntmps11
    go_wp2_with fail
    refine bodyPost_ret (v := .tuple #[.agg #[.slice none 0 0, .slice none 0 0], .int .i64 0, .int .i64 4]) (by simp [results, Tryd.results11, go_sem] <;> rfl) rfl ⟨((Chg.refl _ w).alloc _).alloc _, ?_⟩
    rw [HR.out]
    exact ⟨_, rfl, noGr_at _⟩
  · have hb' : ¬ (8192 : Int) < (t.length : Int) := by omega
    have hr : parseR t = parseL t.length 1 noGr t := by unfold parseR; rw [if_neg hbig]
    have HR := hid hr
    have h8192 : t.length ≤ 8192 := by omega
    have H81 := hid h8192
    clear hr hbig
    go_enter Tryd.func11, Tryd.ntmps11
    go_wp2_with fail
    have hgs : GSt (w.heap.size + 2) (((w.alloc (.cells #[.slice none 0 0, .slice none 0 0] 26)).alloc (.cells #[.slice none 0 0, .slice none 0 0] 26)).alloc (.cells #[.slice none 0 0, .slice none 0 0] 26)) (w.heap.size + 2) (.slice none 0 0) (.slice none 0 0) [] [] := by
      refine ⟨?_, World.ownsRow_nil _ _ _ _, World.ownsRow_nil _ _ _ _, by simp [Value.ownBlock], by simp [Value.ownBlock], by simp [Value.ownBlock], Nat.le_refl _, by simp [Value.ownBlock], by simp [Value.ownBlock], by simp, by simp⟩
      have := heap_alloc_new' ((w.alloc (.cells #[.slice none 0 0, .slice none 0 0] 26)).alloc (.cells #[.slice none 0 0, .slice none 0 0] 26)) (.cells #[.slice none 0 0, .slice none 0 0] 26)
      simpa using this
    have hR0 : (((w.alloc (.cells #[.slice none 0 0, .slice none 0 0] 26)).alloc (.cells #[.slice none 0 0, .slice none 0 0] 26)).alloc (.cells #[.slice none 0 0, .slice none 0 0] 26)).heap[w.heap.size]? = some (.cells #[.slice none 0 0, .slice none 0 0] 26 (0, 0)) := heap_alloc_old' (heap_alloc_old' (heap_alloc_new' w _) _) _
    have hN0 : (((w.alloc (.cells #[.slice none 0 0, .slice none 0 0] 26)).alloc (.cells #[.slice none 0 0, .slice none 0 0] 26)).alloc (.cells #[.slice none 0 0, .slice none 0 0] 26)).heap[w.heap.size + 1]? = some (.cells #[.slice none 0 0, .slice none 0 0] 26 (0, 0)) := by
      have := heap_alloc_old' (heap_alloc_new' (w.alloc (.cells #[.slice none 0 0, .slice none 0 0] 26)) (.cells #[.slice none 0 0, .slice none 0 0] 26)) (.cells #[.slice none 0 0, .slice none 0 0] 26)
      simpa using this
    have hc3 : Chg (fun _ => False) w (((w.alloc (.cells #[.slice none 0 0, .slice none 0 0] 26)).alloc (.cells #[.slice none 0 0, .slice none 0 0] 26)).alloc (.cells #[.slice none 0 0, .slice none 0 0] 26)) := (((Chg.refl _ w).alloc _).alloc _).alloc _
    have HGS := hid hgs
    have HR0 := hid hR0
    have HN0 := hid hN0
    have HC3 := hid hc3
    clear hgs hR0 hN0 hc3
    generalize (((w.alloc (.cells #[.slice none 0 0, .slice none 0 0] 26)).alloc (.cells #[.slice none 0 0, .slice none 0 0] 26)).alloc (.cells #[.slice none 0 0, .slice none 0 0] 26)) = W3 at *
    go_loopw [0, 7] (fun sv0 nv wr => ∃ (t' : List UInt8) (n : Nat) (sv av : Value) (ss : List (List UInt8)) (ps : List (ActR × Value)), sv0 = .string (bs t') ∧ nv = .int .i64 n ∧ t'.length ≤ 8192 ∧ n + t'.length ≤ 8200 ∧ parseR t = parseL t'.length (n + 1) ⟨ss, ps.map (·.1)⟩ t' ∧ GSt (w.heap.size + 2) wr (w.heap.size + 2) sv av ss ps ∧ ss.length ≤ 8 ∧ ps.length ≤ 12 ∧ Chg (fun k => w.heap.size + 2 ≤ k) W3 wr) (fun sv0 _ _ => lenV sv0)
    case atStart => exact ⟨t, 0, _, _, [], [], rfl, rfl, H81.out, by have := H81.out; omega, HR.out, HGS.out, by simp, by simp, Chg.refl _ _⟩
    case round =>
      obtain ⟨t', n, sv, av, ss, ps, rfl, rfl, ht', hnt, hpr, hg, h8, h12, hch⟩ := hrel
      obtain ⟨oa, ca, rfl⟩ := own_form hg.so
      obtain ⟨ob, cb, rfl⟩ := own_form hg.ao
      have hR := hch.obj HR0.out (by show ¬ w.heap.size + 2 ≤ w.heap.size; omega)
      have hN := hch.obj HN0.out (by show ¬ w.heap.size + 2 ≤ w.heap.size + 1; omega)
      have hfar : Chg (fun _ => False) w wr := HC3.out.trans hch (fun i hi h => by omega)
      have e0c := cell_of hg.blk 0
      have e1c := cell_of hg.blk 1
      have r0 := cell_of hR 0
      have r1 := cell_of hR 1
      have f0 := frozen_of hR 0
      have f1 := frozen_of hR 1
      have m0 := cell_of hN 0
      have m1 := cell_of hN 1
      simp at e0c e1c r0 r1 m0 m1
      have hsz' := bs_size t'
      have HPR := hid hpr
      have HG := hid hg
      have HRB := hid hR
      have HNB := hid hN
      have HFAR := hid hfar
      have HCH := hid hch
      have HGLT := hid hg.lt
      have H8 := hid h8
      have H12 := hid h12
      clear hpr hg hR hN hfar hch
      by_cases he : t' = []
      · subst he
        have e0 : (bs []).toList.isEmpty = true := by rw [ba_isEmpty]; rfl
        have XS := res2 HRB.out (.slice oa ss.length ca) (.slice ob ps.length cb)
        have x0 := XS.1
        have x1 := XS.2.1
        have x2 := XS.2.2
        go_wp2_with fail
        refine bodyPost_ret (v := .tuple #[.agg #[.slice oa ss.length ca, .slice ob ps.length cb], .int .i64 0, .int .i64 0]) (by simp [results, Tryd.results11, go_sem, x0, x1] <;> rfl) rfl ⟨?_, ?_⟩
        · exact (HFAR.out.setCell (p := ⟨w.heap.size, 0, none⟩) (fun h => absurd h (Nat.lt_irrefl _)) _).setCell (p := ⟨w.heap.size, 1, none⟩) (fun h => absurd h (Nat.lt_irrefl _)) _
        · rw [HPR.out, parseL_nil]
          refine ⟨_, rfl, ?_⟩
          exact HG.out.gr (F := fun k => k = w.heap.size) (((Chg.refl (fun k => k = w.heap.size) wr).setCell (p := ⟨w.heap.size, 0, none⟩) (fun _ => rfl) _).setCell (p := ⟨w.heap.size, 1, none⟩) (fun _ => rfl) _) (fun k hk e => by omega) ⟨H8.out, H12.out⟩
      · have e0 : (bs t').toList.isEmpty = false := by rw [ba_isEmpty, hsz']; simpa using he
        obtain ⟨L, hL⟩ : ∃ L, L = (cutC 10 t').1.length := ⟨_, rfl⟩
        have hget := fun i => cut_get 10 t' i
        rw [← hL] at hget
        have HGET := hid hget
        have HL := hid hL
        have HE := hid he
        have hget2 : ∀ i (h : i < t'.length) (h' : i < (bs t').size), (bs t')[i]'h' = t'[i] := fun i h h' => rfl
        have HG2 := hid hget2
        clear hget hL he hget2
        go_wp2_with fail
        go_loop [8] (fun iv => ∃ i : Nat, iv = .int .i64 (i : Nat) ∧ i ≤ L) (fun iv => L - (intOf iv).toNat)
        case atStart => exact ⟨0, rfl, Nat.zero_le _⟩
        case round =>
          obtain ⟨i, rfl, hiL⟩ := hrel
          by_cases hi : i < L
          · obtain ⟨hil, hne⟩ := HGET.out i hi
            obtain ⟨x, hx⟩ : ∃ x, (bs t')[i]'(by rw [hsz']; exact hil) = x := ⟨_, rfl⟩
            have hx2 : t'[i] = x := by rw [← hx, HG2.out _ hil] <;> rfl
            have hil' : (i : Int) < t'.length := by omega
            have b2 : ((x.toNat : Int) == 10) = false := by
              have : ¬ (x.toNat : Int) = 10 := by
                intro e; rw [hx2] at hne; exact hne (UInt8.toNat_inj.1 (by show x.toNat = 10; omega))
              simpa using this
            have b3 : (!((x.toNat : Int) == 10)) = true := by rw [b2]; rfl
            clear hne hx2
            go_wp2_with fail
            go_round
            case rel => exact ⟨i + 1, by go_num, by omega⟩
            case measure => simp [intOf] <;> omega
          · obtain rfl : i = L := by omega
            cases hcc : (cutC 10 t').2.2 with
            | false =>
              have hno := cut_no 10 t' hcc
              rw [← HL.out] at hno
              have hbad := parseL_noline t'.length (n + 1) ⟨ss, ps.map (·.1)⟩ t' HE.out hcc
              rw [← HPR.out] at hbad
              have HBAD := hid hbad
              have b0 : ¬ (i : Int) < (t'.length : Int) := by omega
              have b0d : decide ((i : Int) < (t'.length : Int)) = false := decide_eq_false b0
              have b1 : ((i : Int) == (t'.length : Int)) = true := by simpa using (show (i : Int) = t'.length by omega)
              have i0 : wr.setCell ⟨w.heap.size, 0, none⟩ (.slice none 0 0) = wr := setCell_id HRB.out rfl
              have i1 : wr.setCell ⟨w.heap.size, 1, none⟩ (.slice none 0 0) = wr := setCell_id HRB.out rfl
              clear hbad hcc hno
              go_wp2_with fail
              refine bodyPost_ret (v := .tuple #[.agg #[.slice none 0 0, .slice none 0 0], .int .i64 (n + 1), .int .i64 3]) (by simp [results, Tryd.results11, go_sem, r0, r1] <;> rfl) rfl ⟨HFAR.out, ?_⟩
              rw [HBAD.out]
              exact ⟨_, rfl, noGr_at _⟩
            | true =>
              obtain ⟨hil, hat⟩ := cut_end 10 t' hcc
              obtain ⟨hc1, hc2⟩ := cut_take 10 t' hcc
              have hlt2 := cutC_lt 10 t' hcc
              have hlt1 : (cutC 10 t').1.length ≤ 8192 := by omega
              obtain ⟨f, hf⟩ : ∃ f, t'.length = f + 1 := ⟨t'.length - 1, by have := List.length_pos_iff.2 HE.out; omega⟩
              have hbadf := fun h => parseL_bad f (n + 1) ⟨ss, ps.map (·.1)⟩ t' HE.out hcc h
              have hstepf := fun g' h => parseL_step f (n + 1) ⟨ss, ps.map (·.1)⟩ g' t' HE.out hcc h
              rw [← hf, ← HPR.out] at hbadf hstepf
              have hw := fun W => rwords_any (cutC 10 t').1 hlt1 W
              have hex1 := extract_bs t' 0 (cutC 10 t').1.length
              have hex2 := extract_bs t' ((cutC 10 t').1.length + 1) t'.length
              rw [List.drop_zero, Nat.sub_zero, ← hc1] at hex1
              rw [← hc2, List.take_of_length_le (by have := congrArg List.length hc2; simp at this; omega)] at hex2
              have hwl : (splitC 32 (cutC 10 t').1).length ≤ 100000 := by have := splitC_len 32 (cutC 10 t').1; omega
              have hwe : ∀ x ∈ splitC 32 (cutC 10 t').1, x.length ≤ 100000 := fun x hx => by have := splitC_mem 32 (cutC 10 t').1 x hx; omega
              have hw0 : 0 < (splitC 32 (cutC 10 t').1).length := List.length_pos_iff.2 (splitC_ne 32 _)
              rw [← HL.out] at hil hex1 hex2
              simp only [← HL.out] at hat
              obtain ⟨ws, hws⟩ : ∃ ws, ws = splitC 32 (cutC 10 t').1 := ⟨_, rfl⟩
              rw [← hws] at hw hwl hwe hw0 hbadf hstepf
              obtain ⟨T2, hT2⟩ : ∃ T2, T2 = (cutC 10 t').2.1 := ⟨_, rfl⟩
              rw [← hT2] at hlt2 hstepf hex2
              have hwords : ∀ W, Calls Tryd.prog 21 #[.string ((bs t').extract 0 i)] W (WordsPost W ws) := fun W => by rw [hex1]; exact hw W
              have hract : ∀ (g c : Nat) (W : World), ws.length ≤ c → (∀ i (h : i < ws.length), W.cell? ⟨g, i, none⟩ = some (.string (bs ws[i]))) → Calls Tryd.prog 22 #[.slice (some ⟨g, 0, none⟩) ws.length c] W (RAct (actionL ws) W) := fun g c W h1 h2 => ract_any ws hwl hwe g c W h1 h2
              obtain ⟨x, hx⟩ : ∃ x, (bs t')[i]'(by rw [hsz']; exact hil) = x := ⟨_, rfl⟩
              have hx2 : t'[i] = x := by rw [← hx, HG2.out _ hil] <;> rfl
              have b2 : ((x.toNat : Int) == 10) = true := by rw [← hx2, hat]; rfl
              have b3 : (!((x.toNat : Int) == 10)) = false := by rw [b2]; rfl
              have hil' : (i : Int) < t'.length := by omega
              have hil2 : (i : Int) ≤ t'.length := by omega
              have hil3 : (i : Int) + 1 ≤ t'.length := by omega
              have b1 : ((i : Int) == (t'.length : Int)) = false := by simpa using (show ¬ (i : Int) = t'.length by omega)
              have HWE := hid hwe
              have HRA := hid hract
              have HBF := hid hbadf
              have HSF := hid hstepf
              have HX2 := hid hex2
              have HLT2 := hid hlt2
              have HF := hid hf
              clear hw hex1 hex2 hcc hc1 hc2 hwe hract hbadf hstepf hx2 hat hws hT2 hf hlt2 hlt1
              obtain ⟨x0, hx0⟩ : ∃ x0, x0 = bs (ws[0]'hw0) := ⟨_, rfl⟩
              have HX0 := hid hx0
              clear hx0
              by_cases h2 : ws.length = 2
              · have hw1 : 1 < ws.length := by omega
                have bl : ((ws.length : Int) == 2) = true := by simpa using (show (ws.length : Int) = 2 by omega)
                have hno : actionL ws = none := act_short ws (by omega)
                have HNO := hid hno
                obtain ⟨y0w, y1w, e⟩ := list_two h2
                have hx1w : (ws[1]'hw1).length ≤ 100000 := HWE.out _ (List.getElem_mem hw1)
                obtain ⟨x1, hx1⟩ : ∃ x1, x1 = bs (ws[1]'hw1) := ⟨_, rfl⟩
                obtain ⟨B1, hB1⟩ : ∃ B1, nameL (ws[1]'hw1) = B1 := ⟨_, rfl⟩
                have hn1 := name_bs _ hx1w B1 hB1
                rw [← hx1] at hn1
                have hrd : readL ⟨ss, ps.map (·.1)⟩ ws = if ws[0]'hw0 = wSource then (if nameL (ws[1]'hw1) = true ∧ ps.map (·.1) = [] ∧ ss.length < 8 then some ⟨ss ++ [ws[1]'hw1], ps.map (·.1)⟩ else none) else none := by
                  subst e
                  by_cases es : y0w = wSource
                  · subst es
                    rw [readL_src2]
                    rfl
                  · rw [readL_act2 _ _ _ (by rintro ⟨_, h⟩; exact es h), hno]
                    exact (if_neg es).symm
                have HRD := hid hrd
                have HX1 := hid hx1
                have HB1 := hid hB1
                have HX1W := hid hx1w
                have hdec : ((bs (ws[0]'hw0)).toList == [115, 111, 117, 114, 99, 101]) = decide (ws[0]'hw0 = wSource) := by rw [Lib.toList_data, bs_data, beq_dec]; rfl
                have hlwI : (1 : Int) < (ws.length : Int) := by omega
                have hlwJ : (0 : Int) < (ws.length : Int) := by omega
                clear e hrd hx1 hB1 hno hx1w h2
                by_cases es : ws[0]'hw0 = wSource
                · have t0 : (x0.toList == [115, 111, 117, 114, 99, 101]) = true := by rw [HX0.out, hdec]; exact decide_eq_true es
                  have HRD2 : Hid (readL ⟨ss, ps.map (·.1)⟩ ws = (if nameL (ws[1]'hw1) = true ∧ ps.map (·.1) = [] ∧ ss.length < 8 then some ⟨ss ++ [ws[1]'hw1], ps.map (·.1)⟩ else none)) := HRD.out.trans (if_pos es)
                  clear hdec es
                  cases B1 with
                  | false =>
                    have HBAD := hid (HBF.out (HRD2.out.trans (if_neg (fun h => by have := HB1.out; rw [h.1] at this; cases this))))
                    rw [HNO.out] at HRA
                    go_wp2_with (first | (go_at_call 21; refine (hwords _).mono ?_; rintro e w4 ⟨gw, cw, rfl, hcw, hgw, hgl, hcl, hc4⟩; have hg4 := HG.out.keep hc4; have c0 := cell_of hg4.blk 0; have c1 := cell_of hg4.blk 1; have fz0 := frozen_of hg4.blk 0; have fz1 := frozen_of hg4.blk 1; have z0 := hcl 0 hw0; rw [← HX0.out] at z0; have z1 := hcl 1 hw1; rw [← HX1.out] at z1; have HGW := hid hgw; have HGL := hid hgl; have HCL := hid hcl; have HC4 := hid hc4; have HG4 := hid hg4; have HCW := hid hcw; simp at c0 c1; clear hgw hgl hcl hc4 hg4) | (go_at_call 18; refine (hn1 _).mono ?_; rintro e w9 ⟨rfl, rfl⟩) | (go_at_call 22; refine (HRA.out _ _ _ HCW.out HCL.out).mono ?_; rintro e w5 hp5; obtain ⟨hc5, s3, oa3, n3, cc3, cd3, rfl, hf3⟩ := ract_form hp5; clear hp5; have HC5 := hid hc5; have HF3 := hid hf3; have k5N := hc5.obj (HC4.out.obj HNB.out (fun h => h)) (fun h => h); have k5R := hc5.obj (HC4.out.obj HRB.out (fun h => h)) (fun h => h); have HN5 := hid (heap_alloc_old' k5N (.cells #[.string s3, .slice oa3 n3 cc3, .string cd3] 42)); have HR5 := hid (heap_alloc_old' k5R (.cells #[.string s3, .slice oa3 n3 cc3, .string cd3] 42)); have n0 := cell_of HN5.out 0; have n1 := cell_of HN5.out 1; have y0 := cell_of HR5.out 0; have y1 := cell_of HR5.out 1; have g0 := frozen_of HR5.out 0; have g1 := frozen_of HR5.out 1; have hg6 := (HG4.out.keep HC5.out).keep ((Chg.refl _ w5).alloc (.cells #[.string s3, .slice oa3 n3 cc3, .string cd3] 42)); have HG6 := hid hg6; have d0 := cell_of hg6.blk 0; have d1 := cell_of hg6.blk 1; have i0 : (w5.alloc (.cells #[.string s3, .slice oa3 n3 cc3, .string cd3] 42)).setCell ⟨w.heap.size, 0, none⟩ (.slice none 0 0) = (w5.alloc (.cells #[.string s3, .slice oa3 n3 cc3, .string cd3] 42)) := setCell_id HR5.out rfl; have i1 : (w5.alloc (.cells #[.string s3, .slice oa3 n3 cc3, .string cd3] 42)).setCell ⟨w.heap.size, 1, none⟩ (.slice none 0 0) = (w5.alloc (.cells #[.string s3, .slice oa3 n3 cc3, .string cd3] 42)) := setCell_id HR5.out rfl; simp at n0 n1 y0 y1 d0 d1; clear hc5 hf3 k5N k5R hg6))
                    refine bodyPost_ret (v := .tuple #[.agg #[.slice none 0 0, .slice none 0 0], .int .i64 (n + 1), .int .i64 24]) (by simp [results, Tryd.results11, go_sem, y0, y1] <;> rfl) rfl ⟨(((HFAR.out.trans HC4.out (fun _ _ h => h)).trans HC5.out (fun _ _ h => h)).alloc _), ?_⟩
                    rw [HBAD.out]
                    exact ⟨_, rfl, noGr_at _⟩
                  | true =>
                    by_cases hp : ps.length = 0
                    · have hpi : ((ps.length : Int) == 0) = true := by simpa using (show (ps.length : Int) = 0 by omega)
                      by_cases hs8 : ss.length < 8
                      · have hs8' : (ss.length : Int) < 8 := by omega
                        have hp' : ps = [] := List.length_eq_zero_iff.1 hp
                        have HST := hid (HSF.out _ (HRD2.out.trans (if_pos ⟨HB1.out, by rw [hp']; rfl, hs8⟩)))
                        have HP := hid hp'
                        clear hp'
                        go_wp2_with (first | (go_at_call 21; refine (hwords _).mono ?_; rintro e w4 ⟨gw, cw, rfl, hcw, hgw, hgl, hcl, hc4⟩; have hg4 := HG.out.keep hc4; have c0 := cell_of hg4.blk 0; have c1 := cell_of hg4.blk 1; have fz0 := frozen_of hg4.blk 0; have fz1 := frozen_of hg4.blk 1; have z0 := hcl 0 hw0; rw [← HX0.out] at z0; have z1 := hcl 1 hw1; rw [← HX1.out] at z1; have HGW := hid hgw; have HGL := hid hgl; have HCL := hid hcl; have HC4 := hid hc4; have HG4 := hid hg4; have HCW := hid hcw; simp at c0 c1; clear hgw hgl hcl hc4 hg4) | (go_at_call 18; refine (hn1 _).mono ?_; rintro e w9 ⟨rfl, rfl⟩))
                        have c0a : ((w4.alloc (.cells #[.string x1] 9)).drew).cell? ⟨w.heap.size + 2, 0, none⟩ = some (.slice oa ss.length ca) := cell_alloc' c0 _
                        have c0b : (w4.alloc (.cells #[.string x1] 9)).cell? ⟨w.heap.size + 2, 0, none⟩ = some (.slice oa ss.length ca) := cell_alloc' c0 _
                        go_region_law (refine step_append_new rfl _ _ 23 rfl elStr HG4.out.so rfl _ 1 1 rfl rfl rfl (by unfold maxLen; omega) (by omega) (by decide) ?_; intro g2 cap2 w5 hown5 hch5 hg5; have hblk5 := hch5.obj HG4.out.blk (fun e => HG4.out.sg e); have e9 := cell_of hblk5 0; have f9 := frozen_of hblk5 0; simp at e9)
                        all_goals
                          rw [HX1.out] at hown5
                          have hbz : w.heap.size + 2 ≤ w4.heap.size := by have := HGLT.out; have := HC4.out.size; omega
                          have h5 := GSt.putS HG4.out hbz HX1W.out hch5 hown5 rfl hg5
                          have hc5 : Chg (fun k => w.heap.size + 2 ≤ k) W3 (w5.setCell ⟨w.heap.size + 2, 0, none⟩ (.slice (some ⟨g2, 0, none⟩) (ss.length + 1) cap2)) := ((HCH.out.trans HC4.out (fun i hi e => e.elim)).trans hch5 (fun i hi e => HG4.out.bsv i e)).setCell (p := ⟨w.heap.size + 2, 0, none⟩) (fun _ => HG4.out.bg) _
                          have HC5 := hid hc5
                          have HH5 := hid h5
                          clear hc5 h5 hown5 hch5 hg5 hblk5 e9 f9 c0a c0b hbz
                          generalize w5.setCell ⟨w.heap.size + 2, 0, none⟩ (.slice (some ⟨g2, 0, none⟩) (ss.length + 1) cap2) = W5 at *
                          go_wp2_with fail
                          go_roundw
                          case rel =>
                            refine ⟨T2, n + 1, _, _, ss ++ [ws[1]'hw1], ps, by rw [HX2.out], by go_num, by have := HLT2.out; omega, by have := HLT2.out; omega, ?_, HH5.out, by simp; omega, by rw [HP.out]; simp, HC5.out⟩
                            rw [HST.out, parseL_fuel f T2.length _ _ _ (by have := HLT2.out; have := HF.out; omega) (Nat.le_refl _)]
                          case measure =>
                            have e1 : lenV (.string (bs T2)) = T2.length := bs_size _
                            have e2 : lenV (.string (bs t')) = t'.length := bs_size _
                            have := HLT2.out
                            have := HX2.out
                            simp [e1, e2, this]; omega
                      · have hs8' : ¬ (ss.length : Int) < 8 := by omega
                        have d8 : decide ((ss.length : Int) < 8) = false := decide_eq_false hs8'
                        have HBAD := hid (HBF.out (HRD2.out.trans (if_neg (fun h => hs8 h.2.2))))
                        rw [HNO.out] at HRA
                        go_wp2_with (first | (go_at_call 21; refine (hwords _).mono ?_; rintro e w4 ⟨gw, cw, rfl, hcw, hgw, hgl, hcl, hc4⟩; have hg4 := HG.out.keep hc4; have c0 := cell_of hg4.blk 0; have c1 := cell_of hg4.blk 1; have fz0 := frozen_of hg4.blk 0; have fz1 := frozen_of hg4.blk 1; have z0 := hcl 0 hw0; rw [← HX0.out] at z0; have z1 := hcl 1 hw1; rw [← HX1.out] at z1; have HGW := hid hgw; have HGL := hid hgl; have HCL := hid hcl; have HC4 := hid hc4; have HG4 := hid hg4; have HCW := hid hcw; simp at c0 c1; clear hgw hgl hcl hc4 hg4) | (go_at_call 18; refine (hn1 _).mono ?_; rintro e w9 ⟨rfl, rfl⟩) | (go_at_call 22; refine (HRA.out _ _ _ HCW.out HCL.out).mono ?_; rintro e w5 hp5; obtain ⟨hc5, s3, oa3, n3, cc3, cd3, rfl, hf3⟩ := ract_form hp5; clear hp5; have HC5 := hid hc5; have HF3 := hid hf3; have k5N := hc5.obj (HC4.out.obj HNB.out (fun h => h)) (fun h => h); have k5R := hc5.obj (HC4.out.obj HRB.out (fun h => h)) (fun h => h); have HN5 := hid (heap_alloc_old' k5N (.cells #[.string s3, .slice oa3 n3 cc3, .string cd3] 42)); have HR5 := hid (heap_alloc_old' k5R (.cells #[.string s3, .slice oa3 n3 cc3, .string cd3] 42)); have n0 := cell_of HN5.out 0; have n1 := cell_of HN5.out 1; have y0 := cell_of HR5.out 0; have y1 := cell_of HR5.out 1; have g0 := frozen_of HR5.out 0; have g1 := frozen_of HR5.out 1; have hg6 := (HG4.out.keep HC5.out).keep ((Chg.refl _ w5).alloc (.cells #[.string s3, .slice oa3 n3 cc3, .string cd3] 42)); have HG6 := hid hg6; have d0 := cell_of hg6.blk 0; have d1 := cell_of hg6.blk 1; have i0 : (w5.alloc (.cells #[.string s3, .slice oa3 n3 cc3, .string cd3] 42)).setCell ⟨w.heap.size, 0, none⟩ (.slice none 0 0) = (w5.alloc (.cells #[.string s3, .slice oa3 n3 cc3, .string cd3] 42)) := setCell_id HR5.out rfl; have i1 : (w5.alloc (.cells #[.string s3, .slice oa3 n3 cc3, .string cd3] 42)).setCell ⟨w.heap.size, 1, none⟩ (.slice none 0 0) = (w5.alloc (.cells #[.string s3, .slice oa3 n3 cc3, .string cd3] 42)) := setCell_id HR5.out rfl; simp at n0 n1 y0 y1 d0 d1; clear hc5 hf3 k5N k5R hg6))
                        refine bodyPost_ret (v := .tuple #[.agg #[.slice none 0 0, .slice none 0 0], .int .i64 (n + 1), .int .i64 24]) (by simp [results, Tryd.results11, go_sem, y0, y1] <;> rfl) rfl ⟨(((HFAR.out.trans HC4.out (fun _ _ h => h)).trans HC5.out (fun _ _ h => h)).alloc _), ?_⟩
                        rw [HBAD.out]
                        exact ⟨_, rfl, noGr_at _⟩
                    · have hpi : ((ps.length : Int) == 0) = false := by simpa using (show ¬ (ps.length : Int) = 0 by omega)
                      have HBAD := hid (HBF.out (HRD2.out.trans (if_neg (fun h => hp (by have := congrArg List.length h.2.1; simpa using this)))))
                      rw [HNO.out] at HRA
                      go_wp2_with (first | (go_at_call 21; refine (hwords _).mono ?_; rintro e w4 ⟨gw, cw, rfl, hcw, hgw, hgl, hcl, hc4⟩; have hg4 := HG.out.keep hc4; have c0 := cell_of hg4.blk 0; have c1 := cell_of hg4.blk 1; have fz0 := frozen_of hg4.blk 0; have fz1 := frozen_of hg4.blk 1; have z0 := hcl 0 hw0; rw [← HX0.out] at z0; have z1 := hcl 1 hw1; rw [← HX1.out] at z1; have HGW := hid hgw; have HGL := hid hgl; have HCL := hid hcl; have HC4 := hid hc4; have HG4 := hid hg4; have HCW := hid hcw; simp at c0 c1; clear hgw hgl hcl hc4 hg4) | (go_at_call 18; refine (hn1 _).mono ?_; rintro e w9 ⟨rfl, rfl⟩) | (go_at_call 22; refine (HRA.out _ _ _ HCW.out HCL.out).mono ?_; rintro e w5 hp5; obtain ⟨hc5, s3, oa3, n3, cc3, cd3, rfl, hf3⟩ := ract_form hp5; clear hp5; have HC5 := hid hc5; have HF3 := hid hf3; have k5N := hc5.obj (HC4.out.obj HNB.out (fun h => h)) (fun h => h); have k5R := hc5.obj (HC4.out.obj HRB.out (fun h => h)) (fun h => h); have HN5 := hid (heap_alloc_old' k5N (.cells #[.string s3, .slice oa3 n3 cc3, .string cd3] 42)); have HR5 := hid (heap_alloc_old' k5R (.cells #[.string s3, .slice oa3 n3 cc3, .string cd3] 42)); have n0 := cell_of HN5.out 0; have n1 := cell_of HN5.out 1; have y0 := cell_of HR5.out 0; have y1 := cell_of HR5.out 1; have g0 := frozen_of HR5.out 0; have g1 := frozen_of HR5.out 1; have hg6 := (HG4.out.keep HC5.out).keep ((Chg.refl _ w5).alloc (.cells #[.string s3, .slice oa3 n3 cc3, .string cd3] 42)); have HG6 := hid hg6; have d0 := cell_of hg6.blk 0; have d1 := cell_of hg6.blk 1; have i0 : (w5.alloc (.cells #[.string s3, .slice oa3 n3 cc3, .string cd3] 42)).setCell ⟨w.heap.size, 0, none⟩ (.slice none 0 0) = (w5.alloc (.cells #[.string s3, .slice oa3 n3 cc3, .string cd3] 42)) := setCell_id HR5.out rfl; have i1 : (w5.alloc (.cells #[.string s3, .slice oa3 n3 cc3, .string cd3] 42)).setCell ⟨w.heap.size, 1, none⟩ (.slice none 0 0) = (w5.alloc (.cells #[.string s3, .slice oa3 n3 cc3, .string cd3] 42)) := setCell_id HR5.out rfl; simp at n0 n1 y0 y1 d0 d1; clear hc5 hf3 k5N k5R hg6))
                      refine bodyPost_ret (v := .tuple #[.agg #[.slice none 0 0, .slice none 0 0], .int .i64 (n + 1), .int .i64 24]) (by simp [results, Tryd.results11, go_sem, y0, y1] <;> rfl) rfl ⟨(((HFAR.out.trans HC4.out (fun _ _ h => h)).trans HC5.out (fun _ _ h => h)).alloc _), ?_⟩
                      rw [HBAD.out]
                      exact ⟨_, rfl, noGr_at _⟩
                · have t0 : (x0.toList == [115, 111, 117, 114, 99, 101]) = false := by rw [HX0.out, hdec]; exact decide_eq_false es
                  have HBAD := hid (HBF.out (HRD.out.trans (if_neg es)))
                  rw [HNO.out] at HRA
                  clear hdec es
                  go_wp2_with (first | (go_at_call 21; refine (hwords _).mono ?_; rintro e w4 ⟨gw, cw, rfl, hcw, hgw, hgl, hcl, hc4⟩; have hg4 := HG.out.keep hc4; have c0 := cell_of hg4.blk 0; have c1 := cell_of hg4.blk 1; have fz0 := frozen_of hg4.blk 0; have fz1 := frozen_of hg4.blk 1; have z0 := hcl 0 hw0; rw [← HX0.out] at z0; have HGW := hid hgw; have HGL := hid hgl; have HCL := hid hcl; have HC4 := hid hc4; have HG4 := hid hg4; have HCW := hid hcw; simp at c0 c1; clear hgw hgl hcl hc4 hg4) | (go_at_call 22; refine (HRA.out _ _ _ HCW.out HCL.out).mono ?_; rintro e w5 hp5; obtain ⟨hc5, s3, oa3, n3, cc3, cd3, rfl, hf3⟩ := ract_form hp5; clear hp5; have HC5 := hid hc5; have HF3 := hid hf3; have k5N := hc5.obj (HC4.out.obj HNB.out (fun h => h)) (fun h => h); have k5R := hc5.obj (HC4.out.obj HRB.out (fun h => h)) (fun h => h); have HN5 := hid (heap_alloc_old' k5N (.cells #[.string s3, .slice oa3 n3 cc3, .string cd3] 42)); have HR5 := hid (heap_alloc_old' k5R (.cells #[.string s3, .slice oa3 n3 cc3, .string cd3] 42)); have n0 := cell_of HN5.out 0; have n1 := cell_of HN5.out 1; have y0 := cell_of HR5.out 0; have y1 := cell_of HR5.out 1; have g0 := frozen_of HR5.out 0; have g1 := frozen_of HR5.out 1; have hg6 := (HG4.out.keep HC5.out).keep ((Chg.refl _ w5).alloc (.cells #[.string s3, .slice oa3 n3 cc3, .string cd3] 42)); have HG6 := hid hg6; have d0 := cell_of hg6.blk 0; have d1 := cell_of hg6.blk 1; have i0 : (w5.alloc (.cells #[.string s3, .slice oa3 n3 cc3, .string cd3] 42)).setCell ⟨w.heap.size, 0, none⟩ (.slice none 0 0) = (w5.alloc (.cells #[.string s3, .slice oa3 n3 cc3, .string cd3] 42)) := setCell_id HR5.out rfl; have i1 : (w5.alloc (.cells #[.string s3, .slice oa3 n3 cc3, .string cd3] 42)).setCell ⟨w.heap.size, 1, none⟩ (.slice none 0 0) = (w5.alloc (.cells #[.string s3, .slice oa3 n3 cc3, .string cd3] 42)) := setCell_id HR5.out rfl; simp at n0 n1 y0 y1 d0 d1; clear hc5 hf3 k5N k5R hg6))
                  refine bodyPost_ret (v := .tuple #[.agg #[.slice none 0 0, .slice none 0 0], .int .i64 (n + 1), .int .i64 24]) (by simp [results, Tryd.results11, go_sem, y0, y1] <;> rfl) rfl ⟨(((HFAR.out.trans HC4.out (fun _ _ h => h)).trans HC5.out (fun _ _ h => h)).alloc _), ?_⟩
                  rw [HBAD.out]
                  exact ⟨_, rfl, noGr_at _⟩
              · have bl : ((ws.length : Int) == 2) = false := by simpa using (show ¬ (ws.length : Int) = 2 by omega)
                have hrd := readL_act2 ss (ps.map (·.1)) ws (fun h => h2 h.1)
                have HRD := hid hrd
                clear hrd
                cases hact : actionL ws with
                | none =>
                  have HBAD := hid (HBF.out (by rw [HRD.out, hact]))
                  rw [hact] at HRA
                  clear hact
                  go_wp2_with (first | (go_at_call 21; refine (hwords _).mono ?_; rintro e w4 ⟨gw, cw, rfl, hcw, hgw, hgl, hcl, hc4⟩; have hg4 := HG.out.keep hc4; have c0 := cell_of hg4.blk 0; have c1 := cell_of hg4.blk 1; have fz0 := frozen_of hg4.blk 0; have fz1 := frozen_of hg4.blk 1; have z0 := hcl 0 hw0; rw [← HX0.out] at z0; have HGW := hid hgw; have HGL := hid hgl; have HCL := hid hcl; have HC4 := hid hc4; have HG4 := hid hg4; have HCW := hid hcw; simp at c0 c1; clear hgw hgl hcl hc4 hg4) | (go_at_call 22; refine (HRA.out _ _ _ HCW.out HCL.out).mono ?_; rintro e w5 hp5; obtain ⟨hc5, s3, oa3, n3, cc3, cd3, rfl, hf3⟩ := ract_form hp5; clear hp5; have HC5 := hid hc5; have HF3 := hid hf3; have k5N := hc5.obj (HC4.out.obj HNB.out (fun h => h)) (fun h => h); have k5R := hc5.obj (HC4.out.obj HRB.out (fun h => h)) (fun h => h); have HN5 := hid (heap_alloc_old' k5N (.cells #[.string s3, .slice oa3 n3 cc3, .string cd3] 42)); have HR5 := hid (heap_alloc_old' k5R (.cells #[.string s3, .slice oa3 n3 cc3, .string cd3] 42)); have n0 := cell_of HN5.out 0; have n1 := cell_of HN5.out 1; have y0 := cell_of HR5.out 0; have y1 := cell_of HR5.out 1; have g0 := frozen_of HR5.out 0; have g1 := frozen_of HR5.out 1; have hg6 := (HG4.out.keep HC5.out).keep ((Chg.refl _ w5).alloc (.cells #[.string s3, .slice oa3 n3 cc3, .string cd3] 42)); have HG6 := hid hg6; have d0 := cell_of hg6.blk 0; have d1 := cell_of hg6.blk 1; have i0 : (w5.alloc (.cells #[.string s3, .slice oa3 n3 cc3, .string cd3] 42)).setCell ⟨w.heap.size, 0, none⟩ (.slice none 0 0) = (w5.alloc (.cells #[.string s3, .slice oa3 n3 cc3, .string cd3] 42)) := setCell_id HR5.out rfl; have i1 : (w5.alloc (.cells #[.string s3, .slice oa3 n3 cc3, .string cd3] 42)).setCell ⟨w.heap.size, 1, none⟩ (.slice none 0 0) = (w5.alloc (.cells #[.string s3, .slice oa3 n3 cc3, .string cd3] 42)) := setCell_id HR5.out rfl; simp at n0 n1 y0 y1 d0 d1; clear hc5 hf3 k5N k5R hg6))
                  refine bodyPost_ret (v := .tuple #[.agg #[.slice none 0 0, .slice none 0 0], .int .i64 (n + 1), .int .i64 24]) (by simp [results, Tryd.results11, go_sem, y0, y1] <;> rfl) rfl ⟨(((HFAR.out.trans HC4.out (fun _ _ h => h)).trans HC5.out (fun _ _ h => h)).alloc _), ?_⟩
                  rw [HBAD.out]
                  exact ⟨_, rfl, noGr_at _⟩
                | some a =>
                  rw [hact] at HRA
                  by_cases h12' : ps.length < 12
                  · have d12 : ¬ (12 : Int) ≤ (ps.length : Int) := by omega
                    have d12d : decide ((12 : Int) ≤ (ps.length : Int)) = false := decide_eq_false d12
                    have HST := hid (HSF.out ⟨ss, ps.map (·.1) ++ [a]⟩ (by rw [HRD.out, hact]; exact if_pos (by simpa using h12')))
                    have HOKA := hid ((actOK_iff a).1 (ws_actionL ws a hact).2)
                    clear hact
                    go_wp2_with (first | (go_at_call 21; refine (hwords _).mono ?_; rintro e w4 ⟨gw, cw, rfl, hcw, hgw, hgl, hcl, hc4⟩; have hg4 := HG.out.keep hc4; have c0 := cell_of hg4.blk 0; have c1 := cell_of hg4.blk 1; have fz0 := frozen_of hg4.blk 0; have fz1 := frozen_of hg4.blk 1; have z0 := hcl 0 hw0; rw [← HX0.out] at z0; have HGW := hid hgw; have HGL := hid hgl; have HCL := hid hcl; have HC4 := hid hc4; have HG4 := hid hg4; have HCW := hid hcw; simp at c0 c1; clear hgw hgl hcl hc4 hg4) | (go_at_call 22; refine (HRA.out _ _ _ HCW.out HCL.out).mono ?_; rintro e w5 hp5; obtain ⟨hc5, s3, oa3, n3, cc3, cd3, rfl, hf3⟩ := ract_form hp5; clear hp5; have HC5 := hid hc5; have HF3 := hid hf3; have k5N := hc5.obj (HC4.out.obj HNB.out (fun h => h)) (fun h => h); have k5R := hc5.obj (HC4.out.obj HRB.out (fun h => h)) (fun h => h); have HN5 := hid (heap_alloc_old' k5N (.cells #[.string s3, .slice oa3 n3 cc3, .string cd3] 42)); have HR5 := hid (heap_alloc_old' k5R (.cells #[.string s3, .slice oa3 n3 cc3, .string cd3] 42)); have n0 := cell_of HN5.out 0; have n1 := cell_of HN5.out 1; have y0 := cell_of HR5.out 0; have y1 := cell_of HR5.out 1; have g0 := frozen_of HR5.out 0; have g1 := frozen_of HR5.out 1; have hg6 := (HG4.out.keep HC5.out).keep ((Chg.refl _ w5).alloc (.cells #[.string s3, .slice oa3 n3 cc3, .string cd3] 42)); have HG6 := hid hg6; have d0 := cell_of hg6.blk 0; have d1 := cell_of hg6.blk 1; have i0 : (w5.alloc (.cells #[.string s3, .slice oa3 n3 cc3, .string cd3] 42)).setCell ⟨w.heap.size, 0, none⟩ (.slice none 0 0) = (w5.alloc (.cells #[.string s3, .slice oa3 n3 cc3, .string cd3] 42)) := setCell_id HR5.out rfl; have i1 : (w5.alloc (.cells #[.string s3, .slice oa3 n3 cc3, .string cd3] 42)).setCell ⟨w.heap.size, 1, none⟩ (.slice none 0 0) = (w5.alloc (.cells #[.string s3, .slice oa3 n3 cc3, .string cd3] 42)) := setCell_id HR5.out rfl; simp at n0 n1 y0 y1 d0 d1; clear hc5 hf3 k5N k5R hg6) | (at_builtin; go_loud (refine wpList_append_new rfl _ _ 24 rfl elAct HG6.out.ao rfl _ 1 1 (by exact congrArg (fun k : Nat => Value.slice (some ⟨k, 0, none⟩) 1 1) (show w5.heap.size + 1 = (w5.alloc (.cells #[.string s3, .slice oa3 n3 cc3, .string cd3] 42)).heap.size by simp)) rfl rfl (by unfold maxLen; omega) (by omega) (by decide) ?_); intro g2 cap2 w7 hown7 hch7 hg7; have hblk7 := hch7.obj HG6.out.blk (fun e => HG6.out.ag e); have e9 := cell_of hblk7 1; have f9 := frozen_of hblk7 1; simp at e9))
                    have hn56 : ∀ v ns, NamesAt w5 v ns → NamesAt (w5.alloc (.cells #[.string s3, .slice oa3 n3 cc3, .string cd3] 42)) v ns := fun v ns hh => hh.chg ((Chg.refl (fun _ => False) w5).alloc _) (fun _ _ e => e)
                    have hc6 : Chg (fun k => w.heap.size + 2 ≤ k) W3 (w5.alloc (.cells #[.string s3, .slice oa3 n3 cc3, .string cd3] 42)) := ((HCH.out.trans HC4.out (fun i hi e => e.elim)).trans HC5.out (fun i hi e => e.elim)).alloc _
                    have hs6 : w.heap.size + 2 < (w5.alloc (.cells #[.string s3, .slice oa3 n3 cc3, .string cd3] 42)).heap.size := by have := HGLT.out; have := HC4.out.size; have := HC5.out.size; simp; omega
                    have hos := (fun k hk => (World.ownsRow.lt HG4.out.so k hk).2)
                    have hoa := (fun k hk => (World.ownsRow.lt HG4.out.ao k hk).2)
                    have hc7 : Chg (fun k => w.heap.size + 2 ≤ k) W3 (w7.setCell ⟨w.heap.size + 2, 1, none⟩ (.slice (some ⟨g2, 0, none⟩) (ps.length + 1) cap2)) := (hc6.trans hch7 (fun i hi e => HG6.out.bav i e)).setCell (p := ⟨w.heap.size + 2, 1, none⟩) (fun _ => HG6.out.bg) _
                    have HC7 := hid hc7
                    have HFIN : Hid (GSt (w.heap.size + 2) (w7.setCell ⟨w.heap.size + 2, 1, none⟩ (.slice (some ⟨g2, 0, none⟩) (ps.length + 1) cap2)) (w.heap.size + 2) (.slice oa ss.length ca) (.slice (some ⟨g2, 0, none⟩) (ps.length + 1) cap2) ss (ps ++ [(a, .slice oa3 n3 cc3)])) := by
                      obtain ⟨q1, q2, q3, q4, q5⟩ := HF3.out a rfl
                      have hok := HOKA.out
                      refine GSt.putA HG6.out (by omega) ⟨by have := (nameL_let hok.1).2.1; show a.name.length ≤ _; omega, by have := hok.2.2.2; show a.code.length ≤ _; omega⟩ (hn56 _ _ q4) ?_ hch7 ?_ rfl hg7
                      · intro _ k hk
                        have hk2 : w4.heap.size ≤ k := by
                          cases oa3 with
                          | none => cases hk
                          | some ad => cases hk; exact q5 ad rfl
                        have := HGLT.out
                        have := HC4.out.size
                        exact ⟨by omega, by omega, fun e => by have := hos _ e; omega, fun e => by have := hoa _ e; omega⟩
                      · rw [q1, q3] at hown7
                        exact hown7
                    clear hc7 hn56 hc6 hs6 hos hoa hown7 hch7 hg7 hblk7 e9 f9
                    go_roundw
                    case rel =>
                      refine ⟨T2, n + 1, _, _, ss, ps ++ [(a, .slice oa3 n3 cc3)], by rw [HX2.out], by go_num, by have := HLT2.out; omega, by have := HLT2.out; omega, ?_, by simpa using HFIN.out, H8.out, by simp; omega, HC7.out⟩
                      rw [HST.out, parseL_fuel f T2.length _ _ _ (by have := HLT2.out; have := HF.out; omega) (Nat.le_refl _)]
                      simp
                    case measure =>
                      have e1 : lenV (.string (bs T2)) = T2.length := bs_size _
                      have e2 : lenV (.string (bs t')) = t'.length := bs_size _
                      have := HLT2.out
                      have := HX2.out
                      simp [e1, e2, this]; omega
                  · have d12 : (12 : Int) ≤ (ps.length : Int) := by omega
                    have HBAD := hid (HBF.out (by rw [HRD.out, hact]; exact if_neg (by simpa using h12')))
                    clear hact
                    go_wp2_with (first | (go_at_call 21; refine (hwords _).mono ?_; rintro e w4 ⟨gw, cw, rfl, hcw, hgw, hgl, hcl, hc4⟩; have hg4 := HG.out.keep hc4; have c0 := cell_of hg4.blk 0; have c1 := cell_of hg4.blk 1; have fz0 := frozen_of hg4.blk 0; have fz1 := frozen_of hg4.blk 1; have z0 := hcl 0 hw0; rw [← HX0.out] at z0; have HGW := hid hgw; have HGL := hid hgl; have HCL := hid hcl; have HC4 := hid hc4; have HG4 := hid hg4; have HCW := hid hcw; simp at c0 c1; clear hgw hgl hcl hc4 hg4) | (go_at_call 22; refine (HRA.out _ _ _ HCW.out HCL.out).mono ?_; rintro e w5 hp5; obtain ⟨hc5, s3, oa3, n3, cc3, cd3, rfl, hf3⟩ := ract_form hp5; clear hp5; have HC5 := hid hc5; have HF3 := hid hf3; have k5N := hc5.obj (HC4.out.obj HNB.out (fun h => h)) (fun h => h); have k5R := hc5.obj (HC4.out.obj HRB.out (fun h => h)) (fun h => h); have HN5 := hid (heap_alloc_old' k5N (.cells #[.string s3, .slice oa3 n3 cc3, .string cd3] 42)); have HR5 := hid (heap_alloc_old' k5R (.cells #[.string s3, .slice oa3 n3 cc3, .string cd3] 42)); have n0 := cell_of HN5.out 0; have n1 := cell_of HN5.out 1; have y0 := cell_of HR5.out 0; have y1 := cell_of HR5.out 1; have g0 := frozen_of HR5.out 0; have g1 := frozen_of HR5.out 1; have hg6 := (HG4.out.keep HC5.out).keep ((Chg.refl _ w5).alloc (.cells #[.string s3, .slice oa3 n3 cc3, .string cd3] 42)); have HG6 := hid hg6; have d0 := cell_of hg6.blk 0; have d1 := cell_of hg6.blk 1; have i0 : (w5.alloc (.cells #[.string s3, .slice oa3 n3 cc3, .string cd3] 42)).setCell ⟨w.heap.size, 0, none⟩ (.slice none 0 0) = (w5.alloc (.cells #[.string s3, .slice oa3 n3 cc3, .string cd3] 42)) := setCell_id HR5.out rfl; have i1 : (w5.alloc (.cells #[.string s3, .slice oa3 n3 cc3, .string cd3] 42)).setCell ⟨w.heap.size, 1, none⟩ (.slice none 0 0) = (w5.alloc (.cells #[.string s3, .slice oa3 n3 cc3, .string cd3] 42)) := setCell_id HR5.out rfl; simp at n0 n1 y0 y1 d0 d1; clear hc5 hf3 k5N k5R hg6))
                    refine bodyPost_ret (v := .tuple #[.agg #[.slice none 0 0, .slice none 0 0], .int .i64 (n + 1), .int .i64 24]) (by simp [results, Tryd.results11, go_sem, y0, y1] <;> rfl) rfl ⟨(((HFAR.out.trans HC4.out (fun _ _ h => h)).trans HC5.out (fun _ _ h => h)).alloc _), ?_⟩
                    rw [HBAD.out]
                    exact ⟨_, rfl, noGr_at _⟩
end Go.Proofs.YtbaipdhgjalgoaaDoor
