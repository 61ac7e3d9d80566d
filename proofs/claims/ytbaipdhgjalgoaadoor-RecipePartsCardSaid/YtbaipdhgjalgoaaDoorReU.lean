/- RecipeLines walked: it returns true. -/
import Derived.Test.YtbaipdhgjalgoaaDoorReQ
namespace Go.Proofs.YtbaipdhgjalgoaaDoor
open Go.RowKit

theorem read_mark (g : GrR) (L : List UInt8) : readL g (splitC 32 (33 :: L)) = none := by
  have e : splitC 32 (33 :: L) = (33 :: (splitC 32 L).headD []) :: (splitC 32 L).tail := by
    show (if (33 : UInt8) = 32 then _ else _) = _
    rw [if_neg (by decide)]
  rw [e]
  unfold readL actionL
  rw [if_neg (by intro h; have := h.2; simp [wSource] at this), if_pos (.inr (.inl (by simp [wMake])))]
theorem lines_pure (g : GrR) (h : grOK g = true) (L : List UInt8) (h10 : (10 : UInt8) ∉ L) (hl : L.length ≤ 200) :
    parseR (textL g ++ (33 :: L) ++ [10]) = (noGr, 1 + g.srcs.length + g.acts.length, 24) ∧ parseR (textL g ++ (33 :: L)) = (noGr, 1 + g.srcs.length + g.acts.length, 3) := by
  have hn : (10 : UInt8) ∉ 33 :: L := by simp [h10]
  constructor
  · rw [List.append_assoc, parse_behind g h _ (by simp; omega)]
    have hc : cutC 10 ((33 :: L) ++ [10]) = (33 :: L, [], true) := cutC_at 10 (33 :: L) [] hn
    have hlen : ((33 :: L) ++ [10]).length = (L.length + 1) + 1 := by simp
    rw [hlen]
    exact parseL_bad _ _ _ _ (by simp) (by rw [hc]) (by rw [hc]; exact read_mark g L)
  · rw [parse_behind g h _ (by simp; omega)]
    exact parseL_noline _ _ _ _ (by simp) (by rw [cutC_none 10 _ hn])

theorem parseS_any (s : ByteArray) (hs : s.size ≤ maxLen) (w : World) (hm : MaxOK w) : Calls Tryd.prog 10 #[.string s] w (ParsePost s.data.toList w) := by
  have := parse_any s.data.toList (by rw [← Lib.size_eq]; exact hs) w hm
  rwa [bs_list] at this

set_option maxRecDepth 100000 in
set_option maxHeartbeats 4000000 in
theorem lines_any (g : GrR) (v : Value) (line : ByteArray) (hl : line.size ≤ maxLen) (w : World) (hg : GrAt w v g) (hm : MaxOK w) : Calls Tryd.prog 4 #[v, .string line] w (Rets (.bool true) (Chg (fun _ => False) w)) := by
  have hgr : ∀ W, Chg (fun _ => False) w W → Calls Tryd.prog 13 #[v] W (AnyB W) := fun W hW => great_any g v W (hg.chg hW (fun _ _ h => h))
  have hpr : ∀ W, Chg (fun _ => False) w W → Calls Tryd.prog 14 #[v] W (Rets (.tuple #[.string (bs ((printR g).getD [])), .int .i64 (if grOK g = true then 0 else 1)]) (Chg (fun _ => False) W)) := fun W hW => print_any g v W (hg.chg hW (fun _ _ h => h))
  obtain ⟨oa, c, ob, d, iv, rfl, hs, ha⟩ := hg.form
  have hC0 : Chg (fun _ => False) w (w.alloc (.cells #[.slice oa g.srcs.length c, .slice ob g.acts.length d] 26)) := (Chg.refl _ w).alloc _
  have hk0 := heap_alloc_new' w (.cells #[.slice oa g.srcs.length c, .slice ob g.acts.length d] 26)
  have haw := awake_any _ (hm.chg hC0 (fun _ _ h => h))
  have HGR := hid hgr
  have HPR := hid hpr
  have HM := hid hm
  have HK0 := hid hk0
  have HC := hid hC0
  unfold maxLen at hl
  clear hg hs ha hC0 hk0 hgr hpr hm
  go_enter Tryd.func4, Tryd.ntmps4
  go_wp2_with (first
    | (go_at_call 9
       refine haw.mono ?_
       rintro e w1 ⟨rfl, hc1⟩
       have hc := HC.out.trans hc1 (fun _ _ h => h)
       have k1 := hc1.obj HK0.out (fun h => h)
       have u0 := cell_of k1 0
       have u1 := cell_of k1 1
       simp at u0 u1
       have HK1 := hid k1
       clear HC hc1 HK0 k1 haw
       have HC := hid hc
       clear hc))
  go_wp2_with (go_at_call 13
               refine (HGR.out _ HC.out).mono ?_
               rintro e w2 ⟨B, rfl, hc2⟩
               have hc := HC.out.trans hc2 (fun _ _ h => h)
               have k1 := hc2.obj HK1.out (fun h => h)
               have u0 := cell_of k1 0
               have u1 := cell_of k1 1
               simp at u0 u1
               have HK2 := hid k1
               clear HC hc2 HK1 k1 HGR
               have HC := hid hc
               clear hc
               cases B)
  all_goals first
    | (go_ret; exact ⟨rfl, HC.out⟩)
    | skip
  cases hok : grOK g with
  | false =>
    have hp := HPR.out _ HC.out
    rw [hok] at hp
    clear hok
    go_wp2_with (go_at_call 14; refine hp.mono ?_; rintro e w3 ⟨rfl, hc3⟩)
    go_ret
    exact ⟨rfl, HC.out.trans hc3 (fun _ _ h => h)⟩
  | true =>
    have hp := HPR.out _ HC.out
    have hr : printR g = some (textL g) := by unfold printR; rw [hok]; rfl
    rw [hok, hr] at hp
    have HOK := hid hok
    obtain ⟨sS, hsS⟩ : ∃ sS, sS = bs (textL g) := ⟨_, rfl⟩
    have hp' : Calls Tryd.prog 14 #[.agg #[.slice oa g.srcs.length c, .slice ob g.acts.length d]] w2 (Rets (.tuple #[.string sS, .int .i64 0]) (Chg (fun _ => False) w2)) := by rw [hsS]; exact hp
    have HSS := hid hsS
    clear hp hr hok hsS
    go_wp2_with (go_at_call 14
                 refine hp'.mono ?_
                 rintro e w3 ⟨rfl, hc3⟩
                 have hc := HC.out.trans hc3 (fun _ _ h => h)
                 have HK3 := hid (hc3.obj HK2.out (fun h => h))
                 clear HC hc3 HK2 u0 u1 hp'
                 have HC := hid hc
                 clear hc)
    have h200 : line.size ≤ 200 := by omega
    have H200 := hid h200
    go_loop [7] (fun i => ∃ k : Nat, k ≤ line.size ∧ i = .int .i64 k ∧ ∀ j (h : j < line.size), j < k → line[j] ≠ 10) (fun i => line.size - (intOf i).toNat)
    case atStart => exact ⟨0, Nat.zero_le _, rfl, fun j _ h => absurd h (Nat.not_lt_zero _)⟩
    case round =>
      obtain ⟨k, hk, rfl, hall⟩ := hrel
      have HALL := hid hall
      clear hall
      by_cases hkn : k < line.size
      · have hkn' : (k : Int) < line.size := by omega
        by_cases h10 : line[k] = 10
        · have h10' : ((line[k].toNat : Nat) : Int) = 10 := by rw [h10]; rfl
          go_wp2_with fail
          go_ret
          exact ⟨rfl, HC.out⟩
        · have h10' : ((line[k].toNat : Int) == 10) = false := by
            simp
            intro e
            exact h10 (UInt8.toNat_inj.1 (by show line[k].toNat = 10; omega))
          have HN := hid h10
          clear h10
          go_wp2_with fail
          go_round
          case rel =>
            refine ⟨k + 1, by omega, by go_num, fun j hj hjk => ?_⟩
            by_cases e : j = k
            · subst e; exact HN.out
            · exact HALL.out j hj (by omega)
          case measure => simp [intOf]; omega
      · obtain rfl : k = line.size := by omega
        have h10 : (10 : UInt8) ∉ line.data.toList := by
          intro hmem
          obtain ⟨j, hj, e⟩ := List.mem_iff_getElem.1 hmem
          have hj' : j < line.size := by rw [Lib.size_eq]; exact hj
          exact HALL.out j hj' hj' (by simpa [ByteArray.getElem_eq_getElem_data] using e)
        obtain ⟨PL1, PL2⟩ := lines_pure g HOK.out line.data.toList h10 (by rw [← Lib.size_eq]; exact h200)
        have hgb := (grOK_iff g).1 HOK.out
        have hn8 := hgb.1
        have hn12 := hgb.2.1
        have htl := textL_len g HOK.out
        have hsz : sS.size = (textL g).length := by rw [HSS.out]; exact bs_size _
        have q1 : ((sS ++ { data := #[33] }) ++ line).data.toList = textL g ++ (33 :: line.data.toList) := by
          rw [HSS.out]; simp [bs]
        have q2 : (((sS ++ { data := #[33] }) ++ line) ++ { data := #[10] }).data.toList = textL g ++ (33 :: line.data.toList) ++ [10] := by
          rw [HSS.out]; simp [bs]
        rw [← q1] at PL2
        rw [← q2] at PL1
        have s1 : (sS ++ { data := #[33] }).size = sS.size + 1 := ByteArray.size_append
        have s2 : ((sS ++ { data := #[33] }) ++ line).size = sS.size + 1 + line.size := by rw [ByteArray.size_append, s1]
        have s3 : (((sS ++ { data := #[33] }) ++ line) ++ { data := #[10] }).size = sS.size + 1 + line.size + 1 := by rw [ByteArray.size_append, s2]; rfl
        have z1 : ¬ 9223372036854775807 < sS.size + 1 := by omega
        have z2 : ¬ 9223372036854775807 < sS.size + 1 + line.size := by omega
        have z3 : ¬ 9223372036854775807 < sS.size + 1 + line.size + 1 := by omega
        have hp1 := fun W hW => parseS_any (((sS ++ { data := #[33] }) ++ line) ++ { data := #[10] }) (by rw [s3]; unfold maxLen; omega) W hW
        have hp2 := fun W hW => parseS_any ((sS ++ { data := #[33] }) ++ line) (by rw [s2]; unfold maxLen; omega) W hW
        unfold ParsePost at hp1 hp2
        rw [PL1] at hp1
        rw [PL2] at hp2
        simp only at hp1 hp2
        have HP1 := hid hp1
        have HP2 := hid hp2
        have HSZ := hid hsz
        have hm3 := HM.out.chg HC.out (fun _ _ h => h)
        have hr1 : ((1 + g.srcs.length + g.acts.length : Nat) : Int) = (g.srcs.length : Int) + (g.acts.length : Int) + 1 := by omega
        obtain ⟨R, hR⟩ : ∃ R : Int, R = ((1 + g.srcs.length + g.acts.length : Nat) : Int) := ⟨_, rfl⟩
        rw [← hR] at HP1 HP2
        rw [← hR] at hr1
        have hw1 : IntKind.i64.wrap ((g.srcs.length : Int) + (g.acts.length : Int)) = (g.srcs.length : Int) + (g.acts.length : Int) := by rw [IntKind.wrap_i64]; omega
        have hw2 : IntKind.i64.wrap ((g.srcs.length : Int) + (g.acts.length : Int) + 1) = (g.srcs.length : Int) + (g.acts.length : Int) + 1 := by rw [IntKind.wrap_i64]; omega
        have hp1w := HP1.out _ hm3
        clear PL1 PL2 hgb htl hsz q1 q2 s1 s2 s3 hp1 hp2 hR hm3
        go_wp2_with (go_at_call 10
                     refine hp1w.mono ?_
                     rintro e w4 ⟨hc4, v4, rfl, hg4⟩
                     obtain ⟨oa4, c4, ob4, d4, iv4, rfl, _, _⟩ := hg4.form
                     have hc5 : Chg (fun _ => False) _ (w4.alloc (.cells #[.slice oa4 noGr.srcs.length c4, .slice ob4 noGr.acts.length d4] 26)) := hc4.alloc _
                     have hc := HC.out.trans hc5 (fun _ _ h => h)
                     have HK4 := hid (hc5.obj HK3.out (fun h => h))
                     clear HC hc4 hc5 HK3 hg4 hp1w
                     have HC := hid hc
                     clear hc)
        have hp2w := HP2.out _ (HM.out.chg HC.out (fun _ _ h => h))
        go_wp2_with (go_at_call 10
                     refine hp2w.mono ?_
                     rintro e w6 ⟨hc6, v6, rfl, hg6⟩
                     obtain ⟨oa6, c6, ob6, d6, iv6, rfl, _, _⟩ := hg6.form
                     have hc7 : Chg (fun _ => False) _ (w6.alloc (.cells #[.slice oa6 noGr.srcs.length c6, .slice ob6 noGr.acts.length d6] 26)) := hc6.alloc _
                     have hc := HC.out.trans hc7 (fun _ _ h => h)
                     have hk6 := hc7.obj HK4.out (fun h => h)
                     have u0 := cell_of hk6 0
                     have u1 := cell_of hk6 1
                     simp at u0 u1
                     clear HC hc6 hc7 HK4 hg6 hp2w hk6
                     have HC := hid hc
                     clear hc)
        go_ret
        exact ⟨rfl, HC.out⟩
end Go.Proofs.YtbaipdhgjalgoaaDoor
