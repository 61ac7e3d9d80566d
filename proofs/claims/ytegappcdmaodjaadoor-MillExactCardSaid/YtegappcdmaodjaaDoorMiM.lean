/- apiaryref06.width, Steps, apiaryref01.Same walked. -/
import Derived.Test.YtegappcdmaodjaaDoorMiK
import Derived.BigQuiet
namespace Go.Proofs.YtegappcdmaodjaaDoor
open Go.RowKit

theorem plainB_iff (c : UInt8) : plainB c = true ↔ (c = 99 ∨ c = 100 ∨ c = 115 ∨ c = 120 ∨ c = 114 ∨ c = 104 ∨ c = 108 ∨ c = 61) := by
  have key : ∀ n : Fin 256, plainB (UInt8.ofNat n.1) = decide (n.1 = 99 ∨ n.1 = 100 ∨ n.1 = 115 ∨ n.1 = 120 ∨ n.1 = 114 ∨ n.1 = 104 ∨ n.1 = 108 ∨ n.1 = 61) := by decide +kernel
  have h1 := key ⟨c.toNat, c.toNat_lt⟩
  simp only [UInt8.ofNat_toNat] at h1
  rw [h1]
  simp only [decide_eq_true_eq, ← UInt8.toNat_inj]
  rfl
theorem numB_iff (c : UInt8) : numB c = true ↔ (c = 105 ∨ c = 116 ∨ c = 107 ∨ c = 106 ∨ c = 103) := by
  have key : ∀ n : Fin 256, numB (UInt8.ofNat n.1) = decide (n.1 = 105 ∨ n.1 = 116 ∨ n.1 = 107 ∨ n.1 = 106 ∨ n.1 = 103) := by decide +kernel
  have h1 := key ⟨c.toNat, c.toNat_lt⟩
  simp only [UInt8.ofNat_toNat] at h1
  rw [h1]
  simp only [decide_eq_true_eq, ← UInt8.toNat_inj]
  rfl

set_option maxRecDepth 100000 in
set_option maxHeartbeats 4000000 in
theorem rwidth_any (code : ByteArray) (i : Nat) (w : World) (h : i < code.size) (hs : code.size ≤ maxLen) :
    Calls Tryd.prog 22 #[.string code, .int .i64 i] w (Rets (.int .i64 (widN code i)) (fun w' => w = w')) := by
  unfold maxLen at hs
  have h' : (i : Int) < code.size := by omega
  have hw0 : widN code i = if code.size - i < wid0 code i h then 0 else wid0 code i h := by unfold widN; rw [dif_pos h]
  have fin : ∀ n : Nat, wid0 code i h = n → ∀ m : Int, m = (if code.size - i < n then 0 else n : Nat) → Rets (.int .i64 (widN code i)) (fun w' => w = w') (.returned (.int .i64 m)) w := by
    intro n hn m hm
    refine ⟨?_, rfl⟩
    rw [hm, hw0, hn]
  have F := hid fin
  clear hw0 fin
  have neq : ∀ k : UInt8, code[i] ≠ k → ((code[i].toNat : Int) == (k.toNat : Int)) = false := by
    intro k hk
    simp
    intro e
    exact hk (UInt8.toNat_inj.1 (by omega))
  by_cases h1 : plainB code[i] = true
  · have e1 : wid0 code i h = 1 := by unfold wid0; simp [h1]
    have F1 := hid (F.out 1 e1)
    clear F e1
    have hd : 0 < code.size - i := by omega
    have hd' : (0 : Int) < (code.size : Int) - (i : Int) := by omega
    rcases (plainB_iff _).1 h1 with e | e | e | e | e | e | e | e
    all_goals
      have hc' : (code[i].toNat : Int) = _ := congrArg (fun c : UInt8 => (c.toNat : Int)) e
      clear e h1 neq
      go_enter Tryd.func22, Tryd.ntmps22
      go_wp2
      all_goals go_ret
      all_goals exact F1.out _ (by rw [if_neg (by omega)]; rfl)
  · by_cases h2 : numB code[i] = true
    · have e1 : wid0 code i h = 2 := by unfold wid0; simp [h1, h2]
      have F1 := hid (F.out 2 e1)
      clear F e1 h1
      rcases (numB_iff _).1 h2 with e | e | e | e | e
      all_goals
        have hc' : (code[i].toNat : Int) = _ := congrArg (fun c : UInt8 => (c.toNat : Int)) e
        clear e h2 neq
        go_enter Tryd.func22, Tryd.ntmps22
        go_wp2
        all_goals go_ret
        all_goals exact F1.out _ (by first | (rw [if_neg (by omega)]; rfl) | (rw [if_pos (by omega)]; rfl))
    · have n1 : ¬ (code[i] = 99 ∨ code[i] = 100 ∨ code[i] = 115 ∨ code[i] = 120 ∨ code[i] = 114 ∨ code[i] = 104 ∨ code[i] = 108 ∨ code[i] = 61) := fun hh => h1 ((plainB_iff _).2 hh)
      have n2 : ¬ (code[i] = 105 ∨ code[i] = 116 ∨ code[i] = 107 ∨ code[i] = 106 ∨ code[i] = 103) := fun hh => h2 ((numB_iff _).2 hh)
      simp only [not_or] at n1 n2
      obtain ⟨a1, a2, a3, a4, a5, a6, a7, a8⟩ := n1
      obtain ⟨b1, b2, b3, b4, b5⟩ := n2
      have z1 : ((code[i].toNat : Int) == 99) = false := neq _ a1
      have z2 : ((code[i].toNat : Int) == 100) = false := neq _ a2
      have z3 : ((code[i].toNat : Int) == 115) = false := neq _ a3
      have z4 : ((code[i].toNat : Int) == 120) = false := neq _ a4
      have z5 : ((code[i].toNat : Int) == 114) = false := neq _ a5
      have z6 : ((code[i].toNat : Int) == 104) = false := neq _ a6
      have z7 : ((code[i].toNat : Int) == 108) = false := neq _ a7
      have z8 : ((code[i].toNat : Int) == 61) = false := neq _ a8
      have y1 : ((code[i].toNat : Int) == 105) = false := neq _ b1
      have y2 : ((code[i].toNat : Int) == 116) = false := neq _ b2
      have y3 : ((code[i].toNat : Int) == 107) = false := neq _ b3
      have y4 : ((code[i].toNat : Int) == 106) = false := neq _ b4
      have y5 : ((code[i].toNat : Int) == 103) = false := neq _ b5
      by_cases h3 : code[i] = 112
      · have h3' : ((code[i].toNat : Int) == 112) = true := by rw [h3]; rfl
        by_cases h4 : i + 1 < code.size
        · have h4' : (i : Int) + 1 < code.size := by omega
          have e1 : wid0 code i h = 2 + code[i + 1].toNat := by unfold wid0; rw [if_neg h1, if_neg h2, dif_pos ⟨h3, h4⟩]
          have F1 := hid (F.out _ e1)
          have hb : code[i + 1].toNat < 256 := code[i + 1].toNat_lt
          have hb0 : (2 + (code[i + 1].toNat : Int) == 0) = false := by simp; omega
          clear F e1 h1 h2 h3 neq a1 a2 a3 a4 a5 a6 a7 a8 b1 b2 b3 b4 b5
          go_enter Tryd.func22, Tryd.ntmps22
          go_wp2
          all_goals go_ret
          all_goals exact F1.out _ (by first | (rw [if_pos (by omega)]; rfl) | (rw [if_neg (by omega)]; simp))
        · have h4' : ¬ (i : Int) + 1 < code.size := by omega
          have e1 : wid0 code i h = 0 := by unfold wid0; simp [h1, h2, h4]
          have F1 := hid (F.out _ e1)
          clear F e1 h1 h2 h3 neq a1 a2 a3 a4 a5 a6 a7 a8 b1 b2 b3 b4 b5
          go_enter Tryd.func22, Tryd.ntmps22
          go_wp2
          all_goals go_ret
          all_goals exact F1.out _ (by first | (rw [if_neg (by omega)]; rfl) | (rw [if_pos (by omega)]; rfl))
      · have h3' : ((code[i].toNat : Int) == 112) = false := neq _ h3
        have e1 : wid0 code i h = 0 := by unfold wid0; simp [h1, h2, h3]
        have F1 := hid (F.out _ e1)
        clear F e1 h1 h2 h3 neq a1 a2 a3 a4 a5 a6 a7 a8 b1 b2 b3 b4 b5
        go_enter Tryd.func22, Tryd.ntmps22
        go_wp2
        all_goals go_ret
        all_goals exact F1.out _ (by first | (rw [if_neg (by omega)]; rfl) | (rw [if_pos (by omega)]; rfl))

set_option maxRecDepth 100000 in
set_option maxHeartbeats 1000000 in
theorem rsteps_any (code : ByteArray) (hs : code.size ≤ maxLen) (w : World) :
    Calls Tryd.prog 14 #[.string code] w (fun e w' => Chg (fun _ => False) w w' ∧
      ((64 < code.size ∧ e = .returned (.tuple #[.slice none 0 0, .int .i64 4])) ∨
       (code.size ≤ 64 ∧ stepsOut code = none ∧ e = .returned (.tuple #[.slice none 0 0, .int .i64 32])) ∨
       (code.size ≤ 64 ∧ ∃ l, stepsOut code = some l ∧ ∃ v, e = .returned (.tuple #[v, .int .i64 0]) ∧ w'.ownsRow 0 9 1 v l.length (l.map Value.string) ∧ ∀ k, v.ownBlock = some k → w.heap.size ≤ k))) := by
  unfold maxLen at hs
  by_cases h64 : 64 < code.size
  · have h64' : (64 : Int) < code.size := by omega
    go_enter Tryd.func14, Tryd.ntmps14
    go_wp2
    go_ret2
    exact ⟨Chg.refl _ w, .inl ⟨h64, rfl⟩⟩
  · have h64' : (code.size : Int) ≤ 64 := by omega
    have hne : (w.alloc (.cells #[] 9)).ownsRow 0 9 1 (.slice (some ⟨w.heap.size, 0, none⟩) 0 0) 0 [] :=
      ⟨rfl, .inr ⟨w.heap.size, 0, #[], rfl, Nat.zero_le _, heap_alloc_new w _, Nat.le_refl _, Nat.zero_le _, rfl, rfl⟩⟩
    go_enter Tryd.func14, Tryd.ntmps14
    go_wp2_with fail
    go_loopw [4, 5] (fun ov iv wr => ∃ at_ l, at_ ≤ code.size ∧ iv = .int .i64 (at_ : Nat) ∧ l.length ≤ at_ ∧ stepsOut code = (stepsG code (64 - l.length) at_).map (l ++ ·) ∧
      wr.ownsRow 0 9 1 ov l.length (l.map Value.string) ∧ (∀ k, ov.ownBlock = some k → w.heap.size ≤ k) ∧ Chg (fun _ => False) w wr) (fun _ iv _ => code.size - (intOf iv).toNat)
    case atStart => exact ⟨0, [], Nat.zero_le _, rfl, Nat.zero_le _, by simp [stepsOut], hne, by simp [Value.ownBlock], (Chg.refl _ w).alloc _⟩
    case round =>
      obtain ⟨at_, l, hat, rfl, hll, hout, hown, hov, hch⟩ := hrel
      have HO := hid hout
      have HC := hid hch
      have HV := hid hov
      clear hout hch hov hne
      by_cases hend : at_ = code.size
      · subst hend
        go_wp2_with fail
        go_ret2
        refine ⟨HC.out, .inr (.inr ⟨by omega, l, ?_, _, rfl, hown, HV.out⟩)⟩
        rw [HO.out, stepsG_end _ _ _ (by omega)]
        simp
      · have hlt : (at_ : Int) < (code.size : Int) := by omega
        have hwa : ∀ w : World, Calls Tryd.prog 22 #[.string code, .int .i64 at_] w (Rets (.int .i64 (widN code at_)) (fun w' => w = w')) := fun w =>
          rwidth_any code at_ w (by omega) (by unfold maxLen; omega)
        have hG : ∀ F, stepsG code (F + 1) at_ = if widN code at_ = 0 then none else (stepsG code F (at_ + widN code at_)).map (code.extract at_ (at_ + widN code at_) :: ·) := fun F => by rw [stepsG, if_neg (by omega)]
        have hF : 64 - l.length = (64 - (l.length + 1)) + 1 := by omega
        by_cases hz : widN code at_ = 0
        · have hz' : (widN code at_ : Int) = 0 := by omega
          have hnone : stepsOut code = none := by rw [HO.out, hF, hG, if_pos hz]; rfl
          clear hG hF HO
          go_wp2_with (go_at_call 22; refine (hwa _).mono ?_; rintro e w' ⟨rfl, rfl⟩)
          go_ret2
          exact ⟨HC.out, .inr (.inl ⟨by omega, hnone, rfl⟩)⟩
        · have hz' : ¬ (widN code at_ : Int) = 0 := by omega
          have hle : widN code at_ ≤ code.size - at_ := by rcases widN_le code at_ with h | h <;> omega
          have hle' : (at_ : Int) + (widN code at_ : Int) ≤ (code.size : Int) := by omega
          have hsome : stepsOut code = (stepsG code (64 - (l.length + 1)) (at_ + widN code at_)).map ((l ++ [code.extract at_ (at_ + widN code at_)]) ++ ·) := by
            rw [HO.out, hF, hG, if_neg hz, Option.map_map]
            congr 1
            funext x
            simp
          have HS := hid hsome
          clear hG hF HO hsome
          go_wp2_with (first | (go_at_call 22; refine (hwa _).mono ?_; rintro e w' ⟨rfl, rfl⟩) | (at_builtin; go_loud (refine wpList_append_new rfl _ _ 22 rfl elStr hown rfl _ 1 1 rfl rfl rfl (by unfold maxLen; omega) (by omega) (by decide) ?_; intro g1 cap w1 hown1 hchg hg1)))
          all_goals go_roundw
          case rel =>
            have e2 : [Value.string (code.extract at_ (at_ + widN code at_))] = [code.extract at_ (at_ + widN code at_)].map Value.string := rfl
            refine ⟨at_ + widN code at_, l ++ [code.extract at_ (at_ + widN code at_)], by omega, by simp, by simp; omega, by rw [HS.out]; simp, ?_, ?_, HC.out.trans hchg ?_⟩
            · simpa using hown1
            · intro k hk
              simp [Value.ownBlock] at hk
              subst hk
              rcases hg1 with h | h
              · exact HV.out _ h
              · exact Nat.le_trans HC.out.size h
            · intro i hi h
              exact absurd (HV.out _ h) (by omega)
          case measure => simp [intOf]; omega

/-- Whether two rows of texts are the same. -/
theorem lists_same {a b : List ByteArray} (h : a.length = b.length) (h2 : ∀ i (h1 : i < a.length) (h2 : i < b.length), a[i] = b[i]) : a = b := List.ext_getElem h h2

set_option maxHeartbeats 1000000 in
theorem same_lists (w : World) (v1 v2 : Value) (a b : List ByteArray) (h1 : w.ownsRow 0 9 1 v1 a.length (a.map Value.string)) (h2 : w.ownsRow 0 9 1 v2 b.length (b.map Value.string)) (ha : a.length ≤ 1000) (hb : b.length ≤ 1000) :
    Calls Tryd.prog 15 #[v1, v2] w (Rets (.bool (decide (a = b))) (Chg (fun _ => False) w)) := by
  have hl1 := fun w ty => run_len_own (P := Tryd.prog) Tryd.underlying22 h1 w ty
  have hl2 := fun w ty => run_len_own (P := Tryd.prog) Tryd.underlying22 h2 w ty
  by_cases hl : a.length = b.length
  · have hl' : ((a.length : Int) == (b.length : Int)) = true := by simp [hl]
    go_enter Tryd.func15, Tryd.ntmps15
    go_wp2_with fail
    go_loopw [5] (fun i wr => ∃ k : Nat, k ≤ a.length ∧ i = .int .i64 k ∧ (∀ j (h1 : j < a.length) (h2 : j < b.length), j < k → a[j] = b[j]) ∧ Chg (fun _ => False) w wr) (fun i _ => a.length - (intOf i).toNat)
    case atStart => exact ⟨0, Nat.zero_le _, rfl, fun j _ _ h => absurd h (Nat.not_lt_zero _), Chg.refl _ w⟩
    case round =>
      obtain ⟨k, hk, rfl, hall, hch⟩ := hrel
      have HA := hid hall
      have HC := hid hch
      clear hall hch
      by_cases hkn : k < a.length
      · have hkn' : (k : Int) < a.length := by omega
        have hkb : k < b.length := by omega
        obtain ⟨g1, cap1, rfl, hc1, hg1⟩ := owns_some h1 (by omega)
        obtain ⟨g2, cap2, rfl, hc2, hg2⟩ := owns_some h2 (by omega)
        have hkn2 : (k : Int) < b.length := by omega
        have k1 : wr.cell? ⟨g1, k, none⟩ = some (.string a[k]) := HC.out.cell (p := ⟨g1, k, none⟩) (by have := h1.cellAt k (by simpa using hkn); simpa [List.getElem?_eq_getElem hkn] using this) (fun h => h)
        have k2 : wr.cell? ⟨g2, k, none⟩ = some (.string b[k]) := HC.out.cell (p := ⟨g2, k, none⟩) (by have := h2.cellAt k (by simpa using hkb); simpa [List.getElem?_eq_getElem hkb] using this) (fun h => h)
        have k1d : wr.drew.cell? ⟨g1, k, none⟩ = some (.string a[k]) := k1
        have k2d : wr.drew.cell? ⟨g2, k, none⟩ = some (.string b[k]) := k2
        by_cases he : a[k] = b[k]
        · have he' : (a[k].toList == b[k].toList) = true := by rw [← beq_toListBytes, ba_eq]; simp [he]
          go_wp2_with fail
          go_quiet (fail)
          go_wp2_with fail
          go_roundw
          case rel =>
            refine ⟨k + 1, by omega, by go_num, fun j h1 h2 hjk => ?_, HC.out.drewN _⟩
            by_cases e : j = k
            · subst e; exact he
            · exact HA.out j h1 h2 (by omega)
          case measure => simp [intOf]; omega
        · have he' : (a[k].toList == b[k].toList) = false := by rw [← beq_toListBytes, ba_eq]; simp [he]
          go_wp2_with fail
          go_quiet (fail)
          go_wp2_with fail
          go_ret
          exact ⟨by rw [decide_eq_false (fun h => he (by subst h; rfl))]; rfl, HC.out.drewN _⟩
      · obtain rfl : k = a.length := by omega
        go_wp2_with fail
        go_ret
        exact ⟨by rw [decide_eq_true (lists_same hl (fun i h1 h2 => HA.out i h1 h2 h1))]; rfl, HC.out⟩
  · have hl' : ((a.length : Int) == (b.length : Int)) = false := by simp; omega
    go_enter Tryd.func15, Tryd.ntmps15
    go_wp2
    go_ret
    exact ⟨by rw [decide_eq_false (fun h => hl (by rw [h]))]; rfl, Chg.refl _ w⟩
end Go.Proofs.YtegappcdmaodjaaDoor
