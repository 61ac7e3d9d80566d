/- RecipeNames walked: it returns true. -/
import Derived.Test.YtbaipdhgjalgoaaDoorReQ
namespace Go.Proofs.YtbaipdhgjalgoaaDoor
open Go.RowKit

theorem nameL_append {a b : List UInt8} (ha : nameL a = true) (hb : nameL b = true) : nameL (a ++ b) = decide (a.length + b.length ≤ 8) := by
  obtain ⟨a1, a2, a3⟩ := nameL_let ha
  obtain ⟨b1, b2, b3⟩ := nameL_let hb
  unfold nameL
  rw [List.all_append, a3, b3, List.length_append]
  simp
  intro h
  omega
theorem nameL_snoc {a : List UInt8} (ha : nameL a = true) (c : UInt8) : nameL (a ++ [c]) = (letB c && decide (a.length < 8)) := by
  obtain ⟨a1, a2, a3⟩ := nameL_let ha
  unfold nameL
  rw [List.all_append, a3, List.length_append]
  simp
  cases letB c
  · simp
  · simp; omega
theorem nameL_cons {a : List UInt8} (ha : nameL a = true) (c : UInt8) : nameL ([c] ++ a) = (letB c && decide (a.length < 8)) := by
  obtain ⟨a1, a2, a3⟩ := nameL_let ha
  unfold nameL
  rw [List.all_append, a3, List.length_append]
  simp
  cases letB c
  · simp
  · simp; omega

set_option maxRecDepth 100000 in
set_option maxHeartbeats 4000000 in
theorem names_any (a b : ByteArray) (ha : a.size ≤ maxLen) (hb : b.size ≤ maxLen) (c : UInt8) (w : World) (hm : MaxOK w) : Calls Tryd.prog 5 #[.string a, .string b, .int .u8 c.toNat] w (Rets (.bool true) (Chg (fun _ => False) w)) := by
  have hw := awake_any w hm
  have hna := fun W => isName_any a ha W
  have hnb := fun W => isName_any b hb W
  have hla : a.data.toList.length = a.size := (Lib.size_eq a).symm
  have hlb : b.data.toList.length = b.size := (Lib.size_eq b).symm
  unfold maxLen at ha hb
  clear hm
  by_cases h1 : (100 : Int) < (a.size : Int)
  · clear hla hlb hna hnb
    go_enter Tryd.func5, Tryd.ntmps5
    go_wp2_with (go_at_call 9; refine hw.mono ?_; rintro e w1 ⟨rfl, hc1⟩)
    go_ret
    exact ⟨rfl, hc1⟩
  have d1 : decide ((100 : Int) < (a.size : Int)) = false := decide_eq_false h1
  by_cases h2 : (100 : Int) < (b.size : Int)
  · clear hla hlb hna hnb
    go_enter Tryd.func5, Tryd.ntmps5
    go_wp2_with (go_at_call 9; refine hw.mono ?_; rintro e w1 ⟨rfl, hc1⟩)
    go_ret
    exact ⟨rfl, hc1⟩
  have d2 : decide ((100 : Int) < (b.size : Int)) = false := decide_eq_false h2
  cases ea : nameL a.data.toList with
  | false =>
    rw [ea] at hna
    clear hla hlb hnb ea
    go_enter Tryd.func5, Tryd.ntmps5
    go_wp2_with (first | (go_at_call 9; refine hw.mono ?_; rintro e w1 ⟨rfl, hc1⟩) | (go_at_call 15; refine (hna _).mono ?_; rintro e w2 ⟨rfl, hc2⟩))
    go_ret
    exact ⟨rfl, hc1.trans hc2 (fun _ _ h => h)⟩
  | true =>
    cases eb : nameL b.data.toList with
    | false =>
      have hn : ∀ s : ByteArray, s.size ≤ maxLen → ∀ W, Calls Tryd.prog 15 #[.string s] W (Rets (.bool (nameL s.data.toList)) (Chg (fun _ => False) W)) := fun s hs W => isName_any s hs W
      have EA := hid ea
      have EB := hid eb
      clear hla hlb ea eb hna hnb
      go_enter Tryd.func5, Tryd.ntmps5
      go_wp2_with (first
        | (go_at_call 9
           refine hw.mono ?_
           rintro e w1 ⟨rfl, hc1⟩
           have HC1 := hid hc1
           clear hc1)
        | (go_at_call 15
           refine (hn _ (by unfold maxLen; omega) _).mono ?_
           rintro e w2 ⟨he, hc2⟩
           first
             | rw [EA.out] at he
             | rw [EB.out] at he
           subst he
           have hc := HC1.out.trans hc2 (fun _ _ h => h)
           clear HC1 hc2
           have HC1 := hid hc
           clear hc))
      go_ret
      exact ⟨rfl, HC1.out⟩
    | true =>
      have cls : (decide ((97 : Int) ≤ (c.toNat : Int)) = true ∧ decide ((c.toNat : Int) ≤ 122) = true ∧ decide ((48 : Int) ≤ (c.toNat : Int)) = true ∧ decide ((c.toNat : Int) ≤ 57) = false ∧ letB c = true) ∨ (decide ((97 : Int) ≤ (c.toNat : Int)) = true ∧ decide ((c.toNat : Int) ≤ 122) = false ∧ decide ((48 : Int) ≤ (c.toNat : Int)) = true ∧ decide ((c.toNat : Int) ≤ 57) = false ∧ letB c = false) ∨ (decide ((97 : Int) ≤ (c.toNat : Int)) = false ∧ decide ((c.toNat : Int) ≤ 122) = true ∧ decide ((48 : Int) ≤ (c.toNat : Int)) = true ∧ decide ((c.toNat : Int) ≤ 57) = true ∧ letB c = true) ∨ (decide ((97 : Int) ≤ (c.toNat : Int)) = false ∧ decide ((c.toNat : Int) ≤ 122) = true ∧ decide ((48 : Int) ≤ (c.toNat : Int)) = true ∧ decide ((c.toNat : Int) ≤ 57) = false ∧ letB c = false) ∨ (decide ((97 : Int) ≤ (c.toNat : Int)) = false ∧ decide ((c.toNat : Int) ≤ 122) = true ∧ decide ((48 : Int) ≤ (c.toNat : Int)) = false ∧ decide ((c.toNat : Int) ≤ 57) = true ∧ letB c = false) := by
        unfold letB
        simp only [decide_eq_true_eq, decide_eq_false_iff_not, Bool.or_eq_true, Bool.or_eq_false_iff, Bool.and_eq_true, Bool.and_eq_false_iff]
        omega
      obtain ⟨dS, hdS⟩ : ∃ dS, dS = bs [c] := ⟨_, rfl⟩
      have hdl : dS.data.toList = [c] := by rw [hdS, bs_data]
      have hdz : dS.size = 1 := by rw [hdS, bs_size]; rfl
      have hcv : ∀ W : World, (convert 36 9 (.slice (some ⟨W.heap.size, 0, none⟩) 1 1)).run Tryd.prog (W.alloc (.cells #[.int .u8 c.toNat] 5)) = .ok (.string dS) (W.alloc (.cells #[.int .u8 c.toNat] 5)) := fun W => by
        rw [hdS]
        exact conv_own _ _ [c] (owns_new W [.int .u8 c.toNat] 5 1 1 rfl (by unfold maxLen; omega)) _ (Chg.refl _ _)
      have apd : ∀ x y : ByteArray, (x ++ y).data.toList = x.data.toList ++ y.data.toList := fun x y => by simp
      have aps : ∀ x y : ByteArray, (x ++ y).size = x.size + y.size := fun x y => ByteArray.size_append
      have EA := hid ea
      have EB := hid eb
      have EAB : Hid (nameL (a ++ b).data.toList = decide ((a.size : Int) + (b.size : Int) ≤ 8)) := by
        show nameL (a ++ b).data.toList = _
        rw [apd, nameL_append ea eb, hla, hlb, Bool.eq_iff_iff, decide_eq_true_eq, decide_eq_true_eq]
        omega
      have EAC : Hid (nameL (a ++ dS).data.toList = (letB c && decide ((a.size : Int) < 8))) := by
        show nameL (a ++ dS).data.toList = _
        rw [apd, hdl, nameL_snoc ea, hla]
        congr 1
        rw [Bool.eq_iff_iff, decide_eq_true_eq, decide_eq_true_eq]
        omega
      have ECA : Hid (nameL (dS ++ a).data.toList = (letB c && decide ((a.size : Int) < 8))) := by
        show nameL (dS ++ a).data.toList = _
        rw [apd, hdl, nameL_cons ea, hla]
        congr 1
        rw [Bool.eq_iff_iff, decide_eq_true_eq, decide_eq_true_eq]
        omega
      have EE : Hid (nameL ({ data := #[] } : ByteArray).data.toList = false) := rfl
      have SA : Hid (a.size ≤ maxLen) := by show a.size ≤ maxLen; unfold maxLen; omega
      have SB : Hid (b.size ≤ maxLen) := by show b.size ≤ maxLen; unfold maxLen; omega
      have SAB : Hid ((a ++ b).size ≤ maxLen) := by show (a ++ b).size ≤ maxLen; rw [aps]; unfold maxLen; omega
      have SAC : Hid ((a ++ dS).size ≤ maxLen) := by show (a ++ dS).size ≤ maxLen; rw [aps]; unfold maxLen; omega
      have SCA : Hid ((dS ++ a).size ≤ maxLen) := by show (dS ++ a).size ≤ maxLen; rw [aps]; unfold maxLen; omega
      have SE : Hid (({ data := #[] } : ByteArray).size ≤ maxLen) := by show ({ data := #[] } : ByteArray).size ≤ maxLen; decide
      have z1 : ¬ 9223372036854775807 < a.size + b.size := by omega
      have z2 : ¬ 9223372036854775807 < a.size + dS.size := by omega
      have z3 : ¬ 9223372036854775807 < dS.size + a.size := by omega
      have hsum : IntKind.i64.wrap ((a.size : Int) + (b.size : Int)) = (a.size : Int) + (b.size : Int) := by rw [IntKind.wrap_i64]; omega
      have hn : ∀ s : ByteArray, s.size ≤ maxLen → ∀ W, Calls Tryd.prog 15 #[.string s] W (Rets (.bool (nameL s.data.toList)) (Chg (fun _ => False) W)) := fun s hs W => isName_any s hs W
      clear hla hlb ea eb hna hnb hdl hdz apd aps hdS
      rcases cls with ⟨e97, e122, e48, e57, hB⟩ | ⟨e97, e122, e48, e57, hB⟩ | ⟨e97, e122, e48, e57, hB⟩ | ⟨e97, e122, e48, e57, hB⟩ | ⟨e97, e122, e48, e57, hB⟩
      all_goals
        rw [hB] at EAC ECA
        clear hB
        go_enter Tryd.func5, Tryd.ntmps5
        go_wp2_with (first
          | (go_at_call 9
             refine hw.mono ?_
             rintro e w1 ⟨rfl, hc1⟩
             have HC1 := hid hc1
             clear hc1)
          | (go_at_call 15
             refine (hn _ (by first | exact SA.out | exact SB.out | exact SAB.out | exact SAC.out | exact SCA.out | exact SE.out) _).mono ?_
             rintro e w2 ⟨he, hc2⟩
             first
               | rw [EA.out] at he
               | rw [EB.out] at he
               | rw [EAB.out] at he
               | rw [EAC.out] at he
               | rw [ECA.out] at he
               | rw [EE.out] at he
             subst he
             have hc := HC1.out.trans (by first | exact hc2 | exact ((Chg.refl (fun _ => False) _).alloc _).trans hc2 (fun _ _ h => h)) (fun _ _ h => h)
             clear HC1 hc2
             have HC1 := hid hc
             clear hc))
        go_ret
        exact ⟨rfl, HC1.out⟩
theorem namesI_any (a : ByteArray) (ha : a.size ≤ maxLen) (b : ByteArray) (hb : b.size ≤ maxLen) (c : Int) (hc : (Lit.int .u8 c).wf = true) (w : World) (hm : MaxOK w) : Calls Tryd.prog 5 #[.string a, .string b, .int .u8 c] w (Rets (.bool true) (Chg (fun _ => False) w)) := by
  have hb2 : 0 ≤ c ∧ c ≤ 255 := by simpa [Lit.wf, IntKind.min, IntKind.max, IntKind.signed, IntKind.bits] using hc
  have h := names_any a b ha hb (UInt8.ofNat c.toNat) w hm
  have e : ((UInt8.ofNat c.toNat).toNat : Int) = c := by rw [UInt8.toNat_ofNat']; omega
  rw [e] at h
  exact h
end Go.Proofs.YtbaipdhgjalgoaaDoor
