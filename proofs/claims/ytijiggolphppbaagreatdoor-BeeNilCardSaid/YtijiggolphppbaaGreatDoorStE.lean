/- (*stamp.Press).Add walked. -/
import Derived.Test.YtijiggolphppbaaGreatDoorStD
import Derived.StillTailTactics
namespace Go.Proofs.YtijiggolphppbaaGreatDoor
open Go.RowKit

/-- What blocks make of a state; what doesn't fill one. -/
def absorb : Nat → (Nat → Int) → ByteArray → (Nat → Int) × ByteArray
  | 0, f, r => (f, r)
  | m + 1, f, r => if r.size < 64 then (f, r) else absorb m (mixR (r.extract 0 64) f) (r.extract 64 r.size)
theorem absorb_end (m : Nat) (f : Nat → Int) (r : ByteArray) (h : r.size < 64) : absorb m f r = (f, r) := by
  cases m with
  | zero => rfl
  | succ m => unfold absorb; rw [if_pos h]
theorem absorb_less (m : Nat) : ∀ (f : Nat → Int) (r : ByteArray), r.size ≤ m → (absorb m f r).2.size < 64 := by
  induction m with
  | zero => intro f r h; unfold absorb; show r.size < 64; omega
  | succ m ih =>
    intro f r h
    unfold absorb
    split
    · assumption
    · exact ih _ _ (by simp; omega)
/-- A text more. -/
def addR (q : (Nat → Int) × ByteArray × Int) (s : ByteArray) : (Nat → Int) × ByteArray × Int :=
  let a := absorb (q.2.1.size + s.size) q.1 (q.2.1 ++ s)
  (a.1, a.2, q.2.2 + s.size)
def addsR (ss : List ByteArray) : (Nat → Int) × ByteArray × Int := ss.foldl addR (iv, .empty, 0)
theorem addsR_take (ss : List ByteArray) (k : Nat) (h : k < ss.length) : addsR (ss.take (k + 1)) = addR (addsR (ss.take k)) ss[k] := by
  unfold addsR
  rw [List.take_succ_eq_append_getElem h, List.foldl_append]
  rfl
theorem addsR_less (ss : List ByteArray) : (addsR ss).2.1.size < 64 := by
  have key : ∀ (ss : List ByteArray) (q : (Nat → Int) × ByteArray × Int), q.2.1.size < 64 → (ss.foldl addR q).2.1.size < 64 := by
    intro ss
    induction ss with
    | nil => intro q h; exact h
    | cons s ss ih => intro q h; exact ih _ (absorb_less _ _ _ (by rw [ByteArray.size_append]; exact Nat.le_refl _))
  exact key ss _ (by decide)
def sumSize (ss : List ByteArray) : Nat := (ss.map ByteArray.size).sum
theorem addsR_n (ss : List ByteArray) : (addsR ss).2.2 = (sumSize ss : Nat) := by
  have key : ∀ (ss : List ByteArray) (q : (Nat → Int) × ByteArray × Int), (ss.foldl addR q).2.2 = q.2.2 + (sumSize ss : Nat) := by
    intro ss
    induction ss with
    | nil => intro q; simp [sumSize]
    | cons s ss ih => intro q; rw [List.foldl_cons, ih]; simp [addR, sumSize]; omega
  rw [show addsR ss = ss.foldl addR (iv, .empty, 0) from rfl, key]
  simp
theorem sumSize_append (a b : List ByteArray) : sumSize (a ++ b) = sumSize a + sumSize b := by unfold sumSize; rw [List.map_append, List.sum_append]
theorem sumSize_take (ss : List ByteArray) (k : Nat) : sumSize (ss.take k) ≤ sumSize ss := by
  have := congrArg sumSize (List.take_append_drop k ss)
  rw [sumSize_append] at this
  omega
theorem sumSize_get (ss : List ByteArray) (k : Nat) (h : k < ss.length) : sumSize (ss.take k) + ss[k].size ≤ sumSize ss := by
  have h1 := sumSize_take ss (k + 1)
  rw [List.take_succ_eq_append_getElem h, sumSize_append] at h1
  have : sumSize [ss[k]] = ss[k].size := by simp [sumSize]
  omega
theorem StAt.setHi {w : World} {b : Nat} {T : TypeId} {cs : Array Value} {f : Nat → Int} (h : StAt w b T cs f) (t : Nat) (ht : 8 ≤ t) (v : Value) : StAt (w.setCell ⟨b, t, none⟩ v) b T (cs.setIfInBounds t v) f := by
  refine ⟨heap_set_same h.heap t _, fun i hi => ?_⟩
  rw [Array.getElem?_setIfInBounds, if_neg (by omega)]
  exact h.word i hi

def restOf (w : World) (b : Nat) : Nat := match w.cell? ⟨b, 8, none⟩ with | some (.string s) => s.size | _ => 0
theorem restOf_eq {w : World} {b : Nat} {s : ByteArray} (h : w.cell? ⟨b, 8, none⟩ = some (.string s)) : restOf w b = s.size := by unfold restOf; rw [h]

theorem words_chg {F : Nat → Prop} {w w' : World} (h : Lib.TabIs Tryz.prog w "apiary/stamp.words" .u32 wordsL) (hc : Chg F w w') (hF : ¬ F gWd) : Lib.TabIs Tryz.prog w' "apiary/stamp.words" .u32 wordsL := by
  unfold Lib.TabIs World.var? at h ⊢
  rw [wdG] at h ⊢
  simp only [Option.bind_some] at h ⊢
  cases hb : w.heap[gWd]? with
  | none => simp [hb] at h
  | some o => rw [hb] at h; rw [hc.obj hb hF]; exact h

set_option maxRecDepth 100000 in
set_option maxHeartbeats 4000000 in
theorem sadd_any (w : World) (b : Nat) (ss : List ByteArray) (g n c : Nat) (hn : n = ss.length) (hl : ss.length ≤ 1000) (hsz : sumSize ss ≤ 140737488355328) (hc : ∀ i (h : i < ss.length), w.cell? ⟨g, i, none⟩ = some (.string ss[i])) (hgb : g ≠ b)
    (hP : PressAt w b iv .empty 0) (hT : Lib.TabIs Tryz.prog w "apiary/stamp.words" .u32 wordsL) (hwb : gWd ≠ b) :
    Calls Tryz.prog 127 #[.pointer (some ⟨b, 0, none⟩), .slice (some ⟨g, 0, none⟩) n c] w
      (fun e w' => e = .returned (.pointer (some ⟨b, 0, none⟩)) ∧ PressAt w' b (addsR ss).1 (addsR ss).2.1 (addsR ss).2.2 ∧ Chg (fun k => k = b) w w') := by
  subst hn
  have HC := hid hc
  have HP := hid hP
  have HT := hid hT
  clear hc hP hT
  go_enter Tryz.func127, Tryz.ntmps127
  go_wp2_with fail
  go_loopw [11] (fun i wr => ∃ k : Nat, k ≤ ss.length ∧ i = .int .i64 k ∧ PressAt wr b (addsR (ss.take k)).1 (addsR (ss.take k)).2.1 (addsR (ss.take k)).2.2 ∧ Chg (fun k => k = b) w wr) (fun i _ => ss.length - (intOf i).toNat)
  case atStart => exact ⟨0, Nat.zero_le _, rfl, HP.out, Chg.refl _ w⟩
  case round =>
    obtain ⟨k, hk, rfl, ⟨cs, hS, h8, h9⟩, hch⟩ := hrel
    by_cases hkn : k < ss.length
    · have hkn' : (k : Int) < ss.length := by omega
      have hkc := hch.cell (p := ⟨g, k, none⟩) (HC.out k hkn) hgb
      have x8 := (cell_of hS.heap 8).trans h8
      have x9 := (cell_of hS.heap 9).trans h9
      have f8 := frozen_of hS.heap 8
      have f9 := frozen_of hS.heap 9
      have hless := addsR_less (ss.take k)
      have hnn := addsR_n (ss.take k)
      have hsg := sumSize_get ss k hkn
      have hcat : ¬ 9223372036854775807 < (addsR (ss.take k)).2.1.size + ss[k].size := by omega
      have hwr : IntKind.i64.wrap ((addsR (ss.take k)).2.2 + (ss[k].size : Int)) = (addsR (ss.take k)).2.2 + (ss[k].size : Int) := IntWalk.i64_in _ (by omega)
      have HNX := hid (addsR_take ss k hkn)
      generalize addsR (ss.take k) = q at hS h8 h9 x8 x9 hless hnn hcat hwr HNX
      have HS := hid hS
      have H89 := hid (And.intro h8 h9)
      have HCH := hid hch
      clear hS h8 h9 hch hnn
      go_wp2_with fail
      refine wp_gen (fun W => PressAt W b q.1 (q.2.1 ++ ss[k]) (q.2.2 + (ss[k].size : Int)) ∧ Chg (fun k => k = b) w W) ⟨⟨_, (HS.out.setHi 9 (by decide) _).setHi 8 (by decide) _, ?_, ?_⟩, (HCH.out.setCell (p := ⟨b, 9, none⟩) (fun _ => rfl) _).setCell (p := ⟨b, 8, none⟩) (fun _ => rfl) _⟩ ?_
      · have h8s := (Array.getElem?_eq_some_iff.1 H89.out.1).1
        rw [Array.getElem?_setIfInBounds, if_pos rfl, if_pos (by rw [Array.size_setIfInBounds]; exact h8s)]
      · have h9s := (Array.getElem?_eq_some_iff.1 H89.out.2).1
        rw [Array.getElem?_setIfInBounds, if_neg (by decide), Array.getElem?_setIfInBounds, if_pos rfl, if_pos h9s]
      clear HS H89 HCH x8 x9 f8 f9
      rintro wo ⟨hPo, hco⟩
      have HPO := hid hPo
      have HCO := hid hco
      clear hPo hco
      obtain ⟨A, hA⟩ : ∃ A, A = absorb (q.2.1.size + ss[k].size) q.1 (q.2.1 ++ ss[k]) := ⟨_, rfl⟩
      have HA := hid hA
      clear hA
      obtain ⟨n', hn'⟩ : ∃ n', n' = q.2.2 + (ss[k].size : Int) := ⟨_, rfl⟩
      rw [← hn'] at HPO
      have HN' := hid hn'
      clear hn' hwr
      go_loopw [46] (fun _ wr => ∃ m f r, r.size ≤ m ∧ r.size ≤ 140737488355328 + 64 ∧ absorb m f r = A ∧ PressAt wr b f r n' ∧ Chg (fun k => k = b) wo wr) (fun _ wr => restOf wr b)
      case atStart => exact ⟨_, _, _, by rw [ByteArray.size_append]; exact Nat.le_refl _, by rw [ByteArray.size_append]; omega, HA.out.symm, HPO.out, Chg.refl _ _⟩
      case round =>
        obtain ⟨m, f, r, hm, hrb, hab, ⟨cs', hS', h8', h9'⟩, hch'⟩ := hrel
        have x8 := (cell_of hS'.heap 8).trans h8'
        have f8 := frozen_of hS'.heap 8
        by_cases h64 : r.size < 64
        · have h64' : ¬ (64 : Int) ≤ (r.size : Int) := by omega
          have h64'' : (r.size : Int) < 64 := by omega
          have HS := hid hS'
          have H89 := hid (And.intro h8' h9')
          have HCH := hid hch'
          have HAB := hid hab
          clear hS' h8' h9' hch' hab
          go_wp2_with fail
          go_roundw
          case rel =>
            rw [absorb_end m f r h64] at HAB
            refine ⟨k + 1, by omega, by go_num, ?_, HCO.out.trans HCH.out (fun _ _ h => h)⟩
            have hN : addsR (ss.take (k + 1)) = (f, r, n') := by
              rw [HNX.out, HN'.out]
              show ((absorb (q.2.1.size + ss[k].size) q.1 (q.2.1 ++ ss[k])).1, (absorb (q.2.1.size + ss[k].size) q.1 (q.2.1 ++ ss[k])).2, q.2.2 + (ss[k].size : Int)) = _
              rw [← HA.out, ← HAB.out]
            rw [hN]
            exact ⟨cs', HS.out, H89.out.1, H89.out.2⟩
          case measure => simp [intOf]; omega
        · have h64' : (64 : Int) ≤ (r.size : Int) := by omega
          have hT' : Lib.TabIs Tryz.prog wr.drew "apiary/stamp.words" .u32 wordsL := by
            have hc1 : Chg (fun k => k = b) w wr.drew := (HCO.out.trans hch' (fun _ _ h => h)).drew
            exact words_chg HT.out hc1 hwb
          have hmix := mix_any (r.extract 0 64) (by simp; omega) wr.drew b 350 cs' f hS'.drew hT' hwb
          have hro := restOf_eq x8
          have HRO := hid hro
          have HS := hid hS'
          have H89 := hid (And.intro h8' h9')
          have HCH := hid hch'
          have HAB := hid hab
          clear hS' h8' h9' hch' hab hro
          go_wp2_with fail
          refine wp_region_still_tail 8 (by kernel_rfl) (by kernel_rfl) ?_
          simp only [List.take_succ_cons, List.take_zero, List.drop_succ_cons, List.drop_zero]
          repeat still_step
          refine wpStill_nil ?_
          change wpList _ _ _ _ _ wr.drew
          go_wp2_with (go_at_call 232; refine hmix.mono ?_; rintro e w5 ⟨rfl, cs5, hS5, hs5, hr5, hc5⟩; have y8 := (cell_of hS5.heap 8).trans ((hr5 8 (Nat.le_refl _)).trans H89.out.1); have z8 := frozen_of hS5.heap 8)
          have h8s := (Array.getElem?_eq_some_iff.1 ((hr5 8 (Nat.le_refl _)).trans H89.out.1)).1
          have h9n : (cs5.setIfInBounds 8 (.string (r.extract 64 r.size)))[9]? = some (.int .i64 n') := by
            rw [Array.getElem?_setIfInBounds, if_neg (by decide)]; exact (hr5 9 (by decide)).trans H89.out.2
          have h8n : (cs5.setIfInBounds 8 (.string (r.extract 64 r.size)))[8]? = some (.string (r.extract 64 r.size)) := by
            rw [Array.getElem?_setIfInBounds, if_pos rfl, if_pos h8s]
          have hS6 := hS5.setHi 8 (Nat.le_refl _) (.string (r.extract 64 r.size))
          have hr6 := restOf_eq ((cell_of hS6.heap 8).trans h8n)
          go_roundw
          case rel =>
            obtain ⟨m', rfl⟩ : ∃ m', m = m' + 1 := ⟨m - 1, by omega⟩
            refine ⟨m', mixR (r.extract 0 64) f, r.extract 64 r.size, by simp; omega, by simp; omega, ?_, ⟨_, hS6, h8n, h9n⟩, (HCH.out.drew.trans hc5 (fun _ _ h => h)).setCell (p := ⟨b, 8, none⟩) (fun _ => rfl) _⟩
            rw [← HAB.out]
            conv => rhs; unfold absorb
            rw [if_neg h64]
          case measure =>
            rw [hr6, HRO.out]
            simp
            omega
    · obtain rfl : k = ss.length := by omega
      go_wp2_with fail
      go_ret
      rw [List.take_length] at hS h8 h9
      exact ⟨rfl, ⟨cs, hS, h8, h9⟩, hch⟩
end Go.Proofs.YtijiggolphppbaaGreatDoor
