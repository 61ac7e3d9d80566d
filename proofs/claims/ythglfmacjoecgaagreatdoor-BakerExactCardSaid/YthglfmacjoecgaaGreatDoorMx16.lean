/- Texts of the proof, one behind the other: The baker's Results walked; slices.Clone of names; baker.New walked; trellis.Order's answer lies in a block of its own; The baker's Start walked; How large what lies there can be; apiarylaw21.awake walked; The baker's next job in one piece; Start of a plan; Small laws for the bakers' walks: loads, a job's digest, what results can be; TrellisOrders walked: it returns true; apiaryref08.has, At walked; apiaryref08.order walked. -/
import Derived.Test.YthglfmacjoecgaaGreatDoorMx15
import Derived.RegionTactic
import Derived.Test.YthglfmacjoecgaaGreatDoorMx05
import Derived.Test.YthglfmacjoecgaaGreatDoorMx06
import Derived.Test.YthglfmacjoecgaaGreatDoorMx07
namespace Go.Proofs.YthglfmacjoecgaaGreatDoor
open Go.RowKit

theorem outK (s : BkS) (k : Nat) (h : k < s.g.acts.length) : resL2 s.g s.t (s.g.acts.take (k + 1)) = resL2 s.g s.t (s.g.acts.take k) ++ (if isT s.t s.g.acts[k].name then [(s.g.acts[k].name, valT s.t s.g.acts[k].name)] else []) := by
  unfold resL2
  rw [List.take_succ_eq_append_getElem h, List.filter_append, List.map_append]
  congr 1
  by_cases h1 : isT s.t s.g.acts[k].name = true <;> simp [h1]
theorem MapL.run_lookup2 {P : Program} {κ ν : Type} [DecidableEq κ] {enc : κ → Value} {encv : ν → Value} {l : List (κ × ν)} {w : World} {r : Nat} (h : MapL w r enc encv l) {kt t e : TypeId} (K : KeyT P kt enc) (ht : P.underlying t = some (.map kt e)) {z : Value} (hz : ∀ w, (zeroValue e).run P w = .ok z w) (k : κ) (v : Value) (b : Bool)
    (hv : ((lfind k l 0).map fun x => encv x.2).getD z = v) (hb : (lfind k l 0).isSome = b) (n : Nat) :
    (Instr.lookup t (.map (some r)) (enc k) true).run P (w.drewN n) = .ok (.tuple #[v, .bool b]) (w.drewN n) := by
  have := MapL.look (P := P) (w := w.drewN n) h K ht (hz _) k true
  rw [this, hv, hb]
  rfl
def ResultsPost (w : World) (xs : List BltR) (e : Ending) (w' : World) : Prop := Chg (fun _ => False) w w' ∧ ∃ v, e = .returned v ∧ BltAt w' v xs
set_option maxRecDepth 100000 in
set_option maxHeartbeats 8000000 in
theorem bresults_any {w : World} {b r : Nat} {fp : Nat → Prop} {sv av ov : Value} {iv : Nat → Value} {s : BkS} (h : IsBk w b r fp sv av ov iv s) (h12 : s.g.acts.length ≤ 1000) :
    Calls Tryz.prog 43 #[.pointer (some ⟨b, 0, none⟩)] w (ResultsPost w s.out) := by
  obtain ⟨hn, ha, ho⟩ := h.now
  obtain ⟨o2, c2, rfl⟩ := ha.form
  have b1 := cell_of h.blk 1
  simp at b1
  have H := hid h
  clear h hn ha ho
  go_enter Tryz.func43, Tryz.ntmps43
  go_wp2_with fail
  clear b1
  go_loopw [2, 15] (fun v2 i wr => ∃ (k : Nat) (x : Value), x = v2 ∧ k ≤ s.g.acts.length ∧ i = .int .i64 k ∧ wr.ownsRow 0 53 3 x (resL2 s.g s.t (s.g.acts.take k)).length ((resL2 s.g s.t (s.g.acts.take k)).flatMap bltL) ∧ (∀ z, x.ownBlock = some z → w.heap.size ≤ z) ∧ Chg (fun _ => False) w wr) (fun _ i _ => s.g.acts.length - (intOf i).toNat)
  case atStart => exact ⟨0, _, rfl, Nat.zero_le _, rfl, World.ownsRow_nil _ _ _ _, (fun z hz => by cases hz), Chg.refl _ _⟩
  case round =>
    obtain ⟨k, x2, hx2, hk, rfl, hown, hbl, hch⟩ := hrel
    subst hx2
    have HOWN := hid hown
    have HBL := hid hbl
    have HCH := hid hch
    have HB := hid (H.out.same hch)
    obtain ⟨hn, ha, ho⟩ := HB.out.now
    clear hown hbl hch hn ho
    by_cases hkn : k < s.g.acts.length
    · have hkn' : (k : Int) < s.g.acts.length := by omega
      obtain ⟨bb, oo, hix, hlt, e0, e1, e2, hns, hw1, hw2⟩ := ha.at k hkn
      obtain ⟨oi, ci, hiv⟩ := hns.form
      rw [hiv] at e1
      have HTK := hid (outK s k hkn)
      have hlen : (resL2 s.g s.t (s.g.acts.take k)).length ≤ 1000 := by
        unfold resL2
        rw [List.length_map]
        have := List.length_filter_le (fun a : ActR => isT s.t a.name) (s.g.acts.take k)
        simp at this ⊢
        omega
      clear hiv hns hw1 hw2 ha
      generalize s.g.acts[k].ins.length = ni at *
      generalize s.g.acts[k].name = nm at *
      generalize bs s.g.acts[k].code = cd at *
      generalize resL2 s.g s.t (s.g.acts.take k) = L at *
      have HB5 := hid (HB.out.same (al_chg wr (.cells #[.string (bs nm), .slice oi ni ci, .string cd] 43)))
      have HC5 := hid (HCH.out.alloc (.cells #[.string (bs nm), .slice oi ni ci, .string cd] 43))
      have HK5 := hid (heap_alloc_new' wr (.cells #[.string (bs nm), .slice oi ni ci, .string cd] 43))
      have HO5 := hid (HOWN.out.alloc (.cells #[.string (bs nm), .slice oi ni ci, .string cd] 43))
      have HS5 : Hid ((wr.alloc (.cells #[.string (bs nm), .slice oi ni ci, .string cd] 43)).heap.size = wr.heap.size + 1) := hid (by simp)
      go_upto_region 6 with fail
      clear hix e0 e1 e2
      obtain ⟨ba, hba⟩ : ∃ ba, ba = wr.heap.size := ⟨_, rfl⟩
      rw [← hba] at HK5 HS5 ⊢
      have HBA := hid hba
      clear hba
      generalize wr.alloc (.cells #[.string (bs nm), .slice oi ni ci, .string cd] 43) = W5 at *
      have a0 := cell_of HK5.out 0
      have q4 := cell_of HB5.out.blk 4
      simp at a0 q4
      obtain ⟨rc, hrc⟩ : ∃ rc, rc = (valT s.t nm).1 := ⟨_, rfl⟩
      obtain ⟨rb, hrb⟩ : ∃ rb, rb = (valT s.t nm).2 := ⟨_, rfl⟩
      have hvv : resW (valT s.t nm) = .agg #[.int .i64 rc, .string rb] := by unfold resW; rw [hrc, hrb]
      have HVL : Hid (bltL (nm, valT s.t nm) = [.string (bs nm), .int .i64 rc, .string rb]) := hid (by unfold bltL; rw [hrc, hrb])
      have hlk : ∀ n, (Instr.lookup 110 (.map (some r)) (.string (bs nm)) true).run Tryz.prog (W5.drewN n) = .ok (.tuple #[.agg #[.int .i64 rc, .string rb], .bool (isT s.t nm)]) (W5.drewN n) := fun n => MapL.run_lookup2 HB5.out.map keyNm Tryz.underlying110 zeroR nm _ _ (by rw [lookV, hvv]) (lookT s.t nm) n
      have hlk0 : (Instr.lookup 110 (.map (some r)) (.string (bs nm)) true).run Tryz.prog W5 = .ok (.tuple #[.agg #[.int .i64 rc, .string rb], .bool (isT s.t nm)]) W5 := hlk 0
      have hlk1 : (Instr.lookup 110 (.map (some r)) (.string (bs nm)) true).run Tryz.prog W5.drew = .ok (.tuple #[.agg #[.int .i64 rc, .string rb], .bool (isT s.t nm)]) W5.drew := hlk 1
      have hlkA : (Instr.lookup 110 (.map (some r)) (.string (bs nm)) true).run Tryz.prog (W5.alloc (.cells #[.int .i64 0, .string { data := #[] }] 47)).drew = .ok (.tuple #[.agg #[.int .i64 rc, .string rb], .bool (isT s.t nm)]) (W5.alloc (.cells #[.int .i64 0, .string { data := #[] }] 47)).drew := MapL.run_lookup2 (HB5.out.same (al_chg W5 (.cells #[.int .i64 0, .string { data := #[] }] 47))).map keyNm Tryz.underlying110 zeroR nm _ _ (by rw [lookV, hvv]) (lookT s.t nm) 1
      have a0' := cell_alloc' a0 (.cells #[.int .i64 0, .string { data := #[] }] 47)
      have q4' := cell_alloc' q4 (.cells #[.int .i64 0, .string { data := #[] }] 47)
      clear hvv hrc hrb
      generalize isT s.t nm = T at *
      go_cut [5, 6] from 19 to 29 (fun s5 s6 wx => ∃ xb : Nat, s5 = .pointer (some ⟨xb, 0, none⟩) ∧ s6 = .bool T ∧ wx.heap[xb]? = some (.cells #[.int .i64 rc, .string rb] 47 (0, 0)) ∧ Chg (fun _ => False) W5 wx)
      case first =>
        go_region
        all_goals go_wp2_with fail
        all_goals go_meet
        all_goals exact ⟨W5.heap.size, rfl, rfl, heap_alloc_new' W5 _, (al_chg W5 _).drew⟩
      case rest =>
       obtain ⟨xb, rfl, rfl, hxb, hcx⟩ := hcut
       have HXB := hid hxb
       have HCX := hid hcx
       have HO6 := hid (hcx.owns HO5.out (fun _ _ h => h))
       have a6 := cell_of (hcx.obj HK5.out (fun h => h)) 0
       have x0 := cell_of hxb 0
       have x1 := cell_of hxb 1
       simp at a6 x0 x1
       clear hxb hcx hlk hlk0 hlk1 hlkA a0 a0' q4 q4'
       cases T with
       | false =>
         go_wp2_with fail
         go_roundw
         case rel => exact ⟨k + 1, x2, rfl, by omega, by go_num, by rw [HTK.out]; simpa using HO6.out, HBL.out, HC5.out.trans HCX.out (fun _ _ h => h)⟩
         case measure => simp [intOf]; omega
       | true =>
         go_wp2_with (guard_target =~ wpList _ _ _ (Oper.mk (some 37) _ _ _ _ _ :: _) _ _; refine wpList_append_new rfl _ _ 29 rfl elBlt HO6.out rfl #[.string (bs nm), .int .i64 rc, .string rb] 1 1 rfl rfl rfl (by unfold maxLen; omega) (by omega) (by decide) ?_; intro g6 cap6 w6 hown6 hch6 hg6)
         go_roundw
         case rel =>
           refine ⟨k + 1, _, rfl, by omega, by go_num, ?_, fun z hz => ?_, (HC5.out.trans HCX.out (fun _ _ h => h)).trans hch6 (fun z hz e => absurd (HBL.out z e) (by omega))⟩
           · rw [HTK.out, if_pos rfl, List.length_append, List.flatMap_append]
             have e3 : [(nm, valT s.t nm)].flatMap bltL = bltL (nm, valT s.t nm) := by simp
             rw [e3, HVL.out]
             exact hown6
           · obtain rfl := own_eq hz
             rcases hg6 with h | h
             · exact HBL.out _ h
             · have h1 := HCX.out.size
               have h2 := HC5.out.size
               omega
         case measure => simp [intOf]; omega
    · obtain rfl : k = s.g.acts.length := by omega
      have hown := HOWN.out
      rw [List.take_length] at hown
      have HO := hid hown
      have HL : Hid ((resL2 s.g s.t s.g.acts).length ≤ 1000) := hid (by
        unfold resL2
        rw [List.length_map]
        have := List.length_filter_le (fun a : ActR => isT s.t a.name) s.g.acts
        omega)
      clear hown ha
      go_wp2_with fail
      go_ret
      exact ⟨HCH.out, _, rfl, BltAt.of_owns rfl HO.out HL.out⟩
end Go.Proofs.YthglfmacjoecgaaGreatDoor
namespace Go.Proofs.YthglfmacjoecgaaGreatDoor
open Go.RowKit

def ClonePost (w : World) (ss : List Nm) (e : Ending) (w' : World) : Prop := ∃ v', e = .returned v' ∧ w'.ownsRow 0 9 1 v' ss.length (ss.map nmV) ∧ (∀ k, v'.ownBlock = some k → w.heap.size ≤ k) ∧ Chg (fun _ => False) w w'
theorem chg_below {w w' : World} (h : Below w.heap.size w w') : Chg (fun _ => False) w w' := (Chg.of_below h).mono (fun i hi hb => absurd hb (by omega))
theorem own_base {w : World} {B : Nat} {e : TypeId} {size n : Nat} {v : Value} {xs : List Value} (h : w.ownsRow B e size v n xs) : w.ownsRow 0 e size v n xs ∧ ∀ k, v.ownBlock = some k → B ≤ k := by
  refine ⟨⟨h.1, ?_⟩, fun k hk => ?_⟩
  · rcases h.2 with h1 | ⟨g, cap, cur, h1, _, h2⟩
    · exact .inl h1
    · exact .inr ⟨g, cap, cur, h1, Nat.zero_le _, h2⟩
  · rcases h.2 with ⟨h1, _⟩ | ⟨g, cap, cur, h1, hb, _⟩
    · rw [h1] at hk; cases hk
    · rw [h1] at hk
      obtain rfl := own_eq hk
      exact hb
theorem clone_names (v : Value) (ss : List Nm) (w : World) (h : NamesAt w v ss) (hl : ss.length ≤ 1000) : Calls Tryz.prog 77 #[v] w (ClonePost w ss) := by
  rcases h.1 with ⟨rfl, h0⟩ | ⟨a, cap, rfl, hc⟩
  · have hs : ss = [] := List.map_eq_nil_iff.1 h0
    subst hs
    refine (Tryz.slices_Clone_string_nil 0 0 w).mono ?_
    rintro e w' ⟨rfl, rfl⟩
    exact ⟨_, rfl, World.ownsRow_nil _ _ _ _, (fun k hk => by cases hk), Chg.refl _ _⟩
  · by_cases hn : ss = []
    · subst hn
      refine (Tryz.slices_Clone_string_zero a cap w).mono ?_
      rintro e w' ⟨v', rfl, h1, _, h2⟩
      obtain ⟨h3, h4⟩ := own_base h1
      exact ⟨v', rfl, h3, h4, chg_below h2⟩
    · have hpos : 0 < (ss.map bs).length := by simp; exact List.length_pos_iff.2 hn
      have h0 := hc 0 hpos
      have hsp := World.cell?_spot h0
      have hadd : a.add 0 = a := by unfold Addr.add; simp
      rw [hadd] at hsp
      obtain ⟨b, off, sp⟩ := a
      simp only at hsp
      subst hsp
      have hlen : (ss.map bs).length = ss.length := by simp
      rw [hlen]
      refine (Tryz.slices_Clone_string b off ss.length cap (ss.map bs) w (by simp) (by omega) (fun j hj => ?_)).mono ?_
      · have := hc j hj
        have hadd2 : (⟨b, off, none⟩ : Addr).add j = ⟨b, off + j, none⟩ := by unfold Addr.add; split <;> simp_all
        rw [hadd2] at this
        rw [this]
        congr 2
        rw [List.getD_eq_getElem?_getD, List.getElem?_eq_getElem hj]
        rfl
      · rintro e w' ⟨v', rfl, h1, _, h2⟩
        obtain ⟨h3, h4⟩ := own_base h1
        have e1 : ((ss.map bs).take ss.length).map Value.string = ss.map nmV := by
          rw [List.take_of_length_le (by simp), List.map_map]
          rfl
        rw [e1] at h3
        exact ⟨v', rfl, h3, h4, chg_below h2⟩
/-- A new baker. -/
def NewPost (w : World) (e : Ending) (w' : World) : Prop := ∃ b r, e = .returned (.pointer (some ⟨b, 0, none⟩)) ∧ IsBk w' b r (fun _ => False) (.slice none 0 0) (.slice none 0 0) (.slice none 0 0) (fun _ => .slice none 0 0) BkS.new ∧ w.heap.size ≤ b ∧ w.heap.size ≤ r ∧ Chg (fun _ => False) w w'
theorem bkIn_nil (w : World) (fp : Nat → Prop) : BkIn w fp (.slice none 0 0) (.slice none 0 0) (.slice none 0 0) (fun _ => .slice none 0 0) noGr [] := by
  intro G w' _ _
  refine ⟨⟨.inl ⟨rfl, rfl⟩, Nat.zero_le _, by simp [noGr]⟩, ?_, ⟨.inl ⟨rfl, rfl⟩, Nat.zero_le _, fun i hi => absurd hi (Nat.not_lt_zero _)⟩⟩
  exact ⟨⟨.inl ⟨rfl, rfl⟩, Nat.zero_le _, fun i hi => absurd hi (Nat.not_lt_zero _)⟩, fun i hi => absurd hi (Nat.not_lt_zero _), fun a ha => by cases ha⟩
theorem bnew_any (w : World) : Calls Tryz.prog 39 #[] w (NewPost w) := by
  have HM := hid (MapL.fresh (enc := nmV) (encv := resW) w)
  have HC := hid (al_chg w (.map #[] 0))
  have hmm := @run_makeMap Tryz.prog
  go_enter Tryz.func39, Tryz.ntmps39
  go_wp2_with fail
  go_ret
  have HB := heap_alloc_new' (w.alloc (.map #[] 0)) (.cells #[.slice none 0 0, .slice none 0 0, .int .i64 0, .slice none 0 0, .map (some w.heap.size)] 142)
  have hs : (w.alloc (.map #[] 0)).heap.size = w.heap.size + 1 := by simp
  rw [hs] at HB
  refine ⟨w.heap.size + 1, w.heap.size, rfl, ⟨by omega, HB, HM.out.al _, (fun h => h), (fun h => h), (fun k h => h.elim), bkIn_nil _ _⟩, by omega, Nat.le_refl _, HC.out.alloc _⟩
end Go.Proofs.YthglfmacjoecgaaGreatDoor
namespace Go.Proofs.YthglfmacjoecgaaGreatDoor
open Go.RowKit

def OrdPost (w : World) (l : List Nat) (e : Ending) (w' : World) : Prop := Chg (fun _ => False) w w' ∧ ∃ v, e = .returned v ∧ w'.ownsRow 0 3 1 v l.length (l.map natV) ∧ ∀ k, v.ownBlock = some k → w.heap.size ≤ k
set_option maxRecDepth 100000 in
set_option maxHeartbeats 4000000 in
theorem order_fresh (g : GrR) (hw : Wov g) (w : World) (b : Nat) (hb : IsWeb w b g) :
    Calls Tryz.prog 114 #[.pointer (some ⟨b, 0, none⟩)] w (OrdPost w (orderR g)) := by
  have hmm := @run_makeMap Tryz.prog
  have hn12 := hw.acts12
  have HB := hid hb
  have HW := hid hw
  clear hb hw
  go_enter Tryz.func114, Tryz.ntmps114
  go_wp2_with fail
  obtain ⟨W1, hW1⟩ : ∃ W1, W1 = w.alloc (.cells #[.pointer (some ⟨b, 0, none⟩)] 136) := ⟨_, rfl⟩
  obtain ⟨W2, hW2⟩ : ∃ W2, W2 = W1.alloc (.map #[] 0) := ⟨_, rfl⟩
  obtain ⟨W3, hW3⟩ : ∃ W3, W3 = W2.alloc (.cells #[.map (some (w.heap.size + 1))] 139) := ⟨_, rfl⟩
  obtain ⟨W4, hW4⟩ : ∃ W4, W4 = W3.alloc (.cells #[.func (.func 133) #[] #[.pointer (some ⟨w.heap.size, 0, none⟩), .pointer (some ⟨w.heap.size + 1 + 1, 0, none⟩)]] 116) := ⟨_, rfl⟩
  have z1 : W1.heap.size = w.heap.size + 1 := by rw [hW1]; simp
  have z2 : W2.heap.size = w.heap.size + 1 + 1 := by rw [hW2]; simp [z1]
  have z3 : W3.heap.size = w.heap.size + 1 + 1 + 1 := by rw [hW3]; simp [z2]
  have z4 : W4.heap.size = w.heap.size + 1 + 1 + 1 + 1 := by rw [hW4]; simp [z3]
  have hch4 : Chg (fun _ => False) w W4 := by rw [hW4, hW3, hW2, hW1]; exact ((((Chg.refl _ w).alloc _).alloc _).alloc _).alloc _
  have p4 : W4.cell? ⟨w.heap.size, 0, none⟩ = some (.pointer (some ⟨b, 0, none⟩)) := by
    rw [hW4, hW3, hW2]
    exact cell_alloc' (cell_alloc' (cell_alloc' (by rw [hW1]; exact cell_of (heap_alloc_new' w _) 0) _) _) _
  have m4 : MapL W4 (w.heap.size + 1) nmV boolV (doneL g []) := by
    have h : MapL W2 W1.heap.size nmV boolV (doneL g []) := hW2 ▸ MapL.fresh W1
    rw [z1] at h
    rw [hW4, hW3]
    exact (h.al _).al _
  have d4 : W4.cell? ⟨w.heap.size + 1 + 1, 0, none⟩ = some (.map (some (w.heap.size + 1))) := by
    rw [hW4, hW3, ← z2]
    exact cell_alloc' (cell_of (heap_alloc_new' W2 _) 0) _
  have f4 : W4.cell? ⟨w.heap.size + 1 + 1 + 1, 0, none⟩ = some (.func (.func 133) #[] #[.pointer (some ⟨w.heap.size, 0, none⟩), .pointer (some ⟨w.heap.size + 1 + 1, 0, none⟩)]) := by
    rw [hW4, ← z3]
    exact cell_of (heap_alloc_new' W3 _) 0
  rw [← hW1, ← hW2, ← hW3, ← hW4]
  obtain ⟨bp, hbp⟩ : ∃ bp, bp = w.heap.size := ⟨_, rfl⟩
  obtain ⟨rd, hrd⟩ : ∃ rd, rd = w.heap.size + 1 := ⟨_, rfl⟩
  obtain ⟨bd, hbd⟩ : ∃ bd, bd = w.heap.size + 1 + 1 := ⟨_, rfl⟩
  obtain ⟨bf, hbf⟩ : ∃ bf, bf = w.heap.size + 1 + 1 + 1 := ⟨_, rfl⟩
  rw [← hbf, ← hbd, ← hrd, ← hbp]
  rw [← hbp] at p4
  rw [← hrd] at m4
  rw [← hbd, ← hrd] at d4
  rw [← hbf, ← hbd, ← hbp] at f4
  clear hW1 hW2 hW3 hW4 W1 W2 W3 z1 z2 z3 hmm
  have hfar : ∀ W, Chg (fun k => k = rd) W4 W → Chg (fun _ => False) w W := fun W hW => hch4.trans hW (fun i hi h => by omega)
  have hcp : ∀ W, Chg (fun k => k = rd) W4 W → W.cell? ⟨bp, 0, none⟩ = some (.pointer (some ⟨b, 0, none⟩)) := fun W hW => hW.cell p4 (by show ¬ bp = rd; omega)
  have hcd : ∀ W, Chg (fun k => k = rd) W4 W → W.cell? ⟨bd, 0, none⟩ = some (.map (some rd)) := fun W hW => hW.cell d4 (by show ¬ bd = rd; omega)
  have hcf : ∀ W, Chg (fun k => k = rd) W4 W → W.cell? ⟨bf, 0, none⟩ = some (.func (.func 133) #[] #[.pointer (some ⟨bp, 0, none⟩), .pointer (some ⟨bd, 0, none⟩)]) := fun W hW => hW.cell f4 (by show ¬ bf = rd; omega)
  obtain ⟨sv, av, iv, r, lm, hb⟩ := HB.out
  have hca : ∀ W, Chg (fun k => k = rd) W4 W → W.cell? ⟨b, 1, none⟩ = some av := fun W hW => cell_of ((hfar W hW).obj hb.blk (fun h => h)) 1
  have HF := hid hfar
  have HCP := hid hcp
  have HCD := hid hcd
  have HCF := hid hcf
  have HCA := hid hca
  have HBA := hid hb
  have HM4 := hid m4
  have HSZ : Hid (w.heap.size ≤ W4.heap.size) := by show w.heap.size ≤ W4.heap.size; omega
  have HZ : Hid (rd < W4.heap.size) := by show rd < W4.heap.size; omega
  clear hfar hcp hcd hcf hca hb m4 p4 d4 f4 hch4 z4 hbp hrd hbd hbf
  go_loopw [2] (fun v wr => ∃ (l : List Nat) (x : Value), x = v ∧ Ordd g l ∧ orderR g = orderGo g (g.acts.length - l.length) l ∧ wr.ownsRow 0 3 1 v l.length (l.map natV) ∧ (∀ k, v.ownBlock = some k → W4.heap.size ≤ k) ∧ MapL wr rd nmV boolV (doneL g l) ∧ Chg (fun k => k = rd) W4 wr) (fun v _ => g.acts.length - lenOf v)
  case atStart => exact ⟨[], _, rfl, Ordd.nil g, rfl, World.ownsRow_nil _ _ _ _, (fun k h => by cases h), HM4.out, Chg.refl _ _⟩
  case round =>
    obtain ⟨l, v, hv, ho, hgo, hown, hbl, hm, hch⟩ := hrel
    subst hv
    have HO := hid ho
    have HGO := hid hgo
    have HOWN := hid hown
    have HBL := hid hbl
    have HM := hid hm
    have HC := hid hch
    clear ho hgo hown hbl hm hch
    have q1 := HCP.out _ HC.out
    have q2 := HCA.out _ HC.out
    have hix := ixa_ready (some ⟨bd, 0, none⟩) (some ⟨bf, 0, none⟩) (readyB g l) av g.acts iv wr (HBA.out.acts.chg (HF.out _ HC.out) (fun _ _ h => h)) (fun k hk W hW =>
      ready_any g HW.out l g.acts[k] (iv k) (List.getElem_mem hk) W bp bd b rd bf (hW.cell q1 (fun h => h)) ((HB.out.chg (HF.out _ HC.out) (fun _ _ h => h)).chg hW (fun _ _ h => h)) (hW.cell (HCD.out _ HC.out) (fun h => h)) (HM.out.chg hW (fun h => h)) (hW.cell (HCF.out _ HC.out) (fun h => h))
        (by
          have := (HBA.out.acts.ins k hk)
          rw [getD_of_lt _ _ _ hk] at this
          exact (this.chg (HF.out _ HC.out) (fun _ _ h => h)).chg hW (fun _ _ h => h)))
    rw [stepR_place] at hix
    cases hs : stepR g l with
    | none =>
      rw [hs] at hix
      have HE : Hid (orderR g = l) := by
        show orderR g = l
        rw [HGO.out]
        cases g.acts.length - l.length with
        | zero => rfl
        | succ n => unfold orderGo; rw [hs]
      clear hs
      go_wp2_with (go_at_call 135; refine hix.mono ?_; rintro e w5 ⟨rfl, hc5⟩)
      go_ret
      refine ⟨(HF.out _ HC.out).trans hc5 (fun _ _ h => h), _, rfl, ?_, fun k hk => Nat.le_trans HSZ.out (HBL.out k hk)⟩
      rw [HE.out]
      exact hc5.owns HOWN.out (fun _ _ h => h)
    | some i =>
      rw [hs] at hix
      have hix2 : Calls Tryz.prog 135 #[av, .func (.func 134) #[] #[.pointer (some ⟨bd, 0, none⟩), .pointer (some ⟨bf, 0, none⟩)]] wr (Rets (.int .i64 (i : Int)) (Chg (fun _ => False) wr)) := hix
      have hi := (stepR_some hs).1
      have ho2 := HO.out.snoc hs
      have hle := ho2.le
      simp at hle
      have HO2 := hid ho2
      have HGO2 : Hid (orderR g = orderGo g (g.acts.length - (l ++ [i]).length) (l ++ [i])) := by
        show orderR g = _
        rw [HGO.out]
        obtain ⟨n, hn⟩ : ∃ n, g.acts.length - l.length = n + 1 := ⟨g.acts.length - l.length - 1, by omega⟩
        rw [hn]
        have : g.acts.length - (l ++ [i]).length = n := by simp; omega
        rw [this]
        conv => lhs; unfold orderGo
        rw [hs]
      have hi0 : ¬ ((i : Int) < 0) := by omega
      clear hs hix ho2
      go_wp2_with (first | (go_at_call 135; refine hix2.mono ?_; rintro e w5 ⟨rfl, hc5⟩; have hown5 := hc5.owns HOWN.out (fun _ _ h => h)) | (refine wpList_append_new rfl _ _ 75 rfl elInt hown5 rfl _ 1 1 rfl rfl rfl (by unfold maxLen; omega) (by omega) (by decide) ?_; intro g6 cap6 w6 hown6 hch6 hg6))
      have hC6 : Chg (fun k => k = rd) W4 w6 := ((HC.out.trans hc5 (fun _ _ h => h.elim)).trans hch6 (fun j hj h => absurd (HBL.out j h) (by omega)))
      have hC56 : Chg (fun k => v.ownBlock = some k) wr w6 := (hc5.mono (fun _ _ h => h.elim)).trans hch6 (fun _ _ h => h)
      have hM6 : MapL w6 rd nmV boolV (doneL g l) := HM.out.chg hC56 (fun h => by have := HBL.out _ h; have := HZ.out; omega)
      obtain ⟨bb, oo, hiy, hlt, e0, _, _, _, _, _⟩ := (HBA.out.acts.chg (HF.out _ hC6) (fun _ _ h => h)).at i hi
      have y1 := HCP.out _ hC6
      have y2 := HCA.out _ hC6
      have y3 := HCD.out _ hC6
      have HC6 := hid hC6
      have HM6 := hid hM6
      have HNM := hid (nameAt_lt g i hi)
      have HOW6 := hid hown6
      have HG6 : Hid (W4.heap.size ≤ g6) := by
        show W4.heap.size ≤ g6
        rcases hg6 with h | h
        · exact HBL.out _ h
        · have h1 := HC.out.size; have h2 := hc5.size; omega
      clear hC6 hC56 hM6 hown6 hch6 hg6 hown5 hc5 hix2
      generalize hnm : g.acts[i].name = nm at *
      have HN2 := hid hnm
      clear hnm
      go_still_tail 11, (by kernel_rfl)
      change wpList _ _ _ _ _ w6.drew
      refine wpList_mapUpdate_l rfl _ _ _ 139 rfl keyNm Tryz.underlying139 (show MapL w6.drew rd nmV boolV _ from HM6.out) rfl nm rfl true rfl ?_
      intro w7 hm7 hc7
      go_frame
      go_wp2_with fail
      go_roundw
      case rel =>
        refine ⟨l ++ [i], _, rfl, HO2.out, HGO2.out, ?_, ?_, ?_, HC6.out.drew.trans hc7 (fun _ _ h => h)⟩
        · have h1 := hc7.owns (show w6.drew.ownsRow _ _ _ _ _ _ from HOW6.out) (fun k hk => by
            simp [Value.ownBlock] at hk; have := HG6.out; have := HZ.out; omega)
          simpa using h1
        · intro k hk
          simp [Value.ownBlock] at hk
          have := HG6.out
          omega
        · rw [doneL_snoc, HNM.out]
          exact hm7
      case measure =>
        have h1 := owns_lenOf HOWN.out
        simp [lenOf] at h1 ⊢
        omega
set_option maxRecDepth 100000 in
set_option maxHeartbeats 1000000 in
theorem torder_fresh (g : GrR) (hz : checkR g = 0) (v : Value) (w : World) (hg : GrAt w v g) : Calls Tryz.prog 78 #[v] w (OrdPost w (orderR g)) := by
  obtain ⟨oa, c, ob, d, iv, rfl, hs, ha⟩ := hg.form
  have hC1 : Chg (fun _ => False) w (w.alloc (.cells #[.slice oa g.srcs.length c, .slice ob g.acts.length d] 25)) := (Chg.refl _ w).alloc _
  have hwv := checked_any g _ _ (hg.chg hC1 (fun _ _ h => h))
  unfold CheckedPost at hwv
  clear hs ha hg
  have hw := (can_iff.1 hz).w
  have hwv2 : Calls Tryz.prog 73 #[.agg #[.slice oa g.srcs.length c, .slice ob g.acts.length d]] (w.alloc (.cells #[.slice oa g.srcs.length c, .slice ob g.acts.length d] 25)) (fun e w' => ∃ b, e = .returned (.tuple #[.pointer (some ⟨b, 0, none⟩), .int .i64 0]) ∧ Chg (fun _ => False) (w.alloc (.cells #[.slice oa g.srcs.length c, .slice ob g.acts.length d] 25)) w' ∧ IsWeb w' b g) :=
    hwv.mono (fun e w' ⟨h1, h2⟩ => by
      rcases h2 with ⟨_, b, h3, h4⟩ | ⟨h3, _⟩
      · exact ⟨b, h3, h1, h4⟩
      · exact absurd hz h3)
  have HW := hid hw
  clear hz hwv hw
  go_enter Tryz.func78, Tryz.ntmps78
  go_wp2_with (first | (go_at_call 73; refine hwv2.mono ?_; rintro e w2 ⟨b, rfl, hc2, hb2⟩; have HB2 := hid hb2; clear hb2) | (go_at_call 114; refine (order_fresh g HW.out _ _ HB2.out).mono ?_; rintro e w3 ⟨hc3, v3, rfl, hown3, hbl3⟩))
  go_ret
  exact ⟨(hC1.trans hc2 (fun _ _ h => h)).trans hc3 (fun _ _ h => h), v3, rfl, hown3, fun k hk => Nat.le_trans (hC1.trans hc2 (fun _ _ h => h)).size (hbl3 k hk)⟩
end Go.Proofs.YthglfmacjoecgaaGreatDoor
namespace Go.Proofs.YthglfmacjoecgaaGreatDoor
open Go.RowKit

/-- A build that is being begun: block b's cells; what has been laid anew lies at base and above, apart from the map and from the actions' own row. -/
structure SGr (base : Nat) (W : World) (b r : Nat) (sv av ov : Value) (srcs : List Nm) (ord : List Nat) (ps : List (ActR × Value)) (t : ThT) : Prop where
  rge : base ≤ r
  blk : W.heap[b]? = some (.cells #[sv, av, .int .i64 1, ov, .map (some r)] 142 (0, 0))
  map : MapL W r nmV resW t
  ao : W.ownsRow 0 43 3 av ps.length (flatA ps)
  aob : ∀ k, av.ownBlock = some k → base ≤ k ∧ k ≠ r
  inn : ∀ (G : Nat → Prop) (W' : World), Chg G W W' → (∀ k, k < W.heap.size → base ≤ k → k ≠ r → av.ownBlock ≠ some k → ¬ G k) → NamesAt W' sv srcs ∧ IntsAt W' ov ord ∧ ∀ p ∈ ps, NamesAt W' p.2 p.1.ins
section
variable {base : Nat} {W W1 : World} {b r : Nat} {sv av av1 ov : Value} {srcs : List Nm} {ord : List Nat} {ps : List (ActR × Value)} {t t1 : ThT}
theorem SGr.keep (h : SGr base W b r sv av ov srcs ord ps t) {F : Nat → Prop} (hc : Chg F W W1) (hF : ∀ k, k < W.heap.size → F k → k < base ∧ k ≠ b) (_hb : b < base) : SGr base W1 b r sv av ov srcs ord ps t := by
  have hr : ¬ F r := fun e => by have := hF r h.map.lt e; have := h.rge; omega
  have ha : ∀ k, av.ownBlock = some k → ¬ F k := fun k hk e => by have h1 := (World.ownsRow.lt h.ao k hk).2; have := hF k h1 e; have := h.aob k hk; omega
  refine ⟨h.rge, hc.obj h.blk (fun e => (hF b (heap_lt h.blk) e).2 rfl), h.map.chg hc hr, hc.owns h.ao ha, h.aob, fun G W' hG hd => ?_⟩
  exact h.inn (fun k => F k ∨ G k) W' ((hc.mono (fun _ _ h => .inl h)).trans hG (fun _ _ h => .inr h)) (fun k hk hb2 hr2 ha2 e => e.elim (fun e => by have := hF k hk e; omega) (hd k (Nat.lt_of_lt_of_le hk hc.size) hb2 hr2 ha2))
/-- The slices hold while the actions' row, the map and block b are turned. -/
theorem SGr.turned (h : SGr base W b r sv av ov srcs ord ps t) {F : Nat → Prop} (hc : Chg F W W1) (hF : ∀ k, k < W.heap.size → F k → k < base ∨ k = r ∨ av.ownBlock = some k) (hav : ∀ k, k < W.heap.size → av1.ownBlock = some k → av.ownBlock = some k)
    (G : Nat → Prop) (W' : World) (hG : Chg G W1 W') (hd : ∀ k, k < W1.heap.size → base ≤ k → k ≠ r → av1.ownBlock ≠ some k → ¬ G k) : NamesAt W' sv srcs ∧ IntsAt W' ov ord ∧ ∀ p ∈ ps, NamesAt W' p.2 p.1.ins :=
  h.inn (fun k => F k ∨ G k) W' ((hc.mono (fun _ _ h => .inl h)).trans hG (fun _ _ h => .inr h)) (fun k hk hb2 hr2 ha2 e => e.elim (fun e => by rcases hF k hk e with e | e | e; omega; exact hr2 e; exact ha2 e) (hd k (Nat.lt_of_lt_of_le hk hc.size) hb2 hr2 (fun e => ha2 (hav k hk e))))
/-- Begun: all actions and all sources are there. -/
theorem SGr.done (h : SGr base W b r sv av ov srcs ord ps t) (hb : b < base) (hl : ps.length ≤ 1000) (hw : ∀ p ∈ ps, p.1.name.length ≤ maxLen ∧ p.1.code.length ≤ maxLen) :
    IsBk W b r (fun k => base ≤ k ∧ k ≠ r ∧ k < W.heap.size) sv av ov (fun i => (ps.map (·.2)).getD i (.bool true)) ⟨⟨srcs, ps.map Prod.fst⟩, 1, ord, t⟩ := by
  refine ⟨fun e => by have := h.rge; omega, h.blk, h.map, fun e => by omega, fun e => e.2.1 rfl, fun k hk => hk.2.2, fun G W' hG hd => ?_⟩
  obtain ⟨h1, h2, h3⟩ := h.inn G W' hG (fun k hk hb2 hr2 _ => hd k hk ⟨hb2, hr2, hk⟩)
  exact ⟨h1, ActsAt.of_owns (hG.owns h.ao (fun k hk => by have h4 := h.aob k hk; have h5 := (World.ownsRow.lt h.ao k hk).2; exact hd k h5 ⟨h4.1, h4.2, h5⟩)) (by unfold maxLen; omega) h3 hw, h2⟩
/-- One action more. -/
theorem SGr.push (h : SGr base W b r sv av ov srcs ord ps t) (hb : b < base) {a : ActR} {x : Value} (hx : W.ownsRow 0 9 1 x a.ins.length (a.ins.map nmV)) (hxb : ∀ k, x.ownBlock = some k → base ≤ k ∧ k ≠ r ∧ av.ownBlock ≠ some k) (hl : a.ins.length ≤ maxLen) (hw : ∀ s ∈ a.ins, s.length ≤ maxLen)
    {w6 : World} {g6 cap6 : Nat} (hown : w6.ownsRow 0 43 3 (.slice (some ⟨g6, 0, none⟩) (ps.length + 1) cap6) (ps.length + 1) (flatA ps ++ [strV a.name, x, strV a.code])) (hch : Chg (fun k => av.ownBlock = some k) W w6) (hg : av.ownBlock = some g6 ∨ W.heap.size ≤ g6) :
    SGr base (w6.setCell ⟨b, 1, none⟩ (.slice (some ⟨g6, 0, none⟩) (ps.length + 1) cap6)) b r sv (.slice (some ⟨g6, 0, none⟩) (ps.length + 1) cap6) ov srcs ord (ps ++ [(a, x)]) t := by
  have hbl := heap_lt h.blk
  have hrl := h.map.lt
  have hrg := h.rge
  have hg6 : base ≤ g6 ∧ g6 ≠ r := by
    rcases hg with e | e
    · exact h.aob _ e
    · omega
  have hset : Chg (fun k => k = b) w6 (w6.setCell ⟨b, 1, none⟩ (.slice (some ⟨g6, 0, none⟩) (ps.length + 1) cap6)) := (Chg.refl (fun k => k = b) w6).setCell (p := ⟨b, 1, none⟩) (fun _ => rfl) _
  have hall : Chg (fun k => k = b ∨ av.ownBlock = some k) W (w6.setCell ⟨b, 1, none⟩ (.slice (some ⟨g6, 0, none⟩) (ps.length + 1) cap6)) := (hch.mono (G := fun k => k = b ∨ av.ownBlock = some k) (fun _ _ h => .inr h)).trans hset (fun _ _ h => .inl h)
  have hab : ∀ k, av.ownBlock = some k → k ≠ b ∧ k ≠ r := fun k hk => by have := h.aob k hk; omega
  have h6 := hch.obj h.blk (fun e => (hab b e).1 rfl)
  have h7 := heap_set_same h6 1 (.slice (some ⟨g6, 0, none⟩) (ps.length + 1) cap6)
  simp at h7
  refine ⟨h.rge, h7, h.map.chg hall (fun e => e.elim (fun e => by omega) (fun e => (hab r e).2 rfl)), ?_, fun k hk => ?_, fun G W' hG hd => ?_⟩
  · rw [flatA_append, List.length_append]
    exact hset.owns hown (fun k hk e => by obtain rfl := own_eq hk; omega)
  · obtain rfl := own_eq hk
    exact hg6
  · obtain ⟨h1, h2, h3⟩ := h.turned (av1 := .slice (some ⟨g6, 0, none⟩) (ps.length + 1) cap6) hall (fun k _ e => e.elim (fun e => .inl (by omega)) (fun e => .inr (.inr e))) (fun k hk e => by
      obtain rfl := own_eq e
      exact hg.elim id (fun e => by omega)) G W' hG hd
    refine ⟨h1, h2, fun p hp => ?_⟩
    rcases List.mem_append.1 hp with hp | hp
    · exact h3 p hp
    · obtain rfl := List.mem_singleton.1 hp
      refine NamesAt.of_owns (hG.owns (hall.owns hx (fun k hk e => ?_)) (fun k hk => ?_)) hl hw
      · have h8 := hxb k hk
        exact e.elim (fun e => by omega) h8.2.2
      · have h8 := hxb k hk
        have h9 := (World.ownsRow.lt hx k hk).2
        refine hd k (Nat.lt_of_lt_of_le h9 hall.size) h8.1 h8.2.1 (fun e => ?_)
        obtain rfl := own_eq e
        exact hg.elim (fun e => h8.2.2 e) (fun e => by omega)
/-- Other things there. -/
theorem SGr.there (h : SGr base W b r sv av ov srcs ord ps t) (hb : b < base) (hc : Chg (fun k => k = r) W W1) (hm : MapL W1 r nmV resW t1) : SGr base W1 b r sv av ov srcs ord ps t1 :=
  ⟨h.rge, hc.obj h.blk (fun e => by have := h.rge; omega), hm, hc.owns h.ao (fun k hk e => (h.aob k hk).2 e), h.aob, fun G W' hG hd => h.turned hc (fun k _ e => .inr (.inl e)) (fun _ _ e => e) G W' hG hd⟩
end
/-- What Start does. -/
def StartPost (w : World) (b : Nat) (g : GrR) (srcs : List SrcR) (e : Ending) (w' : World) : Prop :=
  e = .returned (.int .i64 (checkS g srcs)) ∧ Chg (fun k => k = b) w w' ∧ ∃ r fp sv av ov iv, IsBk w' b r fp sv av ov iv (BkS.start g srcs) ∧ w.heap.size ≤ r ∧ ∀ k, fp k → w.heap.size ≤ k
theorem buildBk (r : Nat) (w : World) : (Instr.build 142 #[(1, .int .i64 4), (3, .map (some r))]).run Tryz.prog w = .ok (.agg #[.slice none 0 0, .slice none 0 0, .int .i64 4, .slice none 0 0, .map (some r)]) w := by kernel_rfl
theorem sizeBk (w : World) : (sizeOf 142).run Tryz.prog w = .ok 5 w := by kernel_rfl
set_option maxRecDepth 100000 in
set_option maxHeartbeats 8000000 in
theorem bstart_any {B : Nat} {w : World} {b : Nat} {c0 : Array Value} (hb : w.heap[b]? = some (.cells c0 142 (0, 0))) (hc0 : c0.size = 5) (g : GrR) (srcs : List SrcR) (sv av xv : Value) (iv : Nat → Value)
    (hin : ∀ W, Chg (fun k => k = b) w W → NamesAt W sv g.srcs ∧ ActsAt W av g.acts iv ∧ SrcsAt W xv srcs) (hT : TabsOK B w) (hB : B ≤ w.heap.size) (hBb : B ≤ b) :
    Calls Tryz.prog 40 #[.pointer (some ⟨b, 0, none⟩), .agg #[sv, av], xv] w (StartPost w b g srcs) := by
  obtain ⟨hs, ha, hx⟩ := hin w (Chg.refl _ w)
  obtain ⟨oa, ca, rfl⟩ := hs.form
  obtain ⟨oc, cc, rfl⟩ := ha.form
  obtain ⟨os, cs, rfl⟩ := hx.form
  have HIN := hid hin
  have HT := hid hT
  have HBB := hid (And.intro hB hBb)
  have HBK := hid hb
  have hlt := heap_lt hb
  have hC1 := al_chg w (.cells #[.slice oa g.srcs.length ca, .slice oc g.acts.length cc] 25)
  have HG1 := hid (heap_alloc_new' w (.cells #[.slice oa g.srcs.length ca, .slice oc g.acts.length cc] 25))
  have HB1 := hid (hC1.obj hb (fun h => h))
  have hs1 : (w.alloc (.cells #[.slice oa g.srcs.length ca, .slice oc g.acts.length cc] 25)).heap.size = w.heap.size + 1 := by simp
  have HC1 := hid hC1
  have HS1 := hid hs1
  have HC0 := hid hc0
  clear hs ha hx hin hT hB hb hC1 hs1 hc0 hBb
  have hmm := @run_makeMap Tryz.prog
  go_enter Tryz.func40, Tryz.ntmps40
  go_upto_region 4 with (first | (guard_target =~ wpList _ _ _ (Oper.mk (some 17) _ _ _ _ _ :: _) _ _; refine wpList_build2 rfl 142 1 3 _ _ rfl _ _ rfl rfl _ (buildBk _ _) ?_) | (guard_target =~ wpList _ _ _ (Oper.mk none (Op.store _ _ _) _ _ _ _ :: _) _ _; refine wpList_store0 rfl 142 _ _ rfl b c0 #[.slice none 0 0, .slice none 0 0, .int .i64 4, .slice none 0 0, .map (some (w.heap.size + 1))] rfl rfl (heap_alloc_old' HB1.out (.map #[] 0)) sizeBk (by rw [HC0.out]; rfl) rfl ?_; intro w2 hk2 hs2 hc2))
  obtain ⟨gb, hgb⟩ : ∃ gb, gb = w.heap.size := ⟨_, rfl⟩
  have HM2 : Hid (MapL w2 (gb + 1) nmV resW []) := hid (by
    have h : MapL ((w.alloc (.cells #[.slice oa g.srcs.length ca, .slice oc g.acts.length cc] 25)).alloc (.map #[] 0)) (w.heap.size + 1) nmV resW [] := HS1.out ▸ MapL.fresh (w.alloc (.cells #[.slice oa g.srcs.length ca, .slice oc g.acts.length cc] 25))
    rw [← hgb] at h
    exact h.chg hc2 (by show ¬ gb + 1 = b; omega))
  have HG2 := hid (hc2.obj (heap_alloc_old' HG1.out (.map #[] 0)) (by show ¬ w.heap.size = b; omega))
  have HB2 := hid hk2
  have HC2 : Hid (Chg (fun k => k = b) w w2) := hid (((HC1.out.alloc (.map #[] 0)).mono (G := fun k => k = b) (fun _ _ h => h.elim)).trans hc2 (fun _ _ h => h))
  have HLT : Hid (b < gb ∧ w.heap.size = gb) := hid (by omega)
  rw [← hgb] at HB2 HG2 ⊢
  clear hk2 hs2 hc2 HG1 HB1 HC1 HS1 HC0 HBK hmm hlt hgb
  have HKEY := hid (okeys_any g srcs (.agg #[.slice oa g.srcs.length ca, .slice oc g.acts.length cc]) (.slice os srcs.length cs) w2 ⟨_, _, iv, rfl, (HIN.out _ HC2.out).1, (HIN.out _ HC2.out).2.1⟩ (HIN.out _ HC2.out).2.2 (HT.out.chg (HC2.out.mono (fun k _ h => h ▸ HBB.out.2))) (Nat.le_trans HBB.out.1 HC2.out.size))
  have a0 := cell_of HG2.out 0
  have a1 := cell_of HG2.out 1
  simp at a0 a1
  by_cases hz : checkS g srcs = 0
  · have HZ := hid hz
    have HD := hid (checkS_zero.1 hz)
    unfold KeysPost at HKEY
    rw [hz] at HKEY
    clear hz
    go_upto_region 7 with (go_at_call 19; refine HKEY.out.mono ?_; rintro e w3 ⟨hc3, v3, rfl, hk3⟩; have HC3 := hid hc3; clear hc3 hk3 a0 a1)
    have HB3 := hid (HC3.out.obj HB2.out (fun h => h))
    have HM3 := hid (HM2.out.chg HC3.out (fun h => h))
    have HCW3 := hid (HC2.out.trans HC3.out (fun _ _ h => h.elim))
    have HG3 := hid (HC3.out.obj HG2.out (fun h => h))
    have HCK : Hid (checkR g = 0) := hid (can_iff.2 HD.out.can)
    have HW : Hid (Wov g) := hid HD.out.can.w
    clear HKEY HB2 HM2 HG2 HC3 HC2
    go_cut [28] from 28 to 42 (fun _ wx => Chg (fun k => k = b) w wx ∧ wx.heap[gb]? = some (.cells #[.slice oa g.srcs.length ca, .slice oc g.acts.length cc] 25 (0, 0)) ∧ ∃ vs vo, SGr (gb + 1) wx b (gb + 1) vs (.slice none 0 0) vo g.srcs (orderR g) [] [])
    case first =>
      have HKP : Hid (∀ W, Chg (fun k => k = b) w3 W → W.cell? ⟨gb, 0, none⟩ = some (.slice oa g.srcs.length ca) ∧ W.cell? ⟨gb, 1, none⟩ = some (.slice oc g.acts.length cc)) := hid (fun W hW => by
        have k := hW.obj HG3.out (by show ¬ gb = b; have := HLT.out; omega)
        exact ⟨cell_of k 0, cell_of k 1⟩)
      obtain ⟨a0, a1⟩ := HKP.out _ (Chg.refl _ w3)
      have hcc : Chg (fun k => k = b) w3 w3.drew := (Chg.refl _ w3).drew
      go_region_held3 (fun W => W.cell? ⟨gb, 0, none⟩ = some (.slice oa g.srcs.length ca) ∧ W.cell? ⟨gb, 1, none⟩ = some (.slice oc g.acts.length cc)) (first | exact HKP.out _ hcc | exact HKP.out _ (hcc.setCell (p := ⟨b, 0, none⟩) (fun _ => rfl) _) | exact HKP.out _ ((hcc.setCell (p := ⟨b, 0, none⟩) (fun _ => rfl) _).setCell (p := ⟨b, _, none⟩) (fun _ => rfl) _) | exact HKP.out _ (((hcc.setCell (p := ⟨b, 0, none⟩) (fun _ => rfl) _).setCell (p := ⟨b, _, none⟩) (fun _ => rfl) _).setCell (p := ⟨b, _, none⟩) (fun _ => rfl) _)) (first | (go_at_call 77; refine (clone_names _ _ _ (HIN.out _ (HCW3.out.trans hcc (fun _ _ h => h))).1 (by have := HW.out.srcs8; omega)).mono ?_; rintro e wA ⟨vs, rfl, hos, hbs, hcA⟩; obtain ⟨so, sc, rfl⟩ := own_form hos; have HBA := hid (hcA.obj (show w3.drew.heap[b]? = _ from HB3.out) (fun h => h)); have HLA := hid (show w3.heap.size ≤ wA.heap.size from hcA.size); have HOS := hid hos; have HBS := hid hbs; have hcn := hcc.trans hcA (fun _ _ h => h.elim); clear hcc hcA hos hbs; have hcc := hcn; clear hcn) | (go_at_call 78; refine (torder_fresh g HCK.out _ _ ⟨_, _, iv, rfl, (HIN.out _ (HCW3.out.trans hcc (fun _ _ h => h))).1, (HIN.out _ (HCW3.out.trans hcc (fun _ _ h => h))).2.1⟩).mono ?_; rintro e wB ⟨hcB, vo, rfl, hoo, hbo⟩; obtain ⟨oo, co, rfl⟩ := own_form hoo; have hbb := hcB.obj HBA.out (fun h => h); have HBB2 := hid hbb; have q0 := cell_of hbb 0; have q1 := cell_of hbb 1; have q2 := cell_of hbb 2; have q3 := cell_of hbb 3; have q4 := cell_of hbb 4; have f0 := frozen_of hbb 0; have f2 := frozen_of hbb 2; have f3 := frozen_of hbb 3; simp at q0 q1 q2 q3 q4; clear hbb; have HOO := hid hoo; have HBO := hid hbo; have HOS2 := hid (hcB.owns HOS.out (fun _ _ h => h)); have hcn := hcc.trans hcB (fun _ _ h => h.elim); clear hcc hcB hoo hbo; have hcc := hcn; clear hcn))
      all_goals go_wp2_with fail
      all_goals go_meet
      all_goals
        have hcs := hcc.setCell (p := ⟨b, 0, none⟩) (fun _ => rfl) (.slice so g.srcs.length sc)
        have hct := hcs.setCell (p := ⟨b, 3, none⟩) (fun _ => rfl) (.slice oo (orderR g).length co)
        have hcu := hct.setCell (p := ⟨b, 2, none⟩) (fun _ => rfl) (.int .i64 1)
        have hwu := (((Chg.refl (fun k => k = b) wB).setCell (p := ⟨b, 0, none⟩) (fun _ => rfl) (.slice so g.srcs.length sc)).setCell (p := ⟨b, 3, none⟩) (fun _ => rfl) (.slice oo (orderR g).length co)).setCell (p := ⟨b, 2, none⟩) (fun _ => rfl) (.int .i64 1)
        have h3 := heap_set_same (heap_set_same (heap_set_same HBB2.out 0 (.slice so g.srcs.length sc)) 3 (.slice oo (orderR g).length co)) 2 (.int .i64 1)
        simp at h3
        have hlt3 : gb + 1 < w3.heap.size := HM3.out.lt
        have hbl := HLT.out
        obtain ⟨_, hn1, hn2⟩ := (HIN.out _ (Chg.refl _ w)).1
        have hbs : ∀ k, (Value.slice so g.srcs.length sc).ownBlock = some k → w3.heap.size ≤ k := HBS.out
        have hbo := HBO.out
        have hzA : w3.heap.size ≤ wA.heap.size := HLA.out
        refine ⟨HCW3.out.trans hcu (fun _ _ h => h), hcu.obj HG3.out (by show ¬ gb = b; omega), _, _, Nat.le_refl _, h3, HM3.out.chg hcu (by show ¬ gb + 1 = b; omega), World.ownsRow_nil _ _ _ _, (fun k h => by cases h), fun G W' hG hd => ⟨?_, ?_, fun p hp => by cases hp⟩⟩
        · have hw : ∀ s ∈ g.srcs, s.length ≤ maxLen := fun s hs => by have := hn2 (bs s) (List.mem_map.2 ⟨s, hs, rfl⟩); rw [bs_size] at this; exact this
          refine NamesAt.of_owns (hG.owns (hwu.owns HOS2.out (fun k hk e => ?_)) (fun k hk => ?_)) (by simpa using hn1) hw
          · have := hbs k hk; omega
          · have := hbs k hk
            have h4 := (World.ownsRow.lt HOS2.out k hk).2
            exact hd k (Nat.lt_of_lt_of_le h4 hwu.size) (by omega) (by omega) (fun e => by cases e)
        · refine IntsAt.of_owns (hG.owns (hwu.owns HOO.out (fun k hk e => ?_)) (fun k hk => ?_))
          · have := hbo k hk; omega
          · have := hbo k hk
            have h4 := (World.ownsRow.lt HOO.out k hk).2
            exact hd k (Nat.lt_of_lt_of_le h4 hwu.size) (by omega) (by omega) (fun e => by cases e)
    case rest =>
      obtain ⟨hcW, hgx, vs, vo, hgr⟩ := hcut
      have HCW := hid hcW
      have HG4 := hid hgx
      have HGR := hid hgr
      have a1 := cell_of hgx 1
      simp at a1
      have hlenA : ∀ ty w, (Builtin.len_ #[23] ty #[.slice oc g.acts.length cc]).run Tryz.prog w = .ok (.int .i64 g.acts.length) w := fun ty w => ActsAt.len (HIN.out wc hcW).2.1 w ty
      clear hcW hgx hgr HB3 HM3 HCW3 HG3 HCK
      have hn12 := HW.out.acts12
      go_upto_region 9 with fail
      go_loopw [46] (fun i wr => ∃ (k : Nat) (x : Value) (ps : List (ActR × Value)), k ≤ g.acts.length ∧ i = .int .i64 k ∧ ps.map Prod.fst = g.acts.take k ∧ Chg (fun k => k = b) wc wr ∧ (∀ z, x.ownBlock = some z → wc.heap.size ≤ z) ∧ SGr (gb + 1) wr b (gb + 1) vs x vo g.srcs (orderR g) ps []) (fun i _ => g.acts.length - (intOf i).toNat)
      case atStart => exact ⟨0, _, [], Nat.zero_le _, rfl, rfl, Chg.refl _ _, (fun z h => by cases h), HGR.out⟩
      case round =>
        obtain ⟨k, x, ps, hk, rfl, hps, hch, hxo, hsg⟩ := hrel
        have HXO := hid hxo
        have HC := hid hch
        have HPS := hid hps
        have HSG := hid hsg
        clear hch hps hsg hxo
        by_cases hkn : k < g.acts.length
        · have hkn' : (k : Int) < g.acts.length := by omega
          obtain ⟨bb, o0, hix, hlt, e0, e1, e2, hns, hw1, hw2⟩ := (HIN.out _ (HCW.out.trans HC.out (fun _ _ h => h))).2.1.at k hkn
          obtain ⟨oi, ci, hiv⟩ := hns.form
          rw [hiv] at e1 hns
          have hpl : ps.length = k := by have := congrArg List.length HPS.out; simp at this; omega
          have hpk : (ps.map Prod.fst) ++ [g.acts[k]] = g.acts.take (k + 1) := by rw [HPS.out, List.take_succ_eq_append_getElem hkn]
          have HPL := hid hpl
          have HPK := hid hpk
          clear hiv hw1 hw2 hpl hpk
          have hi4 : g.acts[k].ins.length ≤ 4 := ((actOK_iff _).1 (((grOK_iff g).1 HW.out.ok).2.2.2 _ (List.getElem_mem hkn))).2.2.1
          generalize g.acts[k] = ak at *
          obtain ⟨nm, ins, cd⟩ := ak
          simp only at e0 e1 e2 hns hi4
          have hil : ins.length ≤ maxLen ∧ ∀ s ∈ ins, s.length ≤ maxLen := ⟨by simpa using hns.2.1, fun s hs => by have := hns.2.2 (bs s) (List.mem_map.2 ⟨s, hs, rfl⟩); rw [bs_size] at this; exact this⟩
          have hal := (al_chg wr (.cells #[.string (bs nm), .slice oi ins.length ci, .string (bs cd)] 43))
          have HK5 := hid (heap_alloc_new' wr (.cells #[.string (bs nm), .slice oi ins.length ci, .string (bs cd)] 43))
          have HNS5 := hid (hns.chg hal (fun _ _ h => h))
          have HIL := hid hil
          have HC5 := hid hal
          clear hns hal hil
          go_upto_region 11 with fail
          obtain ⟨ab, hab⟩ : ∃ ab, ab = wr.heap.size := ⟨_, rfl⟩
          have hs5 : (wr.alloc (.cells #[.string (bs nm), .slice oi ins.length ci, .string (bs cd)] 43)).heap.size = ab + 1 := by rw [hab]; simp
          generalize wr.alloc (.cells #[.string (bs nm), .slice oi ins.length ci, .string (bs cd)] 43) = W5 at *
          rw [← hab] at HK5 ⊢
          have HAB := hid (And.intro hab hs5)
          clear hix hlt e0 e1 e2 hab hs5
          have z1 := cell_of HK5.out 1
          simp at z1
          have h1000 : ins.length ≤ 1000 := by omega
          go_upto_region 12 with (go_at_call 77; refine (clone_names _ ins _ HNS5.out h1000).mono ?_; rintro e w6 ⟨x6, rfl, hox, hbx, hc6⟩; obtain ⟨xo, xc, rfl⟩ := own_form hox; have hk6 := hc6.obj HK5.out (fun h => h); have z6 := cell_of hk6 1; have f6 := frozen_of hk6 1; simp at z6; have HK6 := hid hk6; have HOX := hid hox; have HBX := hid hbx; have HC6 := hid hc6; clear hk6 hox hbx hc6)
          have hk7 := heap_set_same HK6.out 1 (.slice xo ins.length xc)
          simp at hk7
          have hset : Chg (fun z => z = ab) w6 (w6.setCell ⟨ab, 1, none⟩ (.slice xo ins.length xc)) := (Chg.refl (fun z => z = ab) w6).setCell (p := ⟨ab, 1, none⟩) (fun _ => rfl) _
          have HOX7 := hid (hset.owns HOX.out (fun z hz e => by have := HBX.out z hz; have := HAB.out.2; omega))
          have HC7 := hid ((HC5.out.trans HC6.out (fun _ _ h => h)).trans hset (fun z hz e => by have := HAB.out.1; omega))
          have HXL : Hid (∀ z, x.ownBlock = some z → z < wr.heap.size) := hid (fun z hz => (World.ownsRow.lt HSG.out.ao z hz).2)
          have HRL : Hid (gb + 1 < wr.heap.size) := hid HSG.out.map.lt
          have HSG7 := hid (HSG.out.keep HC7.out (fun _ _ h => h.elim) (by have := HLT.out; omega))
          have HS7 : Hid (ab + 1 ≤ (w6.setCell ⟨ab, 1, none⟩ (.slice xo ins.length xc)).heap.size) := hid (by have := HAB.out.2; have := HC6.out.size; have := hset.size; omega)
          have HK7 := hid hk7
          have d1 := cell_of HSG7.out.blk 1
          have p0 := (cell_of hk7 0).trans rfl
          have p1 := (cell_of hk7 1).trans rfl
          have p2 := (cell_of hk7 2).trans rfl
          simp at d1
          clear z6 f6 hk7 hset HK5 HNS5 HC5 HK6 HC6 HOX HSG
          generalize w6.setCell ⟨ab, 1, none⟩ (.slice xo ins.length xc) = W7 at *
          have d1a : (W7.alloc (.cells #[.string (bs nm), .slice xo ins.length xc, .string (bs cd)] 43)).drew.cell? ⟨b, 1, none⟩ = some x := cell_alloc' d1 _
          have d1b : (W7.alloc (.cells #[.string (bs nm), .slice xo ins.length xc, .string (bs cd)] 43)).cell? ⟨b, 1, none⟩ = some x := cell_alloc' d1 _
          have hpl := HPL.out
          go_region_law (refine step_append_new rfl _ _ 23 rfl elAct HSG7.out.ao rfl _ 1 1 rfl rfl rfl (by unfold maxLen; omega) (by omega) (by decide) ?_; intro g2 cap2 w8 hown8 hch8 hg8; have hblk8 := hch8.obj HSG7.out.blk (fun e => by have := HSG7.out.aob _ e; have := HLT.out; omega); have q1 := cell_of hblk8 1; have f1 := frozen_of hblk8 1; simp at q1)
          all_goals go_wp2_with fail
          all_goals (refine ⟨⟨k + 1, .slice (some ⟨g2, 0, none⟩) (ps.length + 1) cap2, ps ++ [(⟨nm, ins, cd⟩, .slice xo ins.length xc)], by omega, by go_num, ?_, ?_, fun z hz => ?_, ?_⟩, by simp [intOf]; omega⟩)
          all_goals first
            | (rw [List.map_append]; exact HPK.out)
            | (obtain rfl := own_eq hz; exact hg8.elim (fun e => HXO.out _ e) (fun e => Nat.le_trans (HC.out.trans HC7.out (fun _ _ h => h.elim)).size e))
            | exact ((HC.out.trans HC7.out (fun _ _ h => h.elim)).trans hch8 (fun z hz e => by have := HXO.out z e; omega)).setCell (p := ⟨b, 1, none⟩) (fun _ => rfl) _
            | (have hpp := HSG7.out.push (a := ⟨nm, ins, cd⟩) (by have := HLT.out; omega) HOX7.out (fun z hz => by
                have h1 := HBX.out z hz
                have h2 := HAB.out
                have h3 := HSG7.out.map.lt
                have h4 := HRL.out
                refine ⟨by omega, by omega, fun e => ?_⟩
                have := HXL.out z e
                omega) HIL.out.1 HIL.out.2 hown8 hch8 hg8
               rw [HPL.out] at hpp ⊢
               exact hpp)
        · obtain rfl : k = g.acts.length := by omega
          have hpf : ps.map Prod.fst = g.acts := by rw [HPS.out, List.take_length]
          have HCX := hid (HCW.out.trans HC.out (fun _ _ h => h))
          have HPF := hid hpf
          have hss := (HIN.out _ HCX.out).2.2
          have hlenS : ∀ ty w, (Builtin.len_ #[26] ty #[.slice os srcs.length cs]).run Tryz.prog w = .ok (.int .i64 srcs.length) w := fun ty w => SrcsAt.len hss w ty
          have hmx := hss.rows.le
          unfold maxLen at hmx
          clear hpf HPS HC HCW HGR HXO hss HG4 a1 hlenA
          go_upto_region 15 with fail
          obtain ⟨wo, hwo⟩ : ∃ wo, wo = wr := ⟨_, rfl⟩
          rw [← hwo] at HCX HSG ⊢
          clear hwo
          go_loopw [69] (fun i wr => ∃ k : Nat, k ≤ srcs.length ∧ i = .int .i64 k ∧ Chg (fun z => z = gb + 1) wo wr ∧ SGr (gb + 1) wr b (gb + 1) vs x vo g.srcs (orderR g) ps (srcT (srcs.take k))) (fun i _ => srcs.length - (intOf i).toNat)
          case atStart => exact ⟨0, Nat.zero_le _, rfl, Chg.refl _ _, HSG.out⟩
          case round =>
            obtain ⟨k, hk, rfl, hch, hsg⟩ := hrel
            have HC := hid hch
            have HG := hid hsg
            have HCY : Hid (Chg (fun k => k = b) w wr) := hid (HCX.out.trans hch (fun z hz e => by have := HLT.out; omega))
            clear hch hsg
            by_cases hkn : k < srcs.length
            · have hkn' : (k : Int) < srcs.length := by omega
              obtain ⟨bb, o0, hix, e0, e1, hlt⟩ := (HIN.out _ HCY.out).2.2.ix k hkn
              have HP : Hid (srcT (srcs.take (k + 1)) = lput srcs[k].1 ((0 : Int), srcs[k].2) (srcT (srcs.take k))) := hid (srcT_take srcs k hkn)
              generalize hnm : srcs[k].1 = nm at *
              generalize hbl : srcs[k].2 = bl2 at *
              clear hnm hbl
              have hal := al_chg wr (.cells #[.string (bs nm), .string bl2] 55)
              have HK5 := hid (heap_alloc_new' wr (.cells #[.string (bs nm), .string bl2] 55))
              have HG5 := hid (HG.out.keep hal (fun _ _ h => h.elim) (by have := HLT.out; omega))
              have HC5 := hid (HC.out.alloc (.cells #[.string (bs nm), .string bl2] 55))
              clear hal
              go_wp2_with fail
              generalize wr.alloc (.cells #[.string (bs nm), .string bl2] 55) = W5 at *
              have c0 : W5.cell? ⟨wr.heap.size, 0, none⟩ = some (.string (bs nm)) := cell_of HK5.out 0
              have c1 : W5.cell? ⟨wr.heap.size, 1, none⟩ = some (.string bl2) := cell_of HK5.out 1
              have b4 := cell_of HG5.out.blk 4
              simp at b4
              go_still_tail 10, (by kernel_rfl)
              change wpList _ _ _ _ _ W5.drew
              refine wpList_mapUpdate_l rfl _ _ _ 110 rfl keyNm Tryz.underlying110 (show MapL W5.drew (gb + 1) nmV resW _ from HG5.out.map) rfl nm rfl ((0 : Int), bl2) rfl ?_
              intro w1 hm1 hc1
              have HG1 := hid (HG5.out.there (by have := HLT.out; omega) (((Chg.refl (fun z => z = gb + 1) W5).drew).trans hc1 (fun _ _ h => h)) hm1)
              go_wp2_with fail
              go_roundw
              case rel => exact ⟨k + 1, by omega, by go_num, HC5.out.drew.trans hc1 (fun _ _ h => h), HP.out ▸ HG1.out⟩
              case measure => simp [intOf]; omega
            · obtain rfl : k = srcs.length := by omega
              have hsg := HG.out
              rw [List.take_length] at hsg
              have hpl : ps.length = g.acts.length := by have := congrArg List.length HPF.out; simpa using this
              have hd := hsg.done (by have := HLT.out; omega) (by omega) (fun p hp => by
                have h1 : p.1 ∈ g.acts := by rw [← HPF.out]; exact List.mem_map.2 ⟨p, hp, rfl⟩
                exact (HIN.out _ HCY.out).2.1.wide _ h1)
              rw [HPF.out] at hd
              have HSE := hid (bsettle_any hd (fun i hi => (orderR_ordd g).lt i hi) (by have := HW.out.srcs8; show g.srcs.length ≤ 1000; omega) (by show g.acts.length ≤ 1000; omega))
              clear hsg hd HG HSG HPF HIN
              go_wp2_with (go_at_call 79; refine HSE.out.mono ?_; rintro e w9 ⟨rfl, hc9, hb9⟩)
              go_ret
              have hfin : BkS.start g srcs = BkS.settle ⟨g, 1, orderR g, srcT srcs⟩ := by unfold BkS.start; rw [if_pos HZ.out]; rfl
              have hbl := HLT.out
              exact ⟨by rw [HZ.out]; rfl, HCY.out.trans hc9 (fun z hz e => by omega), gb + 1, _, vs, x, vo, _, hfin ▸ hb9, by omega, fun k hk => by have := hk.1; omega⟩
  · have hne : ((checkS g srcs : Int) != 0) = true := by rw [bne_iff_ne]; omega
    have HZ := hid hz
    clear hz
    go_wp2_with (go_at_call 19; refine HKEY.out.mono ?_; rintro e w3 ⟨hc3, v3, rfl, hk3⟩; have HC3 := hid hc3; clear hc3 hk3 a0 a1)
    go_ret
    have hfin : BkS.start g srcs = BkS.wrong := by unfold BkS.start; rw [if_neg HZ.out]
    have hbl := HLT.out
    exact ⟨rfl, HC2.out.trans HC3.out (fun _ _ h => h.elim), gb + 1, (fun _ => False), .slice none 0 0, .slice none 0 0, .slice none 0 0, (fun _ => .slice none 0 0), hfin ▸ ⟨by show b ≠ gb + 1; omega, HC3.out.obj HB2.out (fun h => h), HM2.out.chg HC3.out (fun h => h), (fun h => h), (fun h => h), (fun k h => h.elim), bkIn_nil _ _⟩, by omega, fun k h => h.elim⟩
end Go.Proofs.YthglfmacjoecgaaGreatDoor
namespace Go.Proofs.YthglfmacjoecgaaGreatDoor
open Go.RowKit

/-- A result that can be handed over. -/
def ROK (r : ResR) : Prop := r.2.size ≤ 100000 ∧ -9223372036854775808 ≤ r.1 ∧ r.1 ≤ 9223372036854775807
def VOK (t : ThT) : Prop := ∀ n, ROK (valT t n)
theorem rok_no : ROK noRes := ⟨by decide, by decide, by decide⟩
theorem rok_dep : ROK depR := ⟨by decide, by decide, by decide⟩
theorem VOK.put {t : ThT} (h : VOK t) {r : ResR} (hr : ROK r) (s : Nm) : VOK (lput s r t) := fun n => by
  rw [valT_put]
  split
  · exact hr
  · exact h n
theorem VOK.settle1 {t : ThT} (h : VOK t) (g : GrR) (i : Nat) : VOK (settle1 g t i) := by
  unfold Go.Proofs.YthglfmacjoecgaaGreatDoor.settle1
  split
  · exact h.put rok_dep _
  · exact h
theorem VOK.settleL (g : GrR) : ∀ (l : List Nat) {t : ThT}, VOK t → VOK (settleL g l t)
  | [], _, h => h
  | i :: l, _, h => VOK.settleL g l (h.settle1 g i)
theorem vok_nil : VOK [] := fun _ => rok_no
theorem vok_srcs {g : GrR} {srcs : List SrcR} (hD : Done g srcs) : VOK (srcT srcs) := fun n => by
  unfold valT
  cases hv : lval n (srcT srcs) with
  | none => exact rok_no
  | some r =>
    have hm := mem_of_lval hv
    rw [srcT_eq hD.fit.nd] at hm
    obtain ⟨x, hx, e⟩ := List.mem_map.1 hm
    obtain ⟨_, rfl⟩ := Prod.mk.inj e
    have := hD.wide x hx
    exact ⟨by show x.2.size ≤ 100000; omega, by show (-9223372036854775808 : Int) ≤ 0; decide, by show (0 : Int) ≤ 9223372036854775807; decide⟩
theorem BkSize.other {s : BkS} (h : BkSize s) (st : Nat) {t : ThT} (ht : VOK t) : BkSize ⟨s.g, st, s.ord, t⟩ := ⟨h.ord, h.n1, h.n2, h.act, ht⟩
theorem BkSize.vok {s : BkS} (h : BkSize s) : VOK s.t := h.val
theorem BkSize.settle {s : BkS} (h : BkSize s) : BkSize s.settle := h.other _ (VOK.settleL s.g s.ord h.vok)
theorem BkSize.put {s : BkS} (h : BkSize s) (i : Nat) {r : ResR} (hr : ROK r) : BkSize (s.put i r) := (h.other s.st (h.vok.put hr (nameAt s.g i))).settle
theorem BkSize.give {s : BkS} (h : BkSize s) (place : Int) {r : ResR} (hr : ROK r) : BkSize (s.give place r).2 := by
  unfold BkS.give
  split
  · exact h
  · split
    · split
      · exact h.put _ hr
      · exact h
    · exact h
theorem BkSize.stop {s : BkS} (h : BkSize s) : BkSize s.stop := by
  unfold BkS.stop
  split
  · exact h.other 3 h.vok
  · exact h
theorem size_new : BkSize BkS.new := ⟨(fun _ h => by cases h), (by decide), (by decide), (fun _ h => by cases h), vok_nil⟩
theorem size_wrong : BkSize BkS.wrong := ⟨(fun _ h => by cases h), (by decide), (by decide), (fun _ h => by cases h), vok_nil⟩
theorem size_begun {g : GrR} {srcs : List SrcR} (hD : Done g srcs) : BkSize (BkS.begun g srcs) := by
  have hg := (grOK_iff g).1 hD.can.w.ok
  exact BkSize.settle ⟨fun i hi => (orderR_ordd g).lt i hi, by show g.srcs.length ≤ 1000; omega, by show g.acts.length ≤ 1000; omega, fun a ha => by
    have h := (actOK_iff a).1 (hg.2.2.2 a ha)
    exact ⟨by omega, by omega⟩, vok_srcs hD⟩
theorem size_start (g : GrR) (srcs : List SrcR) : BkSize (BkS.start g srcs) := by
  unfold BkS.start
  split
  · rename_i h
    exact size_begun (checkS_zero.1 h)
  · exact size_wrong
theorem start_ok {g : GrR} {srcs : List SrcR} (h : checkS g srcs = 0) : BkS.start g srcs = BkS.begun g srcs := if_pos h
theorem start_bad {g : GrR} {srcs : List SrcR} (h : checkS g srcs ≠ 0) : BkS.start g srcs = BkS.wrong := if_neg h
theorem baction_any (s c : ByteArray) (o : Option Addr) (n cp : Nat) (w : World) :
    Calls Tryz.prog 76 #[.string s, .string c, .slice o n cp] w (Rets (.agg #[.string s, .slice o n cp, .string c]) (Chg (fun _ => False) w)) := by
  go_enter Tryz.func76, Tryz.ntmps76
  go_wp2_with fail
  refine bodyPost_ret (v := .agg #[.string s, .slice o n cp, .string c]) ?_ rfl ⟨rfl, ?_⟩
  · simp [results, Tryz.results76, go_sem]
  · exact (Chg.refl _ w).alloc _
end Go.Proofs.YthglfmacjoecgaaGreatDoor
namespace Go.Proofs.YthglfmacjoecgaaGreatDoor
open Go.RowKit

def aw21 : GrR := ⟨[[97]], [⟨[121], [[120]], [105, 0]⟩, ⟨[120], [[97]], [105, 0, 114]⟩]⟩
def as21 : List SrcR := [([97], { data := #[103, 111] })]
theorem aw21_check : checkS aw21 as21 = 0 := by kernel_rfl
theorem aw21_next : (BkS.begun aw21 as21).next = some 1 := by kernel_rfl
theorem aw21_give0 (x : ResR) : (BkS.begun aw21 as21).give 0 x = (12, BkS.begun aw21 as21) := give_other aw21_next (by decide)
theorem aw21_give1 : (BkS.begun aw21 as21).give 1 (30, ByteArray.empty) = (0, (BkS.begun aw21 as21).put 1 (30, ByteArray.empty)) := give_ok aw21_next rfl (by decide)
theorem aw21_st : ((BkS.begun aw21 as21).put 1 (30, ByteArray.empty)).st = 2 := by kernel_rfl
theorem aw21_out : ((BkS.begun aw21 as21).put 1 (30, ByteArray.empty)).out = [([121], (34, ByteArray.empty)), ([120], (30, ByteArray.empty))] := by kernel_rfl
theorem aw21_size : BkSize (BkS.begun aw21 as21) := size_begun (checkS_zero.1 aw21_check)
theorem srcs_own {w : World} {v : Value} {xs : List SrcR} {n : Nat} (hn : n = xs.length) (h : w.ownsRow 0 55 2 v n (xs.flatMap srcL)) (hl : xs.length ≤ 1000) (hw : ∀ s ∈ xs, s.1.length ≤ maxLen ∧ s.2.size ≤ maxLen) : SrcsAt w v xs := by
  subst hn
  exact ⟨rows_of_owns srcL noSrc xs (fun _ => rfl) h (by unfold maxLen; omega), hw⟩
/-- A string does not lie in a baker's block, nor in its map. -/
theorem IsBk.noStr {w : World} {b r : Nat} {fp : Nat → Prop} {sv av ov : Value} {iv : Nat → Value} {s : BkS} (h : IsBk w b r fp sv av ov iv s) {bb off : Nat} {x : ByteArray} (hc : w.cell? ⟨bb, off, none⟩ = some (.string x)) : bb ≠ b ∧ bb ≠ r := by
  obtain ⟨_, ha, ho⟩ := h.now
  obtain ⟨o3, c3, rfl⟩ := ho.form
  obtain ⟨hs, _, _⟩ := h.now
  obtain ⟨o1, c1, rfl⟩ := hs.form
  obtain ⟨o2, c2, rfl⟩ := ha.form
  refine ⟨?_, ?_⟩
  · rintro rfl
    rw [cell_of h.blk off] at hc
    match off, hc with
    | 0, hc => simp at hc
    | 1, hc => simp at hc
    | 2, hc => simp at hc
    | 3, hc => simp at hc
    | 4, hc => simp at hc
    | n + 5, hc => simp at hc
  · rintro rfl
    obtain ⟨es, clock, hm, _⟩ := h.map
    unfold World.cell? at hc
    rw [hm] at hc
    cases hc
theorem aw21_in : insT2 aw21 (BkS.begun aw21 as21).t 1 = [(0, { data := #[103, 111] })] := by kernel_rfl
set_option maxRecDepth 100000 in
set_option maxHeartbeats 4000000 in
theorem bawake_any {B : Nat} (w : World) (hT : TabsOK B w) (hB : B ≤ w.heap.size) : Calls Tryz.prog 37 #[] w (Rets (.bool true) (Chg (fun _ => False) w)) := by
  have HT := hid hT
  have HBB := hid hB
  clear hT hB
  go_enter Tryz.func37, Tryz.ntmps37
  go_wp2_with fail
  refine (baction_any _ _ _ _ _ _).mono ?_
  rintro e w1 ⟨rfl, hc1⟩
  have n0 : NamesAt (w.alloc (.cells #[.string { data := #[97] }] 9)) (.slice (some ⟨w.heap.size, 0, none⟩) 1 1) [[97]] := names_new w [[97]] 1 rfl (by decide) (by decide)
  have n1 : NamesAt ((w.alloc (.cells #[.string { data := #[97] }] 9)).alloc (.cells #[.string { data := #[120] }] 9)) (.slice (some ⟨(w.alloc (.cells #[.string { data := #[97] }] 9)).heap.size, 0, none⟩) 1 1) [[120]] := names_new _ [[120]] 1 rfl (by decide) (by decide)
  rw [show (w.alloc (.cells #[.string { data := #[97] }] 9)).heap.size = w.heap.size + 1 by simp] at n1
  have cw1 : Chg (fun _ => False) w w1 := ((al_chg w _).trans (al_chg _ _) (fun _ _ h => h)).trans hc1 (fun _ _ h => h)
  have N0 := hid (n0.chg ((al_chg _ _).trans hc1 (fun _ _ h => h)) (fun _ _ h => h))
  have N1 := hid (n1.chg hc1 (fun _ _ h => h))
  have C1 := hid cw1
  clear n0 n1 cw1 hc1
  go_wp2_with fail
  refine (baction_any _ _ _ _ _ _).mono ?_
  rintro e w3 ⟨rfl, hc2⟩
  have n2 : NamesAt (w1.alloc (.cells #[.string { data := #[97] }] 9)) (.slice (some ⟨w1.heap.size, 0, none⟩) 1 1) [[97]] := names_new _ [[97]] 1 rfl (by decide) (by decide)
  have C2 := hid ((al_chg w1 (.cells #[.string { data := #[97] }] 9)).trans hc2 (fun _ _ h => h))
  have N2 := hid (n2.chg hc2 (fun _ _ h => h))
  clear n2 hc2
  obtain ⟨ps, hps⟩ : ∃ ps : List (ActR × Value), ps = [(⟨[121], [[120]], [105, 0]⟩, .slice (some ⟨w.heap.size + 1, 0, none⟩) 1 1), (⟨[120], [[97]], [105, 0, 114]⟩, .slice (some ⟨w1.heap.size, 0, none⟩) 1 1)] := ⟨_, rfl⟩
  have hfl : (flatA ps).toArray = #[.string { data := #[121] }, .slice (some ⟨w.heap.size + 1, 0, none⟩) 1 1, .string { data := #[105, 0] }, .string { data := #[120] }, .slice (some ⟨w1.heap.size, 0, none⟩) 1 1, .string { data := #[105, 0, 114] }] := by rw [hps]; rfl
  obtain ⟨W4, hW4⟩ : ∃ W4, W4 = (w3.alloc (.cells (flatA ps).toArray 43)).alloc (.cells #[.slice (some ⟨w.heap.size, 0, none⟩) 1 1, .slice (some ⟨w3.heap.size, 0, none⟩) 2 2] 25) := ⟨_, rfl⟩
  have hc34 : Chg (fun _ => False) w3 W4 := by rw [hW4]; exact (al_chg w3 _).trans (al_chg _ _) (fun _ _ h => h)
  have gb4 : W4.heap[w3.heap.size + 1]? = some (.cells #[.slice (some ⟨w.heap.size, 0, none⟩) 1 1, .slice (some ⟨w3.heap.size, 0, none⟩) 2 2] 25 (0, 0)) := by
    have := heap_alloc_new' (w3.alloc (.cells (flatA ps).toArray 43)) (.cells #[.slice (some ⟨w.heap.size, 0, none⟩) 1 1, .slice (some ⟨w3.heap.size, 0, none⟩) 2 2] 25)
    rw [hW4]; simpa using this
  have ow : (w3.alloc (.cells (flatA ps).toArray 43)).ownsRow 0 43 3 (.slice (some ⟨w3.heap.size, 0, none⟩) 2 2) 2 (flatA ps) := owns_new w3 (flatA ps) 43 3 2 (by rw [hps]; rfl) (by unfold maxLen; omega)
  have ow4 : W4.ownsRow 0 43 3 (.slice (some ⟨w3.heap.size, 0, none⟩) 2 2) 2 (flatA ps) := by
    rw [hW4]
    exact (al_chg (w3.alloc (.cells (flatA ps).toArray 43)) (.cells #[.slice (some ⟨w.heap.size, 0, none⟩) 1 1, .slice (some ⟨w3.heap.size, 0, none⟩) 2 2] 25)).owns ow (fun _ _ h => h)
  have hpl : ps.length = 2 := by rw [hps]; rfl
  have hact := ActsAt.of_owns (w := W4) (v := .slice (some ⟨w3.heap.size, 0, none⟩) 2 2) (ps := ps) (by rw [hpl]; exact ow4) (by rw [hpl]; unfold maxLen; omega) (by
      intro p hp
      rw [hps] at hp
      simp only [List.mem_cons, List.not_mem_nil, or_false] at hp
      rcases hp with rfl | rfl
      · exact N1.out.chg (C2.out.trans hc34 (fun _ _ h => h)) (fun _ _ h => h)
      · exact N2.out.chg hc34 (fun _ _ h => h)) (by
      intro p hp
      rw [hps] at hp
      simp only [List.mem_cons, List.not_mem_nil, or_false] at hp
      rcases hp with rfl | rfl <;> exact ⟨(by show (1 : Nat) ≤ 9223372036854775807; decide), (by unfold maxLen; simp)⟩)
  have he : ps.map Prod.fst = aw21.acts := by rw [hps]; rfl
  rw [he] at hact
  have s4 : W4.heap.size = w3.heap.size + 1 + 1 := by rw [hW4]; simp
  have j40 := cell_of gb4 0
  have j41 := cell_of gb4 1
  simp at j40 j41
  have HACT := hid hact
  have HNS := hid (N0.out.chg (C2.out.trans hc34 (fun _ _ h => h)) (fun _ _ h => h))
  have HGB := hid gb4
  have HCW := hid ((C1.out.trans C2.out (fun _ _ h => h)).trans hc34 (fun _ _ h => h))
  have HS4 := hid s4
  have HW4 := hid hW4
  have HFL := hid hfl
  rw [hW4, hfl] at j40 j41
  clear hps hfl hW4 hc34 gb4 ow ow4 hact s4 hpl he
  go_upto_region 3 with (go_at_call 39; refine (bnew_any _).mono ?_; rintro e w5 ⟨b, r, rfl, hb5, hbl, hrl, hc5⟩)
  rw [← HFL.out, ← HW4.out] at hbl hrl hc5
  have hB5 := hid hb5
  have HC5 := hid hc5
  have HBL := hid (And.intro hbl hrl)
  have a0 := cell_of (hc5.obj HGB.out (fun h => h)) 0
  have a1 := cell_of (hc5.obj HGB.out (fun h => h)) 1
  simp at a0 a1
  have S6 : Hid ((w5.alloc (.cells #[.string { data := #[97] }, .string { data := #[103, 111] }] 55)).ownsRow 0 55 2 (.slice (some ⟨w5.heap.size, 0, none⟩) 1 1) 1 (as21.flatMap srcL)) := hid (owns_new w5 (as21.flatMap srcL) 55 2 1 rfl (by unfold maxLen; omega))
  clear hb5 hbl hrl hc5 j40 j41
  have hbz := heap_lt hB5.out.blk
  have hST := bstart_any (B := B) (hB5.out.same (al_chg w5 (.cells #[.string { data := #[97] }, .string { data := #[103, 111] }] 55))).blk rfl aw21 as21 (.slice (some ⟨w.heap.size, 0, none⟩) 1 1) (.slice (some ⟨w3.heap.size, 0, none⟩) 2 2) (.slice (some ⟨w5.heap.size, 0, none⟩) 1 1) _ (fun W hW => by
      have hcW : Chg (fun k => k = b) W4 W := ((HC5.out.alloc _).mono (fun _ _ h => h.elim)).trans hW (fun _ _ h => h)
      have hno : ∀ k, k < W4.heap.size → ¬ k = b := fun k hk e => by have := HBL.out; omega
      exact ⟨HNS.out.chg hcW hno, HACT.out.chg hcW hno, srcs_own (n := 1) rfl (hW.owns S6.out (fun k hk e => by obtain rfl := own_eq hk; omega)) (by decide) (by intro s hs; simp [as21] at hs; subst hs; unfold maxLen; decide)⟩) (HT.out.keep ((HCW.out.trans HC5.out (fun _ _ h => h)).alloc _)) (Nat.le_trans HBB.out ((HCW.out.trans HC5.out (fun _ _ h => h)).alloc _).size) (Nat.le_trans (Nat.le_trans HBB.out HCW.out.size) HBL.out.1)
  have HST := hid hST
  clear hST hbz
  go_upto_region 4 with (go_at_call 40; refine HST.out.mono ?_; rintro e w7 ⟨rfl, hc7, r2, fp2, sv2, av2, ov2, iv2, hb7, hr7, hf7⟩; rw [aw21_check]; rw [start_ok aw21_check] at hb7)
  have HB7 := hid hb7
  have hcw7 : Chg (fun _ => False) w w7 := ((HCW.out.trans HC5.out (fun _ _ h => h)).alloc _).trans hc7 (fun i hi e => by have := HBL.out; have := HCW.out.size; omega)
  have HR7 : Hid (w.heap.size ≤ b ∧ w.heap.size ≤ r2) := hid (by
    have h1 := HCW.out.size
    have h2 := (HC5.out.alloc (.cells #[.string { data := #[97] }, .string { data := #[103, 111] }] 55)).size
    have h3 := HBL.out
    omega)
  have HCW7 := hid hcw7
  clear hc7 hb7 hr7 hf7 hcw7 a0 a1 HST S6 hB5 HC5 HBL HNS HACT HGB HS4 HW4 HFL N0 N1 N2 C1 C2 HCW
  have HN : Hid (Calls Tryz.prog 41 #[.pointer (some ⟨b, 0, none⟩)] w7 (fun e w' => Chg (fun _ => False) w7 w' ∧ ∃ inV K, e = .returned (.tuple #[.agg (jobA { data := #[120] } 1 { data := #[105, 0, 114] } inV K), .bool true]) ∧ ResAt w' inV [(0, { data := #[103, 111] })])) := hid ((next_some_any HB7.out aw21_size (HT.out.keep HCW7.out) (Nat.le_trans HBB.out HCW7.out.size) aw21_next).mono (fun e w' ⟨h1, inV, K, h2, h3, _⟩ => ⟨h1, inV, K, h2, aw21_in ▸ h3⟩))
  go_upto_region 5 with (first | (go_at_call 41; refine HN.out.mono ?_; rintro e w8 ⟨hc8, inV, K, rfl, hin8⟩; obtain ⟨io, ic, hif⟩ := hin8.form; have hif2 : inV = .slice io 1 ic := hif; subst hif2; clear hif; have HIN := hid hin8; have HC8 := hid hc8; clear hin8 hc8) | (guard_target =~ wpList _ _ _ (Oper.mk (some 4) _ _ _ _ _ :: _) _ _; refine wpList_alloc0 rfl 85 rfl noJob (allocJob _) ?_; intro w9 hk9 hs9 hc9; have HK9 := hid hk9; have HC9 := hid hc9; clear hk9 hc9 hs9) | (guard_target =~ wpList _ _ _ (Oper.mk none (Op.store _ (Operand.tmp 4) _) _ _ _ _ :: _) _ _; refine wpList_store0 rfl 85 _ _ rfl w8.heap.size noJob (jobA { data := #[120] } 1 { data := #[105, 0, 114] } (.slice io 1 ic) K) rfl rfl HK9.out (by rw [jobA_size]; exact sizeJob) (by unfold noJob; rw [jobA_size, jobA_size]) (jobA_one _ _ _ _ rfl _) ?_; intro w10 hk10 hs10 hc10; have HK10 := hid hk10; have HC10 := hid (HC9.out.trans hc10 (fun z hz e => by omega)); clear hk10 hs10 hc10))
  have HC710 := hid (HC8.out.trans HC10.out (fun _ _ h => h))
  have HTW : Hid (∀ W, Chg (fun k => k = b ∨ k = r2) w7 W → TabsOK B W ∧ B ≤ W.heap.size ∧ Chg (fun _ => False) w W) := hid (fun W hW => by
    have h1 : Chg (fun _ => False) w W := HCW7.out.trans hW (fun z hz e => by have := HR7.out; omega)
    exact ⟨HT.out.keep h1, Nat.le_trans HBB.out h1.size, h1⟩)
  have HG0 := hid (bgive_any (HB7.out.same HC710.out) aw21_size (HTW.out _ (HC710.out.mono (fun _ _ h => h.elim))).1 (HTW.out _ (HC710.out.mono (fun _ _ h => h.elim))).2.1 0 noRes (by decide))
  go_upto_region 6 with (go_at_call 44; refine HG0.out.mono ?_; rintro e w11 ⟨he11, _, hc11⟩; rw [aw21_give0] at he11 hc11; subst he11; have HX11 := hid (hc11 (by decide)); have HC11 := hid (HC710.out.trans HX11.out (fun _ _ h => h)); clear hc11)
  have HG1 := hid (bgive_any (HB7.out.same HC11.out) aw21_size (HTW.out _ (HC11.out.mono (fun _ _ h => h.elim))).1 (HTW.out _ (HC11.out.mono (fun _ _ h => h.elim))).2.1 1 (30, ByteArray.empty) (by decide))
  go_upto_region 7 with (go_at_call 44; refine HG1.out.mono ?_; rintro e w12 ⟨he12, ⟨hc12, hb12⟩, _⟩; rw [aw21_give1] at he12 hb12; subst he12; have HB12 := hid hb12; have HX12 := hid ((HX11.out.mono (G := fun k => k = b ∨ k = r2) (fun _ _ h => h.elim)).trans hc12 (fun _ _ h => h)); have HC12 := hid ((HC11.out.mono (G := fun k => k = b ∨ k = r2) (fun _ _ h => h.elim)).trans hc12 (fun _ _ h => h)); clear hc12 hb12)
  have HRS := hid (bresults_any HB12.out (by decide))
  rw [aw21_out] at HRS
  go_upto_region 8 with (go_at_call 43; refine HRS.out.mono ?_; rintro e w13 ⟨hc13, v13, rfl, hbt⟩; obtain ⟨ro, rc, hrf⟩ := hbt.form; have hrf2 : v13 = .slice ro 2 rc := hrf; subst hrf2; clear hrf; have HBT := hid hbt; have HC13 := hid hc13; clear hbt hc13)
  have HSTT := hid (bstate_any (HB12.out.same HC13.out))
  rw [aw21_st] at HSTT
  obtain ⟨q0, q1, hqx, _, e1, _⟩ := HIN.out.ix 0 (by decide)
  have hne := (HB7.out.same HC8.out).noStr e1
  have hb7 := heap_lt HB7.out.blk
  have hr7 := HB7.out.map.lt
  have hc78 := HC8.out.size
  have HX13 := HX12.out.trans HC13.out (fun _ _ h => h.elim)
  obtain ⟨y0, y1, _, y3⟩ := job_cells (HX13.obj HK10.out (by show ¬ (w8.heap.size = b ∨ w8.heap.size = r2); omega))
  have e1' := (((HC10.out.mono (G := fun k => k = b ∨ k = r2) (fun _ _ h => h.elim)).trans HX13 (fun _ _ h => h)).cell e1 (by show ¬ (q0 = b ∨ q0 = r2); omega))
  have hqx' : ∀ w, (Instr.indexAt 58 (.slice io 1 ic) (.int .i64 0)).run Tryz.prog w = .ok (.pointer (some ⟨q0, q1, none⟩)) w := hqx
  obtain ⟨p0, p1, hpx, _, f1, _, _⟩ := HBT.out.ix 0 (by decide)
  have hpx' : ∀ w, (Instr.indexAt 29 (.slice ro 2 rc) (.int .i64 0)).run Tryz.prog w = .ok (.pointer (some ⟨p0, p1, none⟩)) w := hpx
  have f1' : w13.cell? ⟨p0, p1 + 1, none⟩ = some (.int .i64 34) := f1
  have e1'' : w13.cell? ⟨q0, q1 + 1, none⟩ = some (.string { data := #[103, 111] }) := e1'
  have hfin := HCW7.out.trans (HC12.out.trans HC13.out (fun _ _ h => h.elim)) (fun z hz e => by have := HR7.out; omega)
  have HFIN := hid hfin
  clear f1 hpx hqx e1 e1' HX13 hfin hne hb7 hr7 hc78 HIN HBT HRS HTW HN HG0 HG1
  go_wp2_with (go_at_call 42; refine HSTT.out.mono ?_; rintro e w14 ⟨rfl, rfl⟩)
  go_ret
  exact ⟨rfl, HFIN.out⟩
end Go.Proofs.YthglfmacjoecgaaGreatDoor
namespace Go.Proofs.YthglfmacjoecgaaGreatDoor
open Go.RowKit

/-- The next job: is there one, its name, place, code, inputs, key. -/
def BkS.js (s : BkS) : Bool := s.next.isSome
def BkS.jn (s : BkS) : ByteArray := match s.next with | none => ByteArray.empty | some i => bs (nameAt s.g i)
def BkS.jp (s : BkS) : Nat := match s.next with | none => 0 | some i => i
def BkS.jc (s : BkS) : ByteArray := match s.next with | none => ByteArray.empty | some i => bs (codeAt s.g i)
def BkS.ji (s : BkS) : List ResR := match s.next with | none => [] | some i => insT2 s.g s.t i
def BkS.jk (s : BkS) : Nat → UInt8 := match s.next with | none => zeroF | some i => keyF (bs (codeAt s.g i)) (insT2 s.g s.t i)
def BkS.took (s : BkS) (x : ResR) : BkS := match s.next with | none => s | some i => s.put i x
theorem js_some {s : BkS} (h : s.js = true) : ∃ i, s.next = some i := by
  unfold BkS.js at h
  cases hn : s.next with
  | none => rw [hn] at h; cases h
  | some i => exact ⟨i, rfl⟩
theorem js_none {s : BkS} (h : s.js = false) : s.next = none := by
  unfold BkS.js at h
  cases hn : s.next with
  | none => rfl
  | some i => rw [hn] at h; cases h
theorem jp_some {s : BkS} {i : Nat} (h : s.next = some i) : s.jp = i := by unfold BkS.jp; rw [h]
theorem took_some {s : BkS} {i : Nat} (h : s.next = some i) (x : ResR) : s.took x = s.put i x := by unfold BkS.took; rw [h]
theorem give_gone {s : BkS} (h : s.js = false) (place : Int) (x : ResR) : s.give place x = (12, s) := give_none (js_none h)
theorem give_far {s : BkS} (h : s.js = true) {place : Int} (hp : place ≠ s.jp) (x : ResR) : s.give place x = (12, s) := by
  obtain ⟨i, hi⟩ := js_some h
  rw [jp_some hi] at hp
  exact give_other hi (fun e => hp e.symm)
theorem give_badR {s : BkS} (h : s.js = true) {x : ResR} (hx : resOK x = false) : s.give s.jp x = (1, s) := by
  obtain ⟨i, hi⟩ := js_some h
  rw [jp_some hi]
  exact give_bad hi rfl hx
theorem give_took {s : BkS} (h : s.js = true) {x : ResR} (hx : resOK x = true) : s.give s.jp x = (0, s.took x) := by
  obtain ⟨i, hi⟩ := js_some h
  rw [jp_some hi, took_some hi]
  exact give_ok hi rfl hx
theorem BkSize.took {s : BkS} (h : BkSize s) {x : ResR} (hx : ROK x) : BkSize (s.took x) := by
  unfold BkS.took
  split
  · exact h
  · exact h.put _ hx
theorem BkSize.job {s : BkS} (h : BkSize s) : s.jc.size ≤ 1000 ∧ s.ji.length ≤ 32 ∧ ∀ r ∈ s.ji, ROK r := by
  unfold BkS.jc BkS.ji
  cases hn : s.next with
  | none => exact ⟨Nat.zero_le _, Nat.zero_le _, fun r hr => by cases hr⟩
  | some i =>
    have hm : i ∈ s.ord := by
      unfold BkS.next at hn
      split at hn
      · exact List.mem_of_find?_eq_some hn
      · cases hn
    have hi := h.ord i hm
    have ha := h.act _ (List.getElem_mem hi)
    refine ⟨?_, ?_, fun r hr => ?_⟩
    · show (bs (codeAt s.g i)).size ≤ 1000
      rw [bs_size, codeAt_lt s.g i hi]
      exact ha.1
    · show (insT2 s.g s.t i).length ≤ 32
      unfold insT2
      rw [List.length_map, insAt_lt s.g i hi]
      exact ha.2
    · obtain ⟨n, _, rfl⟩ := List.mem_map.1 hr
      exact h.val n
def JobPost (w : World) (s : BkS) (e : Ending) (w' : World) : Prop :=
  Chg (fun _ => False) w w' ∧ ∃ inV, e = .returned (.tuple #[.agg (jobA s.jn s.jp s.jc inV s.jk), .bool s.js]) ∧ ResAt w' inV s.ji
theorem bjob_any {B : Nat} {w : World} {b r : Nat} {fp : Nat → Prop} {sv av ov : Value} {iv : Nat → Value} {s : BkS} (h : IsBk w b r fp sv av ov iv s) (hz : BkSize s) (hT : TabsOK B w) (hB : B ≤ w.heap.size) :
    Calls Tryz.prog 41 #[.pointer (some ⟨b, 0, none⟩)] w (JobPost w s) := by
  refine (bnext_any h hz hT hB).mono (fun e w' ⟨h1, h2⟩ => ⟨h1, ?_⟩)
  unfold BkS.jn BkS.jp BkS.jc BkS.jk BkS.js BkS.ji
  rcases h2 with ⟨hn, he⟩ | ⟨i, inV, hn, _, he, hr⟩
  · rw [hn]
    exact ⟨_, he, ResAt.nil w'⟩
  · rw [hn]
    exact ⟨inV, he, hr⟩
/-- Start of a plan that was there before the baker. -/
theorem bstart_plan {B : Nat} {w w5 : World} {g : GrR} {srcs : List SrcR} {sv av lv : Value} {iv0 : Nat → Value} (h1 : NamesAt w sv g.srcs) (h2 : ActsAt w av g.acts iv0) (h3 : SrcsAt w lv srcs) {b r : Nat} {fp : Nat → Prop} {sv0 av0 ov0 : Value} {iv1 : Nat → Value} {s : BkS} (hb : IsBk w5 b r fp sv0 av0 ov0 iv1 s)
    (hbw : w.heap.size ≤ b) (hc : Chg (fun _ => False) w w5) (hT : TabsOK B w) (hB : B ≤ w.heap.size) : Calls Tryz.prog 40 #[.pointer (some ⟨b, 0, none⟩), .agg #[sv, av], lv] w5 (StartPost w5 b g srcs) :=
  bstart_any hb.blk rfl g srcs sv av lv iv0 (fun W hW => by
    have hcW : Chg (fun k => k = b) w W := (hc.mono (fun _ _ h => h.elim)).trans hW (fun _ _ h => h)
    have hno : ∀ k, k < w.heap.size → ¬ k = b := fun k hk e => by omega
    exact ⟨h1.chg hcW hno, h2.chg hcW hno, h3.chg hcW hno⟩) (hT.keep hc) (Nat.le_trans hB hc.size) (Nat.le_trans hB hbw)
end Go.Proofs.YthglfmacjoecgaaGreatDoor
namespace Go.Proofs.YthglfmacjoecgaaGreatDoor
open Go.RowKit

theorem load_ress2 {w : World} {b off : Nat} {v : Value} (h : w.cell? ⟨b, off, none⟩ = some v) : (loadVar 58 ⟨b, off, none⟩).run Tryz.prog w = .ok v w := by
  simp [go_sem, h]
theorem load_acts {w : World} {b off : Nat} {v : Value} (h : w.cell? ⟨b, off, none⟩ = some v) : (loadVar 23 ⟨b, off, none⟩).run Tryz.prog w = .ok v w := by
  simp [go_sem, h]
theorem load_int {w : World} {b off : Nat} {v : Value} (h : w.cell? ⟨b, off, none⟩ = some v) : (loadVar 3 ⟨b, off, none⟩).run Tryz.prog w = .ok v w := by
  simp [go_sem, h]
theorem job_range {w : World} {b : Nat} {nm : ByteArray} {pl : Int} {cd : ByteArray} {inV : Value} {key : Nat → UInt8} (h : w.heap[b]? = some (.cells (jobA nm pl cd inV key) 85 (0, 0))) : w.rangeAt b 4 (rowB 32 key).toList := fun j u hj => by
  rw [cell_of h, ← Array.getElem?_toList, jobA_list, List.getElem?_append_right (by simp)]
  simpa using hj
theorem rok_wf {r : ResR} (h : ROK r) : (Lit.int .i64 r.1).wf = true ∧ r.2.size ≤ maxLen := by
  have h1 := h.1
  have h2 := h.2
  refine ⟨?_, by unfold maxLen; omega⟩
  simp [Lit.wf, IntKind.min, IntKind.max, IntKind.signed, IntKind.bits]
  omega
theorem out_ok {s : BkS} (hz : BkSize s) (hn : ∀ a ∈ s.g.acts, a.name.length ≤ maxLen) : ∀ x ∈ s.out, x.1.length ≤ maxLen ∧ (Lit.int .i64 x.2.1).wf = true ∧ x.2.2.size ≤ maxLen := by
  intro x hx
  unfold BkS.out resL2 at hx
  obtain ⟨a, ha, rfl⟩ := List.mem_map.1 hx
  exact ⟨hn a (List.mem_filter.1 ha).1, rok_wf (hz.val a.name)⟩
end Go.Proofs.YthglfmacjoecgaaGreatDoor
namespace Go.Proofs.YthglfmacjoecgaaGreatDoor
open Go.RowKit

theorem QRow.names {w : World} {v : Value} {l : List Nm} (h : QRow w 9 v (l.map nmV)) (hw : ∀ s ∈ l, s.length ≤ 1000) : NamesAt w v l := by
  rcases h with ⟨rfl, h0⟩ | ⟨g, o, cap, cur, rfl, hg, hl, hm, hcs, ht⟩
  · have : l = [] := by simpa using h0
    subst this
    exact ⟨.inl ⟨rfl, rfl⟩, Nat.zero_le _, by simp⟩
  · refine ⟨.inr ⟨⟨g, o, none⟩, cap, by simp, fun i hi => ?_⟩, by simp at hl ⊢; omega, fun s hs => by obtain ⟨y, hy, rfl⟩ := List.mem_map.1 hs; rw [bs_size]; have := hw y hy; unfold maxLen; omega⟩
    have hi' : i < l.length := by simpa using hi
    have hadd : (⟨g, o, none⟩ : Addr).add i = ⟨g, o + i, none⟩ := by unfold Addr.add; split <;> simp_all
    rw [hadd, cell_of hg, ← Array.getElem?_toList]
    have h2 : ((cur.toList.drop o).take (l.map nmV).length)[i]? = (l.map nmV)[i]? := by rw [ht]
    rw [List.getElem?_take, if_pos (by simpa using hi'), List.getElem?_drop] at h2
    rw [h2]
    simp [hi']
theorem QRow.empty (w : World) : QRow (w.alloc (.cells #[] 9)) 9 (.slice (some ⟨w.heap.size, 0, none⟩) 0 0) [] := .inr ⟨w.heap.size, 0, 0, #[], rfl, heap_alloc_new' w _, Nat.zero_le _, Nat.zero_le _, Nat.zero_le _, rfl⟩
def doneK (g : GrR) (k : Nat) : List Nm := g.srcs ++ ((orderR g).take k).map (nameAt g)
theorem Can.fresh {g : GrR} (hc : Can g) (k : Nat) (h : k < (orderR g).length) : nameAt g (orderR g)[k] ∉ doneK g k := by
  have ho := orderR_ordd g
  have hlt := ho.lt _ (List.getElem_mem h)
  unfold doneK
  intro hm
  rcases List.mem_append.1 hm with hm | hm
  · exact hc.w.apart hlt hm
  · obtain ⟨j, hj, e⟩ := List.mem_map.1 hm
    obtain ⟨q, hq, rfl⟩ := List.mem_iff_getElem.1 hj
    simp only [List.length_take] at hq
    rw [List.getElem_take] at e
    have e2 := hc.w.inj (ho.lt _ (List.getElem_mem (by omega))) hlt e
    exact (List.pairwise_iff_getElem.1 ho.nd) q k (by omega) h (by omega) e2
theorem Can.behind {g : GrR} (k : Nat) (h : k < (orderR g).length) : ∀ s ∈ insAt g (orderR g)[k], s ∈ doneK g k := by
  intro s hs
  unfold doneK
  rcases (orderR_ordd g).sup k h s hs with h1 | ⟨j, hj, h1⟩
  · exact List.mem_append_left _ h1
  · refine List.mem_append_right _ (List.mem_map.2 ⟨(orderR g)[j], ?_, h1⟩)
    rw [List.mem_iff_getElem]
    exact ⟨j, by simp; omega, by rw [List.getElem_take]⟩
end Go.Proofs.YthglfmacjoecgaaGreatDoor
namespace Go.Proofs.YthglfmacjoecgaaGreatDoor
open Go.RowKit

set_option maxRecDepth 100000 in
theorem has_any (v : Value) (l : List Nm) (s : Nm) (w : World) (hl : NamesAt w v l) :
    Calls Tryz.prog 121 #[v, .string (bs s)] w (Rets (.bool (l.contains s)) (fun w' => w = w')) := by
  have hlen := hl.len
  have hmx := hl.le
  unfold maxLen at hmx
  have H := hid hl
  clear hl
  go_enter Tryz.func121, Tryz.ntmps121
  go_wp2_with fail
  go_loopw [5] (fun i wr => ∃ k : Nat, k ≤ l.length ∧ i = .int .i64 k ∧ wr = w ∧ ∀ j (h : j < l.length), j < k → ¬ l[j] = s) (fun i _ => l.length - (intOf i).toNat)
  case atStart => exact ⟨0, Nat.zero_le _, rfl, rfl, fun j _ h => absurd h (Nat.not_lt_zero _)⟩
  case round =>
    obtain ⟨k, hk, rfl, rfl, hall⟩ := hrel
    have HA := hid hall
    clear hall
    by_cases hkn : k < l.length
    · have hkn' : (k : Int) < l.length := by omega
      obtain ⟨ad, hix, hadc, hadb⟩ := H.out.ix k hkn
      by_cases he : l[k] = s
      · have hc : l.contains s = true := by simp; rw [← he]; exact List.getElem_mem hkn
        have HC := hid hc
        rw [he] at hadc
        clear he hc
        generalize bs s = x at *
        go_wp2_with fail
        go_ret
        exact ⟨by rw [HC.out]; rfl, rfl⟩
      · have hne := bs_eq l[k] s
        rw [decide_eq_false he] at hne
        have HE := hid he
        clear he
        generalize bs l[k] = x at *
        generalize bs s = y at *
        go_wp2_with fail
        go_roundw
        case rel =>
          refine ⟨k + 1, by omega, by go_num, by first | rfl | trivial, fun j hj hjk => ?_⟩
          by_cases e : j = k
          · subst e; exact HE.out
          · exact HA.out j hj (by omega)
        case measure => simp [intOf]; omega
    · obtain rfl : k = l.length := by omega
      have hc : l.contains s = false := by
        simp
        intro hm
        obtain ⟨j, hj, e⟩ := List.mem_iff_getElem.1 hm
        exact HA.out j hj hj e
      have HC := hid hc
      clear hc
      go_wp2_with fail
      go_ret
      exact ⟨by rw [HC.out]; rfl, rfl⟩

/-- The place of the action of a name; -1: there is none. -/
def placeZ (g : GrR) (s : Nm) : Int := match placeOf g s with
  | some i => (i : Int)
  | none => -1
set_option maxRecDepth 100000 in
set_option maxHeartbeats 1000000 in
theorem rat_any (g : GrR) (s : Nm) (v : Value) (w : World) (hg : GrAt w v g) :
    Calls Tryz.prog 91 #[v, .string (bs s)] w (Rets (.int .i64 (placeZ g s)) (Chg (fun _ => False) w)) := by
  obtain ⟨oa, c, ob, d, iv, rfl, hs, ha⟩ := hg.form
  have hmx := ha.rows.le
  unfold maxLen at hmx
  have hlen := ha.len
  have hC1 : Chg (fun _ => False) w (w.alloc (.cells #[.slice oa g.srcs.length c, .slice ob g.acts.length d] 25)) := (Chg.refl _ w).alloc _
  have hgb := heap_alloc_new' w (.cells #[.slice oa g.srcs.length c, .slice ob g.acts.length d] 25)
  have HA := hid (ha.chg hC1 (fun _ _ h => h))
  have HC1 := hid hC1
  have HGB := hid hgb
  clear hg hs ha hC1 hgb
  go_enter Tryz.func91, Tryz.ntmps91
  go_wp2_with fail
  generalize w.alloc (.cells #[.slice oa g.srcs.length c, .slice ob g.acts.length d] 25) = W0 at *
  generalize w.heap.size = gb at *
  go_loopw [5] (fun i wr => ∃ k : Nat, k ≤ g.acts.length ∧ i = .int .i64 k ∧ Chg (fun _ => False) W0 wr ∧ ∀ j (h : j < g.acts.length), j < k → ¬ g.acts[j].name = s) (fun i _ => g.acts.length - (intOf i).toNat)
  case atStart => exact ⟨0, Nat.zero_le _, rfl, Chg.refl _ _, fun j _ h => absurd h (Nat.not_lt_zero _)⟩
  case round =>
    obtain ⟨k, hk, rfl, hch, hall⟩ := hrel
    have HAL := hid hall
    have HC := hid hch
    have a1 := cell_of (hch.obj HGB.out (fun h => h)) 1
    simp at a1
    clear hall hch
    by_cases hkn : k < g.acts.length
    · have hkn' : (k : Int) < g.acts.length := by omega
      obtain ⟨bb, oo, hix, hlt, e0, e1, e2, hns, hw1, hw2⟩ := (HA.out.chg HC.out (fun _ _ h => h)).at k hkn
      clear hns hw1 hw2 e1 e2
      by_cases he : g.acts[k].name = s
      · have hp : placeZ g s = k := by
          have : placeOf g s = some k := by
            unfold placeOf
            rw [List.findIdx?_eq_some_iff_getElem]
            exact ⟨hkn, by simp [he], fun j hj => by simp [HAL.out j (by omega) hj]⟩
          unfold placeZ; rw [this]
        have HP := hid hp
        rw [he] at e0
        clear he hp
        generalize bs s = x at *
        go_wp2_with fail
        go_ret
        exact ⟨congrArg (fun z => Ending.returned (.int .i64 z)) HP.out.symm, HC1.out.trans HC.out (fun _ _ h => h)⟩
      · have hne := bs_eq g.acts[k].name s
        rw [decide_eq_false he] at hne
        have HE := hid he
        clear he
        generalize bs g.acts[k].name = x at *
        generalize bs s = y at *
        go_wp2_with fail
        go_roundw
        case rel =>
          refine ⟨k + 1, by omega, by go_num, HC.out, fun j hj hjk => ?_⟩
          by_cases e : j = k
          · subst e; exact HE.out
          · exact HAL.out j hj (by omega)
        case measure => simp [intOf]; omega
    · obtain rfl : k = g.acts.length := by omega
      have hp : placeZ g s = -1 := by
        have : placeOf g s = none := by
          unfold placeOf
          rw [List.findIdx?_eq_none_iff]
          intro a ha
          obtain ⟨j, hj, rfl⟩ := List.mem_iff_getElem.1 ha
          simp [HAL.out j hj hj]
        unfold placeZ; rw [this]
      have HP := hid hp
      clear hp
      go_wp2_with fail
      go_ret
      exact ⟨congrArg (fun z => Ending.returned (.int .i64 z)) HP.out.symm, HC1.out.trans HC.out (fun _ _ h => h)⟩
end Go.Proofs.YthglfmacjoecgaaGreatDoor
namespace Go.Proofs.YthglfmacjoecgaaGreatDoor
open Go.RowKit

theorem owns_empty (W : World) (e : TypeId) : (W.alloc (.cells #[] e)).ownsRow 0 e 1 (.slice (some ⟨W.heap.size, 0, none⟩) 0 0) 0 [] :=
  ⟨rfl, .inr ⟨W.heap.size, 0, #[], rfl, Nat.zero_le _, heap_alloc_new' W _, Nat.le_refl _, Nat.zero_le _, rfl, rfl⟩⟩

set_option maxRecDepth 100000 in
set_option maxHeartbeats 2000000 in
theorem rorder_any (g : GrR) (hw : Wov g) (v : Value) (w : World) (hg : GrAt w v g) :
    Calls Tryz.prog 116 #[v] w (IntsPost w (orderR g)) := by
  obtain ⟨oa, c, ob, d, iv, rfl, hs, ha⟩ := hg.form
  have hmx := ha.rows.le
  unfold maxLen at hmx
  have hlen := ha.len
  have hC1 : Chg (fun _ => False) w (w.alloc (.cells #[.slice oa g.srcs.length c, .slice ob g.acts.length d] 25)) := (Chg.refl _ w).alloc _
  have hgb := heap_alloc_new' w (.cells #[.slice oa g.srcs.length c, .slice ob g.acts.length d] 25)
  have HA := hid (ha.chg hC1 (fun _ _ h => h))
  have HS := hid (hs.chg hC1 (fun _ _ h => h))
  have HC1 := hid hC1
  have HGB := hid hgb
  have HW := hid hw
  have hsz : (w.alloc (.cells #[.slice oa g.srcs.length c, .slice ob g.acts.length d] 25)).heap.size = w.heap.size + 1 := by simp
  clear hg hs ha hC1 hw
  go_enter Tryz.func116, Tryz.ntmps116
  have hAl : ∀ W, Chg (fun _ => False) W (W.alloc (.cells #[] 9)) := fun W => al_chg W _
  have hQ0 := QRow.empty ((w.alloc (.cells #[.slice oa g.srcs.length c, .slice ob g.acts.length d] 25)).alloc (.cells #[] 3))
  have HQ0 : Hid (QRow (((w.alloc (.cells #[.slice oa g.srcs.length c, .slice ob g.acts.length d] 25)).alloc (.cells #[] 3)).alloc (.cells #[] 9)) 9 (.slice (some ⟨w.heap.size + 1 + 1, 0, none⟩) 0 0) []) := hid (by simpa using hQ0)
  clear hQ0
  have hs3 : NamesAt (((w.alloc (.cells #[.slice oa g.srcs.length c, .slice ob g.acts.length d] 25)).alloc (.cells #[] 3)).alloc (.cells #[] 9)) (.slice oa g.srcs.length c) g.srcs := (HS.out.chg (al_chg _ _) (fun _ _ h => h)).chg (al_chg _ _) (fun _ _ h => h)
  have HS3 := hid hs3
  have hsl := HW.out.srcs8
  clear hs3 hAl
  go_wp2_with (at_builtin; refine wpList_append_q rfl _ _ 22 rfl elStr HQ0.out rfl rfl HS3.out (by unfold maxLen; simp; omega) (by simp; omega) ?_; intro v8 w8 hq8 hc8 hb8)
  have hC8 := ((al_chg (w.alloc (.cells #[.slice oa g.srcs.length c, .slice ob g.acts.length d] 25)) (.cells #[] 3)).trans (al_chg _ (.cells #[] 9)) (fun _ _ h => h)).trans hc8 (F := fun _ => False) (fun q hq h => by simp [Value.ownBlock] at h; simp at hq; omega)
  have hbd : ∀ q, v8.ownBlock = some q → w.heap.size + 1 + 1 ≤ q := fun q hq => by
    rcases hb8 q hq with h | h
    · simp [Value.ownBlock] at h; omega
    · simp at h; omega
  have ho8 := hc8.owns ((al_chg _ (.cells #[] 9)).owns (owns_empty (w.alloc (.cells #[.slice oa g.srcs.length c, .slice ob g.acts.length d] 25)) 3) (fun _ _ h => h)) (fun q hq h => by simp [Value.ownBlock] at h hq; omega)
  rw [show (w.alloc (.cells #[.slice oa g.srcs.length c, .slice ob g.acts.length d] 25)).heap.size = w.heap.size + 1 from hsz] at ho8
  generalize w.alloc (.cells #[.slice oa g.srcs.length c, .slice ob g.acts.length d] 25) = W0 at *
  generalize hgs : w.heap.size = gb at *
  have HGS := hid hgs
  have HSZ := hid hsz
  clear hgs hsz HQ0 HS3 hc8 hb8
  go_loopw [3, 4, 5] (fun o dd rr wr => ∃ (r : Nat) (l : List Nat) (x y : Value), x = o ∧ y = dd ∧ r ≤ g.acts.length ∧ rr = .int .i64 r ∧ Ordd g l ∧ orderR g = orderGo g (g.acts.length - r) l ∧ wr.ownsRow 0 3 1 x l.length (l.map natV) ∧ QRow wr 9 y ((g.srcs ++ l.map (nameAt g)).map nmV) ∧ (∀ q, x.ownBlock = some q → gb + 1 ≤ q) ∧ (∀ q, y.ownBlock = some q → gb + 1 ≤ q) ∧ (∀ q, x.ownBlock = some q → y.ownBlock = some q → False) ∧ Chg (fun _ => False) W0 wr) (fun _ _ rr _ => g.acts.length - (intOf rr).toNat)
  case atStart => exact ⟨0, [], _, _, rfl, rfl, Nat.zero_le _, rfl, Ordd.nil g, rfl, ho8, by simp at hq8 ⊢; exact hq8, (fun q h => by simp [Value.ownBlock] at h; omega), (fun q h => by have := hbd q h; omega), (fun q h h2 => by have := hbd q h2; simp [Value.ownBlock] at h; omega), hC8⟩
  case round =>
    obtain ⟨r, l, v3, v4, hv, hv2, hr, rfl, hod, hgo, ho, hq, hbo, hbd, hap, hch⟩ := hrel
    subst hv hv2
    have HOD := hid hod
    have HGO := hid hgo
    have HO := hid ho
    have HQ := hid hq
    have HBO := hid hbo
    have HBD := hid hbd
    have HAP := hid hap
    have HC := hid hch
    have a0 := cell_of (hch.obj hgb (fun h => h)) 0
    have a1 := cell_of (hch.obj hgb (fun h => h)) 1
    simp at a0 a1
    clear hod hgo ho hq hbo hbd hap hch ho8 hq8 hC8
    by_cases hrn : r < g.acts.length
    · have hrn' : (r : Int) < g.acts.length := by omega
      go_wp2_with fail
      clear a0 a1
      go_loopw [3, 4, 6] (fun o dd ii wx => ∃ i : Nat, v3 = o ∧ v4 = dd ∧ i ≤ g.acts.length ∧ ii = .int .i64 i ∧ (∀ j (h : j < g.acts.length), j < i → readyB g l g.acts[j] = false) ∧ Chg (fun _ => False) wr wx) (fun _ _ ii _ => g.acts.length - (intOf ii).toNat)
      case atStart => exact ⟨0, rfl, rfl, Nat.zero_le _, rfl, fun j _ h => absurd h (Nat.not_lt_zero _), Chg.refl _ _⟩
      case round =>
        obtain ⟨i, hv, hv2, hi, rfl, hall, hch⟩ := hrel
        subst hv hv2
        have HAL := hid hall
        have HW1 := hid (HC.out.trans hch (fun _ _ h => h))
        have HO1 := hid (hch.owns HO.out (fun _ _ h => h))
        have HQ1 := hid (HQ.out.chg hch (fun _ _ h => h))
        have HC1' := hid hch
        have a0 := cell_of (HW1.out.obj hgb (fun h => h)) 0
        have a1 := cell_of (HW1.out.obj hgb (fun h => h)) 1
        simp at a0 a1
        clear hall hch
        by_cases hin : i < g.acts.length
        · have hin' : (i : Int) < g.acts.length := by omega
          obtain ⟨bb, oo, hix, hlt, e0, e1, e2, hns, hw1, hw2⟩ := (HA.out.chg HW1.out (fun _ _ h => h)).at i hin
          have HNS := hid hns
          have HN1 : Hid (NamesAt wr v4 (g.srcs ++ l.map (nameAt g))) := hid (HQ1.out.names (fun s hs => by
            have : s ∈ namesL g := by
              rcases List.mem_append.1 hs with h | h
              · exact mem_names.2 (.inl h)
              · obtain ⟨j, hj, rfl⟩ := List.mem_map.1 h
                exact mem_names.2 (.inr ⟨j, HOD.out.lt j hj, rfl⟩)
            have := name_le HW.out this
            omega))
          obtain ⟨oi, ci, hfi⟩ := hns.form
          rw [hfi] at e1 HNS
          clear hns hw1 hw2 hfi
          have hA5 := al_chg wr (.cells #[.string (bs g.acts[i].name), .slice oi g.acts[i].ins.length ci, .string (bs g.acts[i].code)] 43)
          obtain ⟨D, hD⟩ : ∃ D, D = g.srcs ++ l.map (nameAt g) := ⟨_, rfl⟩
          have HN5 := hid (HN1.out.chg hA5 (fun _ _ h => h))
          rw [← hD] at HN5
          have HD := hid hD
          clear hD
          obtain ⟨b0, hb0⟩ : ∃ b0, D.contains g.acts[i].name = b0 := ⟨_, rfl⟩
          have HB0 := hid hb0
          clear hb0
          have HI5 := hid (HNS.out.chg hA5 (fun _ _ h => h))
          have HB5 := hid (heap_alloc_new' wr (.cells #[.string (bs g.acts[i].name), .slice oi g.acts[i].ins.length ci, .string (bs g.acts[i].code)] 43))
          have HA5 := hid hA5
          clear hA5
          go_wp2_with (go_at_call 121; refine (has_any v4 D g.acts[i].name _ HN5.out).mono ?_; rw [HB0.out]; rintro e w2 ⟨rfl, rfl⟩)
          go_loopw [8, 9] (fun rd kk wx => ∃ k : Nat, k ≤ g.acts[i].ins.length ∧ kk = .int .i64 k ∧ rd = .bool (!b0 && (g.acts[i].ins.take k).all (fun s => D.contains s)) ∧ wx = wr.alloc (.cells #[.string (bs g.acts[i].name), .slice oi g.acts[i].ins.length ci, .string (bs g.acts[i].code)] 43)) (fun _ kk _ => g.acts[i].ins.length - (intOf kk).toNat)
          case atStart => exact ⟨0, Nat.zero_le _, rfl, by simp, rfl⟩
          case round =>
            obtain ⟨k, hk, rfl, rfl, rfl⟩ := hrel
            have c1 := cell_of HB5.out 1
            simp at c1
            have hln := HI5.out.len
            have hib := HI5.out.le
            unfold maxLen at hib
            by_cases hkn : k < g.acts[i].ins.length
            · have hkn' : (k : Int) < g.acts[i].ins.length := by omega
              obtain ⟨ad, hix2, hadc, hadb⟩ := HI5.out.ix k hkn
              have hst : (g.acts[i].ins.take (k + 1)).all (fun s => D.contains s) = ((g.acts[i].ins.take k).all (fun s => D.contains s) && D.contains g.acts[i].ins[k]) := by rw [List.take_succ_eq_append_getElem hkn, List.all_append]; simp
              have HST := hid hst
              clear hst
              generalize g.acts[i].ins[k] = x at *
              generalize hb1 : (!b0 && (g.acts[i].ins.take k).all (fun s => D.contains s)) = b1 at *
              have HB1 := hid hb1
              clear hb1
              obtain ⟨b2, hb2⟩ : ∃ b2, D.contains x = b2 := ⟨_, rfl⟩
              have HB2 := hid hb2
              clear hb2
              cases b1 with
              | true =>
                go_wp2_with (go_at_call 121; refine (has_any v4 D x _ HN5.out).mono ?_; rw [HB2.out]; rintro e w2 ⟨rfl, rfl⟩)
                go_roundw
                case rel => exact ⟨k + 1, by omega, by go_num, by rw [HST.out, ← Bool.and_assoc, HB1.out, HB2.out]; rfl, by first | rfl | trivial⟩
                case measure => simp [intOf]; omega
              | false =>
                go_wp2_with fail
                go_roundw
                case rel => exact ⟨k + 1, by omega, by go_num, by rw [HST.out, ← Bool.and_assoc, HB1.out]; rfl, by first | rfl | trivial⟩
                case measure => simp [intOf]; omega
            · obtain rfl : k = g.acts[i].ins.length := by omega
              rw [List.take_length]
              have hrb : readyB g l g.acts[i] = (!b0 && g.acts[i].ins.all (fun s => D.contains s)) := by
                have hna : g.acts[i].name ∉ g.srcs := by rw [← nameAt_lt g i hin]; exact HW.out.apart hin
                rw [← HB0.out, HD.out]
                unfold readyB
                simp [hna]
              have HRB := hid hrb
              clear hrb
              generalize (!b0 && g.acts[i].ins.all (fun s => D.contains s)) = b3 at *
              cases b3 with
              | true =>
                have hsi : stepR g l = some i := by
                  unfold stepR
                  rw [List.findIdx?_eq_some_iff_getElem]
                  exact ⟨hin, HRB.out, fun j hj => by simp [HAL.out j (by omega) hj]⟩
                have hg2 : orderR g = orderGo g (g.acts.length - (r + 1)) (l ++ [i]) := by
                  have h1 := HGO.out
                  have h2 : g.acts.length - r = (g.acts.length - (r + 1)) + 1 := by omega
                  rw [h2] at h1
                  unfold orderGo at h1
                  rw [hsi] at h1
                  exact h1
                have HG2 := hid hg2
                have HOD2 := hid (HOD.out.snoc hsi)
                clear hsi hg2
                have hnm8 : g.acts[i].name.length ≤ 1000 := by
                  have := name_le HW.out (mem_names.2 (.inr ⟨i, hin, rfl⟩) : nameAt g i ∈ namesL g)
                  rw [nameAt_lt g i hin] at this
                  omega
                have HNM8 := hid hnm8
                clear hnm8
                have HNA := hid (nameAt_lt g i hin)
                have hl12 := HOD.out.le
                have hg12 := HW.out.acts12
                have ho5 := HA5.out.owns HO1.out (fun _ _ h => h)
                have HQ5 := hid (HQ1.out.chg HA5.out (fun _ _ h => h))
                have HSZ5 : Hid (W0.heap.size ≤ wr.heap.size) := hid HW1.out.size
                have HC5 := hid (HW1.out.trans HA5.out (fun _ _ h => h))
                generalize wr.alloc (.cells #[.string (bs g.acts[i].name), .slice oi g.acts[i].ins.length ci, .string (bs g.acts[i].code)] 43) = W5 at *
                have HLT3 := hid ((QRow.of_owns HO1.out).lt)
                have HLT4 := hid (HQ1.out.lt)
                have HN9 := HNM8
                have c1 := cell_of HB5.out 1
                have HGW : Hid (W0.heap.size = gb + 1) := HSZ
                simp at c1
                have HSW : Hid (wr.heap.size < W5.heap.size) := hid (Array.getElem?_eq_some_iff.1 HB5.out).1
                go_wp2_with (first | (at_builtin; refine wpList_append_new rfl _ _ 75 rfl elInt ho5 rfl _ 1 1 rfl rfl rfl (by unfold maxLen; omega) (by omega) (by decide) ?_; intro g6 cap6 w6 hown6 hch6 hg6; have HOW6 := hid hown6; have HCH6 := hid hch6; have hb6 := hch6.obj HB5.out (fun h => absurd (HLT3.out _ h) (by omega)); have d0 := cell_of hb6 0; simp at d0; have HQ6 := hid ((HQ5.out.chg hch6 (fun q h h2 => HAP.out q h2 h)).chg (al_chg w6 (.cells #[.string (bs g.acts[i].name)] 9)) (fun _ _ h => h)); have HN6 : Hid (StrsAt (w6.alloc (.cells #[.string (bs g.acts[i].name)] 9)) (.slice (some ⟨w6.heap.size, 0, none⟩) 1 1) [bs g.acts[i].name]) := hid (names_new w6 [g.acts[i].name] 1 rfl (by decide) (fun t ht => by simp at ht; subst ht; exact HNM8.out))) | (at_builtin; refine wpList_append_q rfl _ _ 22 rfl elStr HQ6.out rfl rfl HN6.out (by unfold maxLen; simp; omega) (by simp; omega) ?_; intro v9 w9 hq9 hc9 hb9))
                have hnd : ∀ q, q = g6 → v4.ownBlock = some q → False := fun q e h => by
                  subst e
                  rcases hg6 with h1 | h1
                  · exact HAP.out _ h1 h
                  · have h2 := HLT4.out _ h
                    have h3 := HSW.out
                    omega
                have ho9 := hc9.owns ((al_chg w6 (.cells #[.string (bs g.acts[i].name)] 9)).owns HOW6.out (fun _ _ h => h)) (fun q hq h => hnd q (by simp [Value.ownBlock] at hq; exact hq.symm) h)
                have hC9 := ((HC5.out.trans HCH6.out (fun q hq h => absurd (HBO.out q h) (by have := HGW.out; omega))).trans (al_chg w6 (.cells #[.string (bs g.acts[i].name)] 9)) (fun _ _ h => h)).trans hc9 (fun q hq h => absurd (HBD.out q h) (by have := HGW.out; omega))
                have hs6 := HC5.out.size
                have hs7 := HCH6.out.size
                go_roundw
                case rel =>
                  refine ⟨r + 1, l ++ [i], _, _, rfl, rfl, by omega, by go_num, HOD2.out, HG2.out, ?_, ?_, fun q hq => ?_, fun q hq => ?_, fun q hq h => ?_, hC9⟩
                  · simpa using ho9
                  · have e : (g.srcs ++ (l ++ [i]).map (nameAt g)).map nmV = (g.srcs ++ l.map (nameAt g)).map nmV ++ [bs g.acts[i].name].map Value.string := by
                      simp [nmV, HNA.out]
                    rw [e]; exact hq9
                  · simp [Value.ownBlock] at hq
                    subst hq
                    rcases hg6 with h1 | h1
                    · exact HBO.out _ h1
                    · have := HGW.out; omega
                  · rcases hb9 q hq with h1 | h1
                    · exact HBD.out q h1
                    · have := HGW.out; simp at h1; omega
                  · simp [Value.ownBlock] at hq
                    rcases hb9 q h with h1 | h1
                    · exact hnd q hq.symm h1
                    · subst hq
                      have h2 : g6 < w6.heap.size := by
                        have := (QRow.of_owns HOW6.out).lt g6 (by simp [Value.ownBlock])
                        exact this
                      simp at h1; omega
                case measure => simp [intOf]; omega
              | false =>
                go_wp2_with fail
                go_roundw
                case rel =>
                  refine ⟨i + 1, rfl, rfl, by omega, by go_num, fun j hj hji => ?_, HC1'.out.trans HA5.out (fun _ _ h => h)⟩
                  by_cases e : j = i
                  · subst e; exact HRB.out
                  · exact HAL.out j hj (by omega)
                case measure => simp [intOf]; omega
        · obtain rfl : i = g.acts.length := by omega
          have hsn : stepR g l = none := by
            unfold stepR
            rw [List.findIdx?_eq_none_iff]
            intro a ha
            obtain ⟨j, hj, rfl⟩ := List.mem_iff_getElem.1 ha
            exact HAL.out j hj hj
          have hg2 : orderR g = orderGo g (g.acts.length - (r + 1)) l := by
            have h1 := HGO.out
            have h2 : g.acts.length - r = (g.acts.length - (r + 1)) + 1 := by omega
            rw [h2] at h1
            unfold orderGo at h1
            rw [hsn] at h1
            rw [h1]
            cases (g.acts.length - (r + 1)) with
            | zero => rfl
            | succ n => unfold orderGo; rw [hsn]
          have HG2 := hid hg2
          clear hsn hg2
          go_wp2_with fail
          go_roundw
          case rel => exact ⟨r + 1, l, _, _, rfl, rfl, by omega, by go_num, HOD.out, HG2.out, HO1.out, HQ1.out, HBO.out, HBD.out, HAP.out, HW1.out⟩
          case measure => simp [intOf]; omega
    · obtain rfl : r = g.acts.length := by omega
      go_wp2_with fail
      go_ret
      refine ⟨HC1.out.trans HC.out (fun _ _ h => h), v3, rfl, ?_⟩
      have h1 := HGO.out
      rw [Nat.sub_self] at h1
      rw [h1]
      exact HO.out
end Go.Proofs.YthglfmacjoecgaaGreatDoor
