/- strings.Cut and strings.Split at one byte in our words; recipe.action walked. -/
import Derived.Test.YtbaipdhgjalgoaaDoorReI
namespace Go.Proofs.YtbaipdhgjalgoaaDoor
open Go.RowKit

/-- The library's variable has a number. -/
def MaxOK (w : World) : Prop := ∃ m, w.cell? ⟨0, 0, none⟩ = some (.int .i64 m)
theorem MaxOK.chg {F : Nat → Prop} {w w' : World} (h : MaxOK w) (hc : Chg F w w') (hF : ∀ k, k < w.heap.size → ¬ F k) : MaxOK w' := by
  obtain ⟨m, hm⟩ := h
  exact ⟨m, hc.cell hm (hF _ (World.block_lt_of_cell? w _ hm))⟩
theorem MaxOK.of {w : World} (h : w.ShapedOpen Tryd.prog) : MaxOK w := Tryd.laysM146.s1_3 w h

theorem cut_any (t : List UInt8) (ht : t.length ≤ 100000) (w : World) (hm : MaxOK w) :
    Calls Tryd.prog 19 #[.string (bs t), .string { data := #[10] }] w (Rets (.tuple #[.string (bs (cutC 10 t).1), .string (bs (cutC 10 t).2.1), .bool (cutC 10 t).2.2]) (Chg (fun _ => False) w)) := by
  obtain ⟨m, hm⟩ := hm
  refine (Tryd.strings_Cut (bs t) { data := #[10] } m w (by rw [bs_size]; omega) hm).mono ?_
  rintro e w' ⟨rfl, n, rfl⟩
  refine ⟨?_, (Chg.refl _ w).drewN n⟩
  rw [bs_data]
  have e1 : Lib.cut t ({ data := #[10] } : ByteArray).data.toList = cutC 10 t := cut_eq 10 t
  rw [e1]; rfl
theorem split_any (t : List UInt8) (ht : t.length ≤ 100000) (w : World) (hm : MaxOK w) :
    Calls Tryd.prog 36 #[.string (bs t), .string { data := #[32] }] w (Rets (.slice (some ⟨w.heap.size, 0, none⟩) (splitC 32 t).length (splitC 32 t).length) (fun w' => w' = w.alloc (.cells ((splitC 32 t).map strV).toArray 9))) := by
  obtain ⟨m, hm⟩ := hm
  refine (Tryd.strings_Split (bs t) { data := #[32] } m w (by rw [bs_size]; omega) hm (by decide)).mono ?_
  rintro e w' ⟨rfl, rfl⟩
  have hc : Lib.countB (bs t) { data := #[32] } = Lib.count t [32] := by unfold Lib.countB; rw [bs_data]
  have hd := Lib.splitB_data { data := #[32] } 0 (Lib.countB (bs t) { data := #[32] }) (bs t)
  rw [bs_data] at hd
  have hd2 : (Lib.splitB { data := #[32] } 0 (Lib.countB (bs t) { data := #[32] }) (bs t)).map (·.data.toList) = splitC 32 t := by
    rw [hd, hc]; exact split_eq 32 t
  have hl : Lib.countB (bs t) { data := #[32] } + 1 = (splitC 32 t).length := by
    rw [← hd2, List.length_map]
    exact (Lib.splitB_all { data := #[32] } (by decide) 0 _ (bs t) rfl).symm
  have hv : (Lib.splitB { data := #[32] } 0 (Lib.countB (bs t) { data := #[32] }) (bs t)).map Value.string = (splitC 32 t).map strV := by
    rw [← hd2, List.map_map]
    refine List.map_congr_left (fun s _ => ?_)
    show Value.string s = .string (bs s.data.toList)
    rw [bs_list]
  rw [hl, hv]
  exact ⟨rfl, rfl⟩

/-- A cell that is set to what it holds: nothing changes. -/
theorem setCell_id {w : World} {b i : Nat} {c : Array Value} {T : TypeId} {fz : Nat × Nat} {u : Value} (h : w.heap[b]? = some (.cells c T fz)) (hu : c[i]? = some u) : w.setCell ⟨b, i, none⟩ u = w := by
  have hc : c.setIfInBounds i u = c := by
    apply Array.ext_getElem?
    intro j
    rw [Array.getElem?_setIfInBounds]
    by_cases e : i = j
    · subst e
      rw [if_pos rfl, hu]
      have := (Array.getElem?_eq_some_iff.1 hu).1
      simp [this]
    · rw [if_neg e]
  have hh : (w.setCell ⟨b, i, none⟩ u).heap = w.heap := by
    apply Array.ext_getElem?
    intro j
    unfold World.setCell
    simp only [Array.getElem?_modify]
    by_cases e : b = j
    · subst e
      rw [if_pos rfl, h]
      simp [hc]
    · rw [if_neg e]
  have e : w.setCell ⟨b, i, none⟩ u = { w with heap := (w.setCell ⟨b, i, none⟩ u).heap } := rfl
  rw [e, hh]

/-- An answer of action that is none: a value of three cells, and false. -/
def NoAct (e : Ending) : Prop := ∃ s oa n c cd, e = .returned (.tuple #[.agg #[.string s, .slice oa n c, .string cd], .bool false])
def ActPost (g : Nat) (o : Option ActR) (w : World) (e : Ending) (w' : World) : Prop :=
  Chg (fun _ => False) w w' ∧ match o with
  | none => NoAct e
  | some a => ∃ oa c, e = .returned (.tuple #[actV a (.slice oa a.ins.length c), .bool true]) ∧ NamesAt w' (.slice oa a.ins.length c) a.ins ∧ ∀ ad, oa = some ad → ad.block = g

def actFin (N : Nat) (x nm : List UInt8) (ins : List (List UInt8)) : Option (List UInt8) → Option ActR
  | none => none
  | some c => if (x ≠ wFrom ∨ N - 2 < 2) then none else if actOK ⟨nm, ins, c⟩ then some ⟨nm, ins, c⟩ else none
theorem actFin_ok {N : Nat} {x nm : List UInt8} {ins : List (List UInt8)} {c : List UInt8} (h : ¬ (x ≠ wFrom ∨ N - 2 < 2)) : actFin N x nm ins (some c) = if actOK ⟨nm, ins, c⟩ then some ⟨nm, ins, c⟩ else none := by
  show (if _ then _ else _) = _
  rw [if_neg h]
theorem actFin_bad {N : Nat} {x nm : List UInt8} {ins : List (List UInt8)} {c : List UInt8} (h : x ≠ wFrom ∨ N - 2 < 2) : actFin N x nm ins (some c) = none := by
  show (if _ then _ else _) = _
  rw [if_pos h]
theorem beq_dec (a b : List UInt8) : (a == b) = decide (a = b) := by by_cases h : a = b <;> simp [h]
set_option maxRecDepth 100000 in
set_option maxHeartbeats 4000000 in
theorem action_any (ws : List (List UInt8)) (hl : ws.length ≤ 100000) (hws : ∀ x ∈ ws, x.length ≤ 100000) (g c : Nat) (w : World) (hcap : ws.length ≤ c) (hcell : ∀ i (h : i < ws.length), w.cell? ⟨g, i, none⟩ = some (.string (bs ws[i]))) :
    Calls Tryd.prog 37 #[.slice (some ⟨g, 0, none⟩) ws.length c] w (ActPost g (actionL ws) w) := by
  by_cases h4 : ws.length < 4
  · have hr : actionL ws = none := by unfold actionL; rw [if_pos (.inl h4)]
    rw [hr]
    have h4' : (ws.length : Int) - 2 < 2 := by omega
    have hw1 : IntKind.i64.wrap ((ws.length : Int) - 2) = (ws.length : Int) - 2 := by rw [IntKind.wrap_i64]; omega
    clear hcell hr
    go_enter Tryd.func37, Tryd.ntmps37
    go_wp2_with fail
    refine bodyPost_ret (v := .tuple #[.agg #[.string { data := #[] }, .slice none 0 0, .string { data := #[] }], .bool false]) (by simp [results, Tryd.results37, go_sem] <;> rfl) rfl ⟨(Chg.refl _ w).alloc _, _, _, _, _, _, rfl⟩
  · obtain ⟨N, hN⟩ : ∃ N, ws.length = N + 2 := ⟨ws.length - 2, by omega⟩
    have hN2 : 2 ≤ N := by omega
    have h4' : ¬ (N : Int) < 2 := by omega
    have hw1' : IntKind.i64.wrap ((N : Int) + 2 - 2) = (N : Int) := by rw [IntKind.wrap_i64]; omega
    have hw2 : IntKind.i64.wrap ((N : Int) + 1) = (N : Int) + 1 := by rw [IntKind.wrap_i64]; omega
    have z0 := hcell 0 (by omega)
    have zN := hcell N (by omega)
    have a0 := cell_alloc' z0 (.cells #[.string { data := #[] }, .slice none 0 0, .string { data := #[] }] 42)
    have aN := cell_alloc' zN (.cells #[.string { data := #[] }, .slice none 0 0, .string { data := #[] }] 42)
    have a1 := cell_alloc' (hcell 1 (by omega)) (.cells #[.string { data := #[] }, .slice none 0 0, .string { data := #[] }] 42)
    have b1 := cell_alloc' (hcell (N + 1) (by omega)) (.cells #[.string (bs (ws[1]'(by omega))), .slice none 0 0, .string { data := #[] }] 42)
    have hgw := World.block_lt_of_cell? w _ z0
    have bl0 : Hid (∀ s : List UInt8, ((bs s).toList == [109, 97, 107, 101]) = decide (s = wMake)) := fun s => by rw [Lib.toList_data, bs_data]; exact beq_dec _ _
    have blN : Hid (∀ s : List UInt8, ((bs s).toList == [98, 121]) = decide (s = wBy)) := fun s => by rw [Lib.toList_data, bs_data]; exact beq_dec _ _
    have blF : Hid (∀ s : List UInt8, ((bs s).toList == [102, 114, 111, 109]) = decide (s = wFrom)) := fun s => by rw [Lib.toList_data, bs_data]; exact beq_dec _ _
    have HC := hid hcell
    clear hcell z0 zN
    by_cases e0 : ws[0]'(by omega) = wMake
    · have t0 : ((bs (ws[0]'(by omega))).toList == [109, 97, 107, 101]) = true := by rw [bl0.out]; simpa using e0
      by_cases eN : ws[N]'(by omega) = wBy
      · have tN : ((bs (ws[N]'(by omega))).toList == [98, 121]) = true := by rw [blN.out]; simpa using eN
        have hd0 : ws.getD 0 [] = wMake := by simpa [List.getD_eq_getElem?_getD, List.getElem?_eq_getElem (show 0 < ws.length by omega)] using e0
        have hdN : ws.getD (ws.length - 2) [] = wBy := by rw [show ws.length - 2 = N by omega]; simpa [List.getD_eq_getElem?_getD, List.getElem?_eq_getElem (show N < ws.length by omega)] using eN
        have hdC : ws.getD (ws.length - 1) [] = ws[N + 1]'(by omega) := by rw [show ws.length - 1 = N + 1 by omega]; simp [List.getD_eq_getElem?_getD, List.getElem?_eq_getElem (show N + 1 < ws.length by omega)]
        have hd1 : ws.getD 1 [] = ws[1]'(by omega) := by simp [List.getD_eq_getElem?_getD, List.getElem?_eq_getElem (show 1 < ws.length by omega)]
        have hact0 : actionL ws = (match codeL (ws[N + 1]'(by omega)) with
            | none => none
            | some c => if (ws.take N).drop 2 ≠ [] ∧ (((ws.take N).drop 2).getD 0 [] ≠ wFrom ∨ ((ws.take N).drop 2).length < 2) then none else if actOK ⟨ws[1]'(by omega), ((ws.take N).drop 2).drop 1, c⟩ then some ⟨ws[1]'(by omega), ((ws.take N).drop 2).drop 1, c⟩ else none) := by
          unfold actionL
          rw [if_neg (by rw [hd0, hdN]; simp only [ne_eq, not_true_eq_false, or_false]; omega), hdC, hd1, show ws.length - 2 = N by omega]
          rfl
        have hcode := fun W => code_any (ws[N + 1]'(by omega)) (by have := hws _ (List.getElem_mem (show N + 1 < ws.length by omega)); unfold maxLen; omega) W
        obtain ⟨oc, hoc⟩ : ∃ oc, oc = codeL (ws[N + 1]'(by omega)) := ⟨_, rfl⟩
        rw [← hoc] at hcode hact0
        have HACT := hid hact0
        have hn1 := hws _ (List.getElem_mem (show 1 < ws.length by omega))
        have hA0 := heap_alloc_new' w (.cells #[.string (bs (ws[1]'(by omega))), .slice none 0 0, .string { data := #[] }] 42)
        have HA0 := hid hA0
        have hC0 : Chg (fun _ => False) w (w.alloc (.cells #[.string (bs (ws[1]'(by omega))), .slice none 0 0, .string { data := #[] }] 42)) := (Chg.refl _ w).alloc _
        have HC0 := hid hC0
        have HN1 := hid hn1
        have HN := hid hN
        have HOC := hid hoc
        clear hact0 hd0 hdN hdC hd1 e0 eN hoc hA0 hC0 hn1
        obtain ⟨nm, hnm⟩ : ∃ nm, nm = bs (ws[1]'(by omega)) := ⟨_, rfl⟩
        rw [← hnm] at a1 b1 HA0 HC0
        have HNM := hid hnm
        clear hnm
        obtain ⟨cd, hcd⟩ : ∃ cd, cd = bs (oc.getD []) := ⟨_, rfl⟩
        obtain ⟨B, hB⟩ : ∃ B, B = oc.isSome := ⟨_, rfl⟩
        rw [← hcd, ← hB] at hcode
        have HCD := hid hcd
        have HB := hid hB
        clear hcd hB
        by_cases hN0 : N = 2
        · subst hN0
          rw [hN] at hcap ⊢
          go_enter Tryd.func37, Tryd.ntmps37
          go_wp2_with (go_at_call 54; refine (hcode _).mono ?_; rintro e w2 ⟨rfl, hc2⟩; have k2 := hc2.obj HA0.out (fun h => h); have u2 := cell_of k2 2; have v2 := frozen_of k2 2; simp at u2)
          have hW := heap_set_same k2 2 (.string cd)
          have HCW : Hid (Chg (fun _ => False) w (w2.setCell ⟨w.heap.size, 2, none⟩ (.string cd))) := hid ((HC0.out.trans hc2 (fun _ _ h => h)).setCell (p := ⟨w.heap.size, 2, none⟩) (fun h => absurd h (Nat.lt_irrefl _)) _)
          clear k2 u2 v2
          generalize w2.setCell ⟨w.heap.size, 2, none⟩ (.string cd) = W at *
          cases B with
          | false =>
            have hno : oc = none := Option.not_isSome_iff_eq_none.1 (by rw [← HB.out]; decide)
            have hr : actionL ws = none := by rw [HACT.out, hno]
            have HR := hid hr
            clear hr hno
            have k3 : W.heap[w.heap.size]? = some (.cells #[.string nm, .slice none 0 0, .string cd] 42 (0, 0)) := by simpa using hW
            have f0 := cell_of k3 0
            have f1 := cell_of k3 1
            have f2 := cell_of k3 2
            simp at f0 f1 f2
            have g0 := frozen_of k3 0
            have g1 := frozen_of k3 1
            have g2 := frozen_of k3 2
            have s0 : W.drew.setCell ⟨w.heap.size, 0, none⟩ (.string nm) = W.drew := setCell_id (w := W.drew) k3 rfl
            have s1 : W.drew.setCell ⟨w.heap.size, 1, none⟩ (.slice none 0 0) = W.drew := setCell_id (w := W.drew) k3 rfl
            have s2 : W.drew.setCell ⟨w.heap.size, 2, none⟩ (.string cd) = W.drew := setCell_id (w := W.drew) k3 rfl
            have K3 := hid k3
            clear hW k3
            go_region
            all_goals go_wp2_with fail
            all_goals (refine bodyPost_ret (v := .tuple #[.agg #[.string nm, .slice none 0 0, .string cd], .bool false]) (by simp [results, Tryd.results37, go_sem, f0, f1, f2] <;> rfl) rfl ⟨HCW.out.drew, ?_⟩)
            all_goals (rw [HR.out]; exact ⟨_, _, _, _, _, rfl⟩)
          | true =>
            obtain ⟨cl, hsome⟩ : ∃ cl, oc = some cl := by have := HB.out; cases oc with | none => simp at this | some x => exact ⟨x, rfl⟩
            have hcl := (word_codeL _ cl (by rw [← HOC.out, hsome])).2
            have HR : Hid (actionL ws = if actOK ⟨ws[1]'(by omega), [], cl⟩ then some ⟨ws[1]'(by omega), [], cl⟩ else none) := by
              show actionL ws = _
              rw [HACT.out, hsome]
              have e2 : (ws.take 2).drop 2 = [] := by simp
              simp only [e2]
              simp
            have hcd2 : cd = bs cl := by rw [HCD.out, hsome]; rfl
            have hact : ∀ W', W'.heap = W.heap → Calls Tryd.prog 40 #[.agg #[.string nm, .slice none 0 0, .string cd]] W' (Rets (.bool (actOK ⟨ws[1]'(by omega), [], cl⟩)) (Chg (fun _ => False) W')) := fun W' h => by
              rw [HNM.out, hcd2]
              exact isAction_any ⟨ws[1]'(by omega), [], cl⟩ (.slice none 0 0) W' (Nat.le_trans HN1.out (by decide)) (Nat.le_trans hcl (by decide)) ⟨.inl ⟨rfl, rfl⟩, Nat.zero_le _, by simp⟩
            have HCD2 := hid hcd2
            clear hcd2 hcl
            generalize hao : actOK ⟨ws[1]'(by omega), [], cl⟩ = OK at *
            have k3 : W.heap[w.heap.size]? = some (.cells #[.string nm, .slice none 0 0, .string cd] 42 (0, 0)) := by simpa using hW
            have f0 := cell_of k3 0
            have f1 := cell_of k3 1
            have f2 := cell_of k3 2
            simp at f0 f1 f2
            have g0 := frozen_of k3 0
            have g1 := frozen_of k3 1
            have g2 := frozen_of k3 2
            have s0 : W.drew.setCell ⟨w.heap.size, 0, none⟩ (.string nm) = W.drew := setCell_id (w := W.drew) k3 rfl
            have s1 : W.drew.setCell ⟨w.heap.size, 1, none⟩ (.slice none 0 0) = W.drew := setCell_id (w := W.drew) k3 rfl
            have s2 : W.drew.setCell ⟨w.heap.size, 2, none⟩ (.string cd) = W.drew := setCell_id (w := W.drew) k3 rfl
            have K3 := hid k3
            clear hW k3
            go_region_held3 (fun w' => w'.cell? ⟨w.heap.size, 0, none⟩ = some (.string nm) ∧ w'.cell? ⟨w.heap.size, 1, none⟩ = some (.slice none 0 0) ∧ w'.cell? ⟨w.heap.size, 2, none⟩ = some (.string cd)) (first | exact ⟨f0, f1, f2⟩ | exact ⟨p0, p1, p2⟩) (first | (go_at_call 40; refine (hact W.drew rfl).mono ?_; rintro e w3 ⟨rfl, hc3⟩; have p0 := cell_of (hc3.obj K3.out (fun h => h)) 0; have p1 := cell_of (hc3.obj K3.out (fun h => h)) 1; have p2 := cell_of (hc3.obj K3.out (fun h => h)) 2; simp at p0 p1 p2; have r0 := frozen_of (hc3.obj K3.out (fun h => h)) 0; have r1 := frozen_of (hc3.obj K3.out (fun h => h)) 1; have r2 := frozen_of (hc3.obj K3.out (fun h => h)) 2; have q0 : w3.setCell ⟨w.heap.size, 0, none⟩ (.string nm) = w3 := setCell_id (hc3.obj K3.out (fun h => h)) rfl; have q1 : w3.setCell ⟨w.heap.size, 1, none⟩ (.slice none 0 0) = w3 := setCell_id (hc3.obj K3.out (fun h => h)) rfl; have q2 : w3.setCell ⟨w.heap.size, 2, none⟩ (.string cd) = w3 := setCell_id (hc3.obj K3.out (fun h => h)) rfl))
            all_goals go_wp2_with fail
            refine bodyPost_ret (v := .tuple #[.agg #[.string nm, .slice none 0 0, .string cd], .bool OK]) (by simp [results, Tryd.results37, go_sem, p0, p1, p2] <;> rfl) rfl ⟨HCW.out.drew.trans hc3 (fun _ _ h => h), ?_⟩
            rw [HR.out]
            cases OK with
            | false => exact ⟨_, _, _, _, _, rfl⟩
            | true => exact ⟨none, 0, by rw [HNM.out, HCD2.out]; rfl, ⟨.inl ⟨rfl, rfl⟩, Nat.zero_le _, by simp⟩, fun _ h => by cases h⟩
        · have hN3 : 3 ≤ N := by omega
          have h2N : (2 : Int) ≤ (N : Int) := by omega
          have hNc : (N : Int) ≤ (c : Int) := by omega
          have h0N : (0 : Int) < (N : Int) - 2 := by omega
          rw [hN] at hcap
          have hins : ((ws.take N).drop 2).drop 1 = (ws.take N).drop 3 := by simp
          have hil : ((ws.take N).drop 3).length = N - 3 := by simp; omega
          have hi2 : ((ws.take N).drop 2).getD 0 [] = ws[2]'(by omega) := by
            simp [List.getD_eq_getElem?_getD, show 2 < N by omega, List.getElem?_eq_getElem (show 2 < ws.length by omega)]
          have hie : (ws.take N).drop 2 ≠ [] := by intro e; have := congrArg List.length e; simp at this; omega
          have hilen : ((ws.take N).drop 2).length = N - 2 := by simp; omega
          have hA2 := HACT.out
          rw [hi2, hilen, hins] at hA2
          have HA2 : Hid (actionL ws = actFin N (ws[2]'(by omega)) (ws[1]'(by omega)) ((ws.take N).drop 3) oc) := by
            show actionL ws = _
            rw [hA2]
            cases oc with
            | none => rfl
            | some x => unfold actFin; simp only [hie, ne_eq, not_false_eq_true, true_and]
          have HNS : Hid (∀ W, Chg (fun _ => False) w W → ∀ L cc, L = ((ws.take N).drop 3).length → NamesAt W (.slice (some ⟨g, 3, none⟩) L cc) ((ws.take N).drop 3)) := by
            intro W hW L cc hL
            subst hL
            refine ⟨.inr ⟨⟨g, 3, none⟩, cc, by simp, fun i hi => ?_⟩, ?_, ?_⟩
            · have hi' : i < N - 3 := by have h := hi; simp only [List.length_map, hil] at h; exact h
              have h3 := hW.cell (HC.out (3 + i) (by omega)) (fun h => h)
              have e3 : (⟨g, 3, none⟩ : Addr).add i = ⟨g, 3 + i, none⟩ := by unfold Addr.add; split <;> simp_all
              rw [e3, h3]
              simp [List.getElem_take]
            · simp; unfold maxLen; omega
            · intro s hs
              obtain ⟨y, hy, rfl⟩ := List.mem_map.1 hs
              rw [bs_size]
              exact Nat.le_trans (hws y (List.mem_of_mem_take (List.mem_of_mem_drop hy))) (by decide)
          clear hins hi2 hie hilen hA2
          rw [hN]
          cases B with
          | false =>
            have hno : oc = none := Option.not_isSome_iff_eq_none.1 (by rw [← HB.out]; decide)
            have HR : Hid (actionL ws = none) := by show _ = _; rw [HA2.out, hno]; rfl
            clear hno
            go_enter Tryd.func37, Tryd.ntmps37
            go_wp2_with (go_at_call 54; refine (hcode _).mono ?_; rintro e w2 ⟨rfl, hc2⟩; have k2 := hc2.obj HA0.out (fun h => h); have u2 := cell_of k2 2; have v2 := frozen_of k2 2; have u1 := cell_of k2 1; have v1 := frozen_of k2 1; have z2 := (HC0.out.trans hc2 (fun _ _ h => h)).cell (HC.out 2 (by omega)) (fun h => h); simp at u2 u1)
            have hW := heap_set_same (heap_set_same k2 2 (.string cd)) 1 (.slice (some ⟨g, 3, none⟩) (N - 2 - 1) (c - 2 - 1))
            have HCW : Hid (Chg (fun _ => False) w ((w2.setCell ⟨w.heap.size, 2, none⟩ (.string cd)).setCell ⟨w.heap.size, 1, none⟩ (.slice (some ⟨g, 3, none⟩) (N - 2 - 1) (c - 2 - 1)))) := hid (((HC0.out.trans hc2 (fun _ _ h => h)).setCell (p := ⟨w.heap.size, 2, none⟩) (fun h => absurd h (Nat.lt_irrefl _)) _).setCell (p := ⟨w.heap.size, 1, none⟩) (fun h => absurd h (Nat.lt_irrefl _)) _)
            clear k2 u2 v2 u1 v1 z2
            generalize (w2.setCell ⟨w.heap.size, 2, none⟩ (.string cd)).setCell ⟨w.heap.size, 1, none⟩ (.slice (some ⟨g, 3, none⟩) (N - 2 - 1) (c - 2 - 1)) = W at *
            have k3 : W.heap[w.heap.size]? = some (.cells #[.string nm, .slice (some ⟨g, 3, none⟩) (N - 2 - 1) (c - 2 - 1), .string cd] 42 (0, 0)) := by simpa using hW
            have f0 := cell_of k3 0
            have f1 := cell_of k3 1
            have f2 := cell_of k3 2
            simp at f0 f1 f2
            have g0 := frozen_of k3 0
            have g1 := frozen_of k3 1
            have g2 := frozen_of k3 2
            have s0 : W.drew.setCell ⟨w.heap.size, 0, none⟩ (.string nm) = W.drew := setCell_id (w := W.drew) k3 rfl
            have s1 : W.drew.setCell ⟨w.heap.size, 1, none⟩ (.slice (some ⟨g, 3, none⟩) (N - 2 - 1) (c - 2 - 1)) = W.drew := setCell_id (w := W.drew) k3 rfl
            have s2 : W.drew.setCell ⟨w.heap.size, 2, none⟩ (.string cd) = W.drew := setCell_id (w := W.drew) k3 rfl
            have K3 := hid k3
            clear hW k3
            go_region
            all_goals go_wp2_with fail
            all_goals (refine bodyPost_ret (v := .tuple #[.agg #[.string nm, .slice (some ⟨g, 3, none⟩) (N - 2 - 1) (c - 2 - 1), .string cd], .bool false]) (by simp [results, Tryd.results37, go_sem, f0, f1, f2] <;> rfl) rfl ⟨HCW.out.drew, ?_⟩)
            all_goals (rw [HR.out]; exact ⟨_, _, _, _, _, rfl⟩)
          | true =>
            obtain ⟨cl, hsome⟩ : ∃ cl, oc = some cl := by have := HB.out; cases oc with | none => simp at this | some x => exact ⟨x, rfl⟩
            have hcl := (word_codeL _ cl (by rw [← HOC.out, hsome])).2
            have hcd2 : cd = bs cl := by rw [HCD.out, hsome]; rfl
            have HCD2 := hid hcd2
            by_cases hF : ws[2]'(by omega) = wFrom
            · have tF : ((bs (ws[2]'(by omega))).toList == [102, 114, 111, 109]) = true := by rw [blF.out]; simpa using hF
              by_cases h1N : 1 < N - 2
              · have h1I : (1 : Int) < ((N - 2 : Nat) : Int) := by omega
                have HR : Hid (actionL ws = if actOK ⟨ws[1]'(by omega), (ws.take N).drop 3, cl⟩ then some ⟨ws[1]'(by omega), (ws.take N).drop 3, cl⟩ else none) := by
                  show actionL ws = _
                  rw [HA2.out, hsome]
                  exact actFin_ok (by intro h; rcases h with h | h; · exact h hF
                                      · omega)
                have hact : ∀ W', Chg (fun _ => False) w W' → Calls Tryd.prog 40 #[.agg #[.string nm, .slice (some ⟨g, 3, none⟩) (N - 2 - 1) (c - 2 - 1), .string cd]] W' (Rets (.bool (actOK ⟨ws[1]'(by omega), (ws.take N).drop 3, cl⟩)) (Chg (fun _ => False) W')) := fun W' h => by
                  rw [HNM.out, hcd2]
                  exact isAction_any ⟨ws[1]'(by omega), (ws.take N).drop 3, cl⟩ _ W' (Nat.le_trans HN1.out (by decide)) (Nat.le_trans hcl (by decide)) (HNS.out W' h _ _ (by rw [hil]; omega))
                generalize hao : actOK ⟨ws[1]'(by omega), (ws.take N).drop 3, cl⟩ = OK at *
                have HACL := hid hact
                clear hcd2 hcl hF hact hsome
                go_enter Tryd.func37, Tryd.ntmps37
                go_wp2_with (go_at_call 54; refine (hcode _).mono ?_; rintro e w2 ⟨rfl, hc2⟩; have k2 := hc2.obj HA0.out (fun h => h); have u2 := cell_of k2 2; have v2 := frozen_of k2 2; have u1 := cell_of k2 1; have v1 := frozen_of k2 1; have z2 := (HC0.out.trans hc2 (fun _ _ h => h)).cell (HC.out 2 (by omega)) (fun h => h); simp at u2 u1)
                have hW := heap_set_same (heap_set_same k2 2 (.string cd)) 1 (.slice (some ⟨g, 3, none⟩) (N - 2 - 1) (c - 2 - 1))
                have HCW : Hid (Chg (fun _ => False) w ((w2.setCell ⟨w.heap.size, 2, none⟩ (.string cd)).setCell ⟨w.heap.size, 1, none⟩ (.slice (some ⟨g, 3, none⟩) (N - 2 - 1) (c - 2 - 1)))) := hid (((HC0.out.trans hc2 (fun _ _ h => h)).setCell (p := ⟨w.heap.size, 2, none⟩) (fun h => absurd h (Nat.lt_irrefl _)) _).setCell (p := ⟨w.heap.size, 1, none⟩) (fun h => absurd h (Nat.lt_irrefl _)) _)
                clear k2 u2 v2 u1 v1 z2
                generalize (w2.setCell ⟨w.heap.size, 2, none⟩ (.string cd)).setCell ⟨w.heap.size, 1, none⟩ (.slice (some ⟨g, 3, none⟩) (N - 2 - 1) (c - 2 - 1)) = W at *
                have hact := HACL.out
                have k3 : W.heap[w.heap.size]? = some (.cells #[.string nm, .slice (some ⟨g, 3, none⟩) (N - 2 - 1) (c - 2 - 1), .string cd] 42 (0, 0)) := by simpa using hW
                have f0 := cell_of k3 0
                have f1 := cell_of k3 1
                have f2 := cell_of k3 2
                simp at f0 f1 f2
                have g0 := frozen_of k3 0
                have g1 := frozen_of k3 1
                have g2 := frozen_of k3 2
                have s0 : W.drew.setCell ⟨w.heap.size, 0, none⟩ (.string nm) = W.drew := setCell_id (w := W.drew) k3 rfl
                have s1 : W.drew.setCell ⟨w.heap.size, 1, none⟩ (.slice (some ⟨g, 3, none⟩) (N - 2 - 1) (c - 2 - 1)) = W.drew := setCell_id (w := W.drew) k3 rfl
                have s2 : W.drew.setCell ⟨w.heap.size, 2, none⟩ (.string cd) = W.drew := setCell_id (w := W.drew) k3 rfl
                have K3 := hid k3
                clear hW k3
                go_region_held3 (fun w' => w'.cell? ⟨w.heap.size, 0, none⟩ = some (.string nm) ∧ w'.cell? ⟨w.heap.size, 1, none⟩ = some (.slice (some ⟨g, 3, none⟩) (N - 2 - 1) (c - 2 - 1)) ∧ w'.cell? ⟨w.heap.size, 2, none⟩ = some (.string cd)) (first | exact ⟨f0, f1, f2⟩ | exact ⟨p0, p1, p2⟩) (first | (go_at_call 40; refine (hact W.drew HCW.out.drew).mono ?_; rintro e w3 ⟨rfl, hc3⟩; have p0 := cell_of (hc3.obj K3.out (fun h => h)) 0; have p1 := cell_of (hc3.obj K3.out (fun h => h)) 1; have p2 := cell_of (hc3.obj K3.out (fun h => h)) 2; simp at p0 p1 p2; have r0 := frozen_of (hc3.obj K3.out (fun h => h)) 0; have r1 := frozen_of (hc3.obj K3.out (fun h => h)) 1; have r2 := frozen_of (hc3.obj K3.out (fun h => h)) 2; have q0 : w3.setCell ⟨w.heap.size, 0, none⟩ (.string nm) = w3 := setCell_id (hc3.obj K3.out (fun h => h)) rfl; have q1 : w3.setCell ⟨w.heap.size, 1, none⟩ (.slice (some ⟨g, 3, none⟩) (N - 2 - 1) (c - 2 - 1)) = w3 := setCell_id (hc3.obj K3.out (fun h => h)) rfl; have q2 : w3.setCell ⟨w.heap.size, 2, none⟩ (.string cd) = w3 := setCell_id (hc3.obj K3.out (fun h => h)) rfl))
                all_goals go_wp2_with fail
                refine bodyPost_ret (v := .tuple #[.agg #[.string nm, .slice (some ⟨g, 3, none⟩) (N - 2 - 1) (c - 2 - 1), .string cd], .bool OK]) (by simp [results, Tryd.results37, go_sem, p0, p1, p2] <;> rfl) rfl ⟨HCW.out.drew.trans hc3 (fun _ _ h => h), ?_⟩
                rw [HR.out]
                cases OK with
                | false => exact ⟨_, _, _, _, _, rfl⟩
                | true => exact ⟨some ⟨g, 3, none⟩, c - 2 - 1, by rw [HNM.out, HCD2.out, hil]; rfl, HNS.out w3 (HCW.out.drew.trans hc3 (fun _ _ h => h)) _ _ rfl, fun _ h => by cases h; rfl⟩
              · have h1I : ¬ (1 : Int) < ((N - 2 : Nat) : Int) := by omega
                have d1I : decide ((1 : Int) < ((N - 2 : Nat) : Int)) = false := by simpa using h1I
                have HR : Hid (actionL ws = none) := by
                  show _ = _
                  rw [HA2.out, hsome]
                  exact actFin_bad (.inr (by omega))
                clear hcd2 hcl hF hsome
                go_enter Tryd.func37, Tryd.ntmps37
                go_wp2_with (go_at_call 54; refine (hcode _).mono ?_; rintro e w2 ⟨rfl, hc2⟩; have k2 := hc2.obj HA0.out (fun h => h); have u2 := cell_of k2 2; have v2 := frozen_of k2 2; have u1 := cell_of k2 1; have v1 := frozen_of k2 1; have z2 := (HC0.out.trans hc2 (fun _ _ h => h)).cell (HC.out 2 (by omega)) (fun h => h); simp at u2 u1)
                have hW := heap_set_same (heap_set_same k2 2 (.string cd)) 1 (.slice (some ⟨g, 3, none⟩) (N - 2 - 1) (c - 2 - 1))
                have HCW : Hid (Chg (fun _ => False) w ((w2.setCell ⟨w.heap.size, 2, none⟩ (.string cd)).setCell ⟨w.heap.size, 1, none⟩ (.slice (some ⟨g, 3, none⟩) (N - 2 - 1) (c - 2 - 1)))) := hid (((HC0.out.trans hc2 (fun _ _ h => h)).setCell (p := ⟨w.heap.size, 2, none⟩) (fun h => absurd h (Nat.lt_irrefl _)) _).setCell (p := ⟨w.heap.size, 1, none⟩) (fun h => absurd h (Nat.lt_irrefl _)) _)
                clear k2 u2 v2 u1 v1 z2
                generalize (w2.setCell ⟨w.heap.size, 2, none⟩ (.string cd)).setCell ⟨w.heap.size, 1, none⟩ (.slice (some ⟨g, 3, none⟩) (N - 2 - 1) (c - 2 - 1)) = W at *
                have k3 : W.heap[w.heap.size]? = some (.cells #[.string nm, .slice (some ⟨g, 3, none⟩) (N - 2 - 1) (c - 2 - 1), .string cd] 42 (0, 0)) := by simpa using hW
                have f0 := cell_of k3 0
                have f1 := cell_of k3 1
                have f2 := cell_of k3 2
                simp at f0 f1 f2
                have g0 := frozen_of k3 0
                have g1 := frozen_of k3 1
                have g2 := frozen_of k3 2
                have s0 : W.drew.setCell ⟨w.heap.size, 0, none⟩ (.string nm) = W.drew := setCell_id (w := W.drew) k3 rfl
                have s1 : W.drew.setCell ⟨w.heap.size, 1, none⟩ (.slice (some ⟨g, 3, none⟩) (N - 2 - 1) (c - 2 - 1)) = W.drew := setCell_id (w := W.drew) k3 rfl
                have s2 : W.drew.setCell ⟨w.heap.size, 2, none⟩ (.string cd) = W.drew := setCell_id (w := W.drew) k3 rfl
                have K3 := hid k3
                clear hW k3
                go_region
                all_goals go_wp2_with fail
                all_goals (refine bodyPost_ret (v := .tuple #[.agg #[.string nm, .slice (some ⟨g, 3, none⟩) (N - 2 - 1) (c - 2 - 1), .string cd], .bool false]) (by simp [results, Tryd.results37, go_sem, f0, f1, f2] <;> rfl) rfl ⟨HCW.out.drew, ?_⟩)
                all_goals (rw [HR.out]; exact ⟨_, _, _, _, _, rfl⟩)
            · have tF : ((bs (ws[2]'(by omega))).toList == [102, 114, 111, 109]) = false := by rw [blF.out]; simpa using hF
              have HR : Hid (actionL ws = none) := by
                show _ = _
                rw [HA2.out, hsome]
                exact actFin_bad (.inl hF)
              clear hcd2 hcl hF hsome
              go_enter Tryd.func37, Tryd.ntmps37
              go_wp2_with (go_at_call 54; refine (hcode _).mono ?_; rintro e w2 ⟨rfl, hc2⟩; have k2 := hc2.obj HA0.out (fun h => h); have u2 := cell_of k2 2; have v2 := frozen_of k2 2; have u1 := cell_of k2 1; have v1 := frozen_of k2 1; have z2 := (HC0.out.trans hc2 (fun _ _ h => h)).cell (HC.out 2 (by omega)) (fun h => h); simp at u2 u1)
              have hW := heap_set_same (heap_set_same k2 2 (.string cd)) 1 (.slice (some ⟨g, 3, none⟩) (N - 2 - 1) (c - 2 - 1))
              have HCW : Hid (Chg (fun _ => False) w ((w2.setCell ⟨w.heap.size, 2, none⟩ (.string cd)).setCell ⟨w.heap.size, 1, none⟩ (.slice (some ⟨g, 3, none⟩) (N - 2 - 1) (c - 2 - 1)))) := hid (((HC0.out.trans hc2 (fun _ _ h => h)).setCell (p := ⟨w.heap.size, 2, none⟩) (fun h => absurd h (Nat.lt_irrefl _)) _).setCell (p := ⟨w.heap.size, 1, none⟩) (fun h => absurd h (Nat.lt_irrefl _)) _)
              clear k2 u2 v2 u1 v1 z2
              generalize (w2.setCell ⟨w.heap.size, 2, none⟩ (.string cd)).setCell ⟨w.heap.size, 1, none⟩ (.slice (some ⟨g, 3, none⟩) (N - 2 - 1) (c - 2 - 1)) = W at *
              have k3 : W.heap[w.heap.size]? = some (.cells #[.string nm, .slice (some ⟨g, 3, none⟩) (N - 2 - 1) (c - 2 - 1), .string cd] 42 (0, 0)) := by simpa using hW
              have f0 := cell_of k3 0
              have f1 := cell_of k3 1
              have f2 := cell_of k3 2
              simp at f0 f1 f2
              have g0 := frozen_of k3 0
              have g1 := frozen_of k3 1
              have g2 := frozen_of k3 2
              have s0 : W.drew.setCell ⟨w.heap.size, 0, none⟩ (.string nm) = W.drew := setCell_id (w := W.drew) k3 rfl
              have s1 : W.drew.setCell ⟨w.heap.size, 1, none⟩ (.slice (some ⟨g, 3, none⟩) (N - 2 - 1) (c - 2 - 1)) = W.drew := setCell_id (w := W.drew) k3 rfl
              have s2 : W.drew.setCell ⟨w.heap.size, 2, none⟩ (.string cd) = W.drew := setCell_id (w := W.drew) k3 rfl
              have K3 := hid k3
              clear hW k3
              go_region
              all_goals go_wp2_with fail
              all_goals (refine bodyPost_ret (v := .tuple #[.agg #[.string nm, .slice (some ⟨g, 3, none⟩) (N - 2 - 1) (c - 2 - 1), .string cd], .bool false]) (by simp [results, Tryd.results37, go_sem, f0, f1, f2] <;> rfl) rfl ⟨HCW.out.drew, ?_⟩)
              all_goals (rw [HR.out]; exact ⟨_, _, _, _, _, rfl⟩)
      · have hr : actionL ws = none := by unfold actionL; rw [if_pos (.inr (.inr (by rw [show ws.length - 2 = N by omega]; simpa [List.getD_eq_getElem?_getD, List.getElem?_eq_getElem (show N < ws.length by omega)] using eN)))]
        rw [hr]
        have tN : ((bs (ws[N]'(by omega))).toList == [98, 121]) = false := by rw [blN.out]; simpa using eN
        clear hr a1 b1 e0 eN
        rw [hN] at *
        go_enter Tryd.func37, Tryd.ntmps37
        go_wp2_with fail
        refine bodyPost_ret (v := .tuple #[.agg #[.string { data := #[] }, .slice none 0 0, .string { data := #[] }], .bool false]) (by simp [results, Tryd.results37, go_sem] <;> rfl) rfl ⟨(Chg.refl _ w).alloc _, _, _, _, _, _, rfl⟩
    · have hr : actionL ws = none := by unfold actionL; rw [if_pos (.inr (.inl (by simpa [List.getD_eq_getElem?_getD, List.getElem?_eq_getElem (show 0 < ws.length by omega)] using e0)))]
      rw [hr]
      have t0 : ((bs (ws[0]'(by omega))).toList == [109, 97, 107, 101]) = false := by rw [bl0.out]; simpa using e0
      clear hr a1 b1 e0 aN
      rw [hN] at *
      go_enter Tryd.func37, Tryd.ntmps37
      go_wp2_with fail
      refine bodyPost_ret (v := .tuple #[.agg #[.string { data := #[] }, .slice none 0 0, .string { data := #[] }], .bool false]) (by simp [results, Tryd.results37, go_sem] <;> rfl) rfl ⟨(Chg.refl _ w).alloc _, _, _, _, _, _, rfl⟩
end Go.Proofs.YtbaipdhgjalgoaaDoor
