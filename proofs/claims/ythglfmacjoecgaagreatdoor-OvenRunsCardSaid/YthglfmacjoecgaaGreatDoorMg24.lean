/- Texts of the proof, one behind the other: trellis: the closures of (*web).order walked; (*web).order, trellis.checked, Check, Order walked; trellis.Check, Order walked; A slice of the call's own that is shortened from the front and appended to: elements of one cell; Sets of names in maps; slices.Sorted(maps.Keys(m)) at such a set; what is sorted so. -/
import Derived.Test.YthglfmacjoecgaaGreatDoorMg23
import Derived.Laws.EntriesVeiled
import Derived.Maps.RangeWalk
import Derived.Deep.RegionHeld3
import Derived.Test.YthglfmacjoecgaaGreatDoorMg01
import Derived.Test.YthglfmacjoecgaaGreatDoorIter
namespace Go.Proofs.YthglfmacjoecgaaGreatDoor
open Go.RowKit

/-- What has been made: the names of these places. -/
def doneL (g : GrR) (l : List Nat) : List (Nm × Bool) := atL (l.map fun i => (nameAt g i, true))
theorem doneL_snoc (g : GrR) (l : List Nat) (i : Nat) : doneL g (l ++ [i]) = lput (nameAt g i) true (doneL g l) := by
  unfold doneL
  rw [List.map_append, List.map_cons, List.map_nil, atL_snoc]
theorem lval_trues {s : Nm} : ∀ (ps : List (Nm × Bool)) (l : List (Nm × Bool)), (∀ p ∈ ps, p.2 = true) → lval s (ps.foldl (fun l p => lput p.1 p.2 l) l) = if s ∈ ps.map Prod.fst then some true else lval s l
  | [], l, _ => by simp
  | p :: ps, l, h => by
    rw [List.foldl_cons, lval_trues ps _ (fun q hq => h q (List.mem_cons_of_mem _ hq)), lval_put, h p List.mem_cons_self]
    simp only [List.map_cons, List.mem_cons]
    by_cases h1 : s = p.1
    · simp [h1]
    · simp [h1]
theorem doneL_val (g : GrR) (l : List Nat) (s : Nm) : (lval s (doneL g l)).getD false = (l.map (nameAt g)).contains s := by
  unfold doneL atL
  rw [lval_trues _ _ (fun p hp => by obtain ⟨i, _, rfl⟩ := List.mem_map.1 hp; rfl)]
  have e : (l.map fun i => (nameAt g i, true)).map Prod.fst = l.map (nameAt g) := by
    rw [List.map_map]; rfl
  rw [e, lval_nil]
  by_cases h : s ∈ l.map (nameAt g)
  · simp [h]
  · rw [if_neg h]
    have : (l.map (nameAt g)).contains s = false := by simpa using h
    rw [this]; rfl
/-- Whether a name is still waited for. -/
def waitsB (g : GrR) (l : List Nat) (s : Nm) : Bool := (placeOf g s).isSome && !(l.map (nameAt g)).contains s
theorem ready_waits {g : GrR} (hw : Wov g) (l : List Nat) (a : ActR) (ha : a ∈ g.acts) : readyB g l a = (!(l.map (nameAt g)).contains a.name && !(a.ins.any (waitsB g l))) := by
  unfold readyB
  congr 1
  rw [List.all_eq_not_any_not]
  congr 1
  have : ∀ s ∈ a.ins, (!(g.srcs.contains s || (l.map (nameAt g)).contains s)) = waitsB g l s := by
    intro s hs
    unfold waitsB
    rcases hw.src_or (hw.ins a ha s hs) with ⟨h1, h2⟩ | ⟨i, hi, h1, h2, h3⟩
    · rw [h2]; simp [h1]
    · rw [h2]; simp [h3]
  rw [Bool.eq_iff_iff, List.any_eq_true, List.any_eq_true]
  constructor
  · rintro ⟨s, hs, h⟩; exact ⟨s, hs, by rw [← this s hs]; exact h⟩
  · rintro ⟨s, hs, h⟩; exact ⟨s, hs, by rw [this s hs]; exact h⟩
theorem zeroB (w : World) : (zeroValue 4).run Tryz.prog w = .ok (.bool false) w := by kernel_rfl

set_option maxRecDepth 100000 in
set_option maxHeartbeats 1000000 in
theorem waits_any (g : GrR) (hw : Wov g) (l : List Nat) (s : Nm) (hs : s ∈ namesL g) (w : World) (bp bd b rd : Nat) (hp : w.cell? ⟨bp, 0, none⟩ = some (.pointer (some ⟨b, 0, none⟩))) (hb : IsWeb w b g)
    (hd : w.cell? ⟨bd, 0, none⟩ = some (.map (some rd))) (hm : MapL w rd nmV boolV (doneL g l)) :
    Calls Tryz.prog 133 #[.string (bs s), .pointer (some ⟨bp, 0, none⟩), .pointer (some ⟨bd, 0, none⟩)] w (Rets (.bool (waitsB g l s)) (fun w' => w = w')) := by
  obtain ⟨sv, av, iv, r, lm, hb⟩ := hb
  have c2 := cell_of hb.blk 2
  simp at c2
  have hv := hb.look s
  have hd1 := doneL_val g l s
  have HM := hid hm
  have HB := hid hb.map
  rcases hw.src_or hs with ⟨h1, h2⟩ | ⟨i, hi, h1, h2, h3⟩
  · have hv1 : ((lval s lm).map intV).getD (.int .i64 0) = .int .i64 (-1) := by rw [hv]; unfold atV; rw [h2]; simp [h1]
    have hr : waitsB g l s = false := by unfold waitsB; rw [h2]; rfl
    rw [hr]
    have HV := hid hv1
    clear hv1 hr hd1 hv hb h1 h2 hw hs hm
    go_enter Tryz.func133, Tryz.ntmps133
    go_wp2_with (at_lookup; refine wpList_lookup_v rfl _ _ 148 rfl keyNm Tryz.underlying148 (zeroI _) HB.out rfl s rfl _ HV.out ?_)
    go_ret
    exact ⟨rfl, rfl⟩
  · have hv1 : ((lval s lm).map intV).getD (.int .i64 0) = .int .i64 i := by rw [hv]; unfold atV; rw [h2]; rfl
    have hr : waitsB g l s = !(l.map (nameAt g)).contains s := by unfold waitsB; rw [h2]; rfl
    have hv2 : ((lval s (doneL g l)).map boolV).getD (.bool false) = .bool ((l.map (nameAt g)).contains s) := by
      rw [← hd1]; cases lval s (doneL g l) <;> rfl
    rw [hr]
    generalize (l.map (nameAt g)).contains s = B at *
    have HV := hid hv1
    have HV2 := hid hv2
    have hi0 : (0 : Int) ≤ (i : Int) := by omega
    clear hv1 hv2 hr hd1 hv hb h1 h2 hw hs hm h3
    go_enter Tryz.func133, Tryz.ntmps133
    go_wp2_with (first | (at_lookup; refine wpList_lookup_v rfl _ _ 148 rfl keyNm Tryz.underlying148 (zeroI _) HB.out rfl s rfl _ HV.out ?_) | (at_lookup; refine wpList_lookup_w rfl _ _ 139 rfl keyNm Tryz.underlying139 (zeroB _) HM.out rfl s rfl _ HV2.out ?_))
    all_goals go_ret
    all_goals exact ⟨rfl, rfl⟩

set_option maxRecDepth 100000 in
set_option maxHeartbeats 1000000 in
theorem ready_any (g : GrR) (hw : Wov g) (l : List Nat) (a : ActR) (iva : Value) (ha : a ∈ g.acts) (w : World) (bp bd b rd bf : Nat) (hp : w.cell? ⟨bp, 0, none⟩ = some (.pointer (some ⟨b, 0, none⟩))) (hb : IsWeb w b g)
    (hd : w.cell? ⟨bd, 0, none⟩ = some (.map (some rd))) (hm : MapL w rd nmV boolV (doneL g l)) (hf : w.cell? ⟨bf, 0, none⟩ = some (.func (.func 133) #[] #[.pointer (some ⟨bp, 0, none⟩), .pointer (some ⟨bd, 0, none⟩)]))
    (hi : NamesAt w iva a.ins) :
    Calls Tryz.prog 134 #[actV a iva, .pointer (some ⟨bd, 0, none⟩), .pointer (some ⟨bf, 0, none⟩)] w (Rets (.bool (readyB g l a)) (Chg (fun _ => False) w)) := by
  have hrw := ready_waits hw l a ha
  have hC1 : Chg (fun _ => False) w (w.alloc (.cells #[.string (bs a.name), iva, .string (bs a.code)] 43)) := (Chg.refl _ w).alloc _
  have k1 := heap_alloc_new' w (.cells #[.string (bs a.name), iva, .string (bs a.code)] 43)
  have d1 := hC1.cell hd (fun h => h)
  have f1 := hC1.cell hf (fun h => h)
  have m1 := hm.chg hC1 (fun h => h)
  have hcf := cfs_waits (some ⟨bp, 0, none⟩) (some ⟨bd, 0, none⟩) (waitsB g l) iva a.ins _ (hi.chg hC1 (fun _ _ h => h)) (fun s hs W hW =>
    (waits_any g hw l s (hw.ins a ha s hs) W bp bd b rd ((hC1.trans hW (fun _ _ h => h)).cell hp (fun h => h)) (hb.chg (hC1.trans hW (fun _ _ h => h)) (fun _ _ h => h)) ((hC1.trans hW (fun _ _ h => h)).cell hd (fun h => h)) (hm.chg (hC1.trans hW (fun _ _ h => h)) (fun h => h))).mono
      (fun e w' ⟨h1, h2⟩ => ⟨h1, h2 ▸ Chg.refl _ _⟩))
  have hd1 := doneL_val g l a.name
  have hv2 : ((lval a.name (doneL g l)).map boolV).getD (.bool false) = .bool ((l.map (nameAt g)).contains a.name) := by
    rw [← hd1]; cases lval a.name (doneL g l) <;> rfl
  rw [hrw]
  unfold actV
  have HM := hid m1
  have HV := hid hv2
  have HC1 := hid hC1
  have HK := hid k1
  have HCF := hid hcf
  clear hd1 hv2 hcf m1 hrw hC1 k1 hp hb hd hm hf hi
  generalize (l.map (nameAt g)).contains a.name = D at *
  generalize a.ins.any (waitsB g l) = B at *
  generalize hnm : a.name = nm at *
  generalize bs a.code = cd at *
  have HNM := hid hnm
  clear hnm
  have c0 : (w.alloc (.cells #[.string (bs nm), iva, .string cd] 43)).cell? ⟨w.heap.size, 1, none⟩ = some iva := cell_of HK.out 1
  cases D with
  | true =>
    clear HCF
    go_enter Tryz.func134, Tryz.ntmps134
    go_wp2_with (at_lookup; refine wpList_lookup_v rfl _ _ 139 rfl keyNm Tryz.underlying139 (zeroB _) HM.out rfl nm rfl _ HV.out ?_)
    go_ret
    exact ⟨rfl, HC1.out⟩
  | false =>
    go_enter Tryz.func134, Tryz.ntmps134
    go_wp2_with (first | (at_lookup; refine wpList_lookup_v rfl _ _ 139 rfl keyNm Tryz.underlying139 (zeroB _) HM.out rfl nm rfl _ HV.out ?_) | (go_at_call 57; refine HCF.out.mono ?_; rintro e w' ⟨rfl, hc⟩))
    go_ret
    exact ⟨rfl, HC1.out.trans hc (fun _ _ h => h)⟩
end Go.Proofs.YthglfmacjoecgaaGreatDoor
namespace Go.Proofs.YthglfmacjoecgaaGreatDoor
open Go.RowKit

abbrev natV : Nat → Value := fun n => .int .i64 (n : Int)
def IntsPost (w : World) (l : List Nat) (e : Ending) (w' : World) : Prop := Chg (fun _ => False) w w' ∧ ∃ v, e = .returned v ∧ w'.ownsRow 0 3 1 v l.length (l.map natV)
theorem elInt : ElT Tryz.prog 75 3 1 8 := .mk' (z := .int .i64 0) Tryz.underlying75 (by kernel_rfl) rfl (by decide) rfl
def lenOf : Value → Nat
  | .slice _ n _ => n
  | _ => 0
theorem owns_lenOf {w : World} {base : Nat} {e : TypeId} {size : Nat} {v : Value} {n : Nat} {xs : List Value} (h : w.ownsRow base e size v n xs) : lenOf v = n := by
  rcases h.2 with ⟨rfl, rfl⟩ | ⟨g, cap, cur, rfl, _⟩ <;> rfl
theorem owns_form {w : World} {base : Nat} {e : TypeId} {size : Nat} {v : Value} {n : Nat} {xs : List Value} (h : w.ownsRow base e size v n xs) : ∃ o cap, v = .slice o n cap := by
  rcases h.2 with ⟨rfl, rfl⟩ | ⟨g, cap, cur, rfl, _⟩
  · exact ⟨_, _, rfl⟩
  · exact ⟨_, _, rfl⟩
theorem stepR_place {g : GrR} (l : List Nat) : placeI (readyB g l) g.acts = match stepR g l with
    | some i => (i : Int)
    | none => -1 := rfl

set_option maxRecDepth 100000 in
set_option maxHeartbeats 4000000 in
theorem order_any (g : GrR) (hw : Wov g) (w : World) (b : Nat) (hb : IsWeb w b g) :
    Calls Tryz.prog 114 #[.pointer (some ⟨b, 0, none⟩)] w (IntsPost w (orderR g)) := by
  have hmm := @run_makeMap Tryz.prog
  have hn12 := hw.acts12
  have HB := hid hb
  have HW := hid hw
  clear hb hw
  go_enter Tryz.func114, Tryz.ntmps114
  go_wp2_with fail
  obtain ⟨W1, hW1⟩ : ∃ W1, W1 = w.alloc (.cells #[.pointer (some ⟨b, 0, none⟩)] 136) := ⟨_, rfl⟩
  obtain ⟨W2, hW2⟩ : ∃ W2, W2 = W1.alloc (.map #[] 0) := ⟨_, rfl⟩
  obtain ⟨W3, hW3⟩ : ∃ W3, W3 = W2.alloc (.cells #[.map (some (w.heap.size + 1))] 139) := ⟨_, rfl⟩
  obtain ⟨W4, hW4⟩ : ∃ W4, W4 = W3.alloc (.cells #[.func (.func 133) #[] #[.pointer (some ⟨w.heap.size, 0, none⟩), .pointer (some ⟨w.heap.size + 1 + 1, 0, none⟩)]] 116) := ⟨_, rfl⟩
  have z1 : W1.heap.size = w.heap.size + 1 := by rw [hW1]; simp
  have z2 : W2.heap.size = w.heap.size + 1 + 1 := by rw [hW2]; simp [z1]
  have z3 : W3.heap.size = w.heap.size + 1 + 1 + 1 := by rw [hW3]; simp [z2]
  have z4 : W4.heap.size = w.heap.size + 1 + 1 + 1 + 1 := by rw [hW4]; simp [z3]
  have hch4 : Chg (fun _ => False) w W4 := by rw [hW4, hW3, hW2, hW1]; exact ((((Chg.refl _ w).alloc _).alloc _).alloc _).alloc _
  have p4 : W4.cell? ⟨w.heap.size, 0, none⟩ = some (.pointer (some ⟨b, 0, none⟩)) := by
    rw [hW4, hW3, hW2]
    exact cell_alloc' (cell_alloc' (cell_alloc' (by rw [hW1]; exact cell_of (heap_alloc_new' w _) 0) _) _) _
  have m4 : MapL W4 (w.heap.size + 1) nmV boolV (doneL g []) := by
    have h : MapL W2 W1.heap.size nmV boolV (doneL g []) := hW2 ▸ MapL.fresh W1
    rw [z1] at h
    rw [hW4, hW3]
    exact (h.al _).al _
  have d4 : W4.cell? ⟨w.heap.size + 1 + 1, 0, none⟩ = some (.map (some (w.heap.size + 1))) := by
    rw [hW4, hW3, ← z2]
    exact cell_alloc' (cell_of (heap_alloc_new' W2 _) 0) _
  have f4 : W4.cell? ⟨w.heap.size + 1 + 1 + 1, 0, none⟩ = some (.func (.func 133) #[] #[.pointer (some ⟨w.heap.size, 0, none⟩), .pointer (some ⟨w.heap.size + 1 + 1, 0, none⟩)]) := by
    rw [hW4, ← z3]
    exact cell_of (heap_alloc_new' W3 _) 0
  rw [← hW1, ← hW2, ← hW3, ← hW4]
  obtain ⟨bp, hbp⟩ : ∃ bp, bp = w.heap.size := ⟨_, rfl⟩
  obtain ⟨rd, hrd⟩ : ∃ rd, rd = w.heap.size + 1 := ⟨_, rfl⟩
  obtain ⟨bd, hbd⟩ : ∃ bd, bd = w.heap.size + 1 + 1 := ⟨_, rfl⟩
  obtain ⟨bf, hbf⟩ : ∃ bf, bf = w.heap.size + 1 + 1 + 1 := ⟨_, rfl⟩
  rw [← hbf, ← hbd, ← hrd, ← hbp]
  rw [← hbp] at p4
  rw [← hrd] at m4
  rw [← hbd, ← hrd] at d4
  rw [← hbf, ← hbd, ← hbp] at f4
  clear hW1 hW2 hW3 hW4 W1 W2 W3 z1 z2 z3 hmm
  have hfar : ∀ W, Chg (fun k => k = rd) W4 W → Chg (fun _ => False) w W := fun W hW => hch4.trans hW (fun i hi h => by omega)
  have hcp : ∀ W, Chg (fun k => k = rd) W4 W → W.cell? ⟨bp, 0, none⟩ = some (.pointer (some ⟨b, 0, none⟩)) := fun W hW => hW.cell p4 (by show ¬ bp = rd; omega)
  have hcd : ∀ W, Chg (fun k => k = rd) W4 W → W.cell? ⟨bd, 0, none⟩ = some (.map (some rd)) := fun W hW => hW.cell d4 (by show ¬ bd = rd; omega)
  have hcf : ∀ W, Chg (fun k => k = rd) W4 W → W.cell? ⟨bf, 0, none⟩ = some (.func (.func 133) #[] #[.pointer (some ⟨bp, 0, none⟩), .pointer (some ⟨bd, 0, none⟩)]) := fun W hW => hW.cell f4 (by show ¬ bf = rd; omega)
  obtain ⟨sv, av, iv, r, lm, hb⟩ := HB.out
  have hca : ∀ W, Chg (fun k => k = rd) W4 W → W.cell? ⟨b, 1, none⟩ = some av := fun W hW => cell_of ((hfar W hW).obj hb.blk (fun h => h)) 1
  have HF := hid hfar
  have HCP := hid hcp
  have HCD := hid hcd
  have HCF := hid hcf
  have HCA := hid hca
  have HBA := hid hb
  have HM4 := hid m4
  have HZ : Hid (rd < W4.heap.size) := by show rd < W4.heap.size; omega
  clear hfar hcp hcd hcf hca hb m4 p4 d4 f4 hch4 z4 hbp hrd hbd hbf
  go_loopw [2] (fun v wr => ∃ (l : List Nat) (x : Value), x = v ∧ Ordd g l ∧ orderR g = orderGo g (g.acts.length - l.length) l ∧ wr.ownsRow 0 3 1 v l.length (l.map natV) ∧ (∀ k, v.ownBlock = some k → W4.heap.size ≤ k) ∧ MapL wr rd nmV boolV (doneL g l) ∧ Chg (fun k => k = rd) W4 wr) (fun v _ => g.acts.length - lenOf v)
  case atStart => exact ⟨[], _, rfl, Ordd.nil g, rfl, World.ownsRow_nil _ _ _ _, (fun k h => by cases h), HM4.out, Chg.refl _ _⟩
  case round =>
    obtain ⟨l, v, hv, ho, hgo, hown, hbl, hm, hch⟩ := hrel
    subst hv
    have HO := hid ho
    have HGO := hid hgo
    have HOWN := hid hown
    have HBL := hid hbl
    have HM := hid hm
    have HC := hid hch
    clear ho hgo hown hbl hm hch
    have q1 := HCP.out _ HC.out
    have q2 := HCA.out _ HC.out
    have hix := ixa_ready (some ⟨bd, 0, none⟩) (some ⟨bf, 0, none⟩) (readyB g l) av g.acts iv wr (HBA.out.acts.chg (HF.out _ HC.out) (fun _ _ h => h)) (fun k hk W hW =>
      ready_any g HW.out l g.acts[k] (iv k) (List.getElem_mem hk) W bp bd b rd bf (hW.cell q1 (fun h => h)) ((HB.out.chg (HF.out _ HC.out) (fun _ _ h => h)).chg hW (fun _ _ h => h)) (hW.cell (HCD.out _ HC.out) (fun h => h)) (HM.out.chg hW (fun h => h)) (hW.cell (HCF.out _ HC.out) (fun h => h))
        (by
          have := (HBA.out.acts.ins k hk)
          rw [getD_of_lt _ _ _ hk] at this
          exact (this.chg (HF.out _ HC.out) (fun _ _ h => h)).chg hW (fun _ _ h => h)))
    rw [stepR_place] at hix
    cases hs : stepR g l with
    | none =>
      rw [hs] at hix
      have HE : Hid (orderR g = l) := by
        show orderR g = l
        rw [HGO.out]
        cases g.acts.length - l.length with
        | zero => rfl
        | succ n => unfold orderGo; rw [hs]
      clear hs
      go_wp2_with (go_at_call 135; refine hix.mono ?_; rintro e w5 ⟨rfl, hc5⟩)
      go_ret
      refine ⟨(HF.out _ HC.out).trans hc5 (fun _ _ h => h), _, rfl, ?_⟩
      rw [HE.out]
      exact hc5.owns HOWN.out (fun _ _ h => h)
    | some i =>
      rw [hs] at hix
      have hix2 : Calls Tryz.prog 135 #[av, .func (.func 134) #[] #[.pointer (some ⟨bd, 0, none⟩), .pointer (some ⟨bf, 0, none⟩)]] wr (Rets (.int .i64 (i : Int)) (Chg (fun _ => False) wr)) := hix
      have hi := (stepR_some hs).1
      have ho2 := HO.out.snoc hs
      have hle := ho2.le
      simp at hle
      have HO2 := hid ho2
      have HGO2 : Hid (orderR g = orderGo g (g.acts.length - (l ++ [i]).length) (l ++ [i])) := by
        show orderR g = _
        rw [HGO.out]
        obtain ⟨n, hn⟩ : ∃ n, g.acts.length - l.length = n + 1 := ⟨g.acts.length - l.length - 1, by omega⟩
        rw [hn]
        have : g.acts.length - (l ++ [i]).length = n := by simp; omega
        rw [this]
        conv => lhs; unfold orderGo
        rw [hs]
      have hi0 : ¬ ((i : Int) < 0) := by omega
      clear hs hix ho2
      go_wp2_with (first | (go_at_call 135; refine hix2.mono ?_; rintro e w5 ⟨rfl, hc5⟩; have hown5 := hc5.owns HOWN.out (fun _ _ h => h)) | (refine wpList_append_new rfl _ _ 75 rfl elInt hown5 rfl _ 1 1 rfl rfl rfl (by unfold maxLen; omega) (by omega) (by decide) ?_; intro g6 cap6 w6 hown6 hch6 hg6))
      have hC6 : Chg (fun k => k = rd) W4 w6 := ((HC.out.trans hc5 (fun _ _ h => h.elim)).trans hch6 (fun j hj h => absurd (HBL.out j h) (by omega)))
      have hC56 : Chg (fun k => v.ownBlock = some k) wr w6 := (hc5.mono (fun _ _ h => h.elim)).trans hch6 (fun _ _ h => h)
      have hM6 : MapL w6 rd nmV boolV (doneL g l) := HM.out.chg hC56 (fun h => by have := HBL.out _ h; have := HZ.out; omega)
      obtain ⟨bb, oo, hiy, hlt, e0, _, _, _, _, _⟩ := (HBA.out.acts.chg (HF.out _ hC6) (fun _ _ h => h)).at i hi
      have y1 := HCP.out _ hC6
      have y2 := HCA.out _ hC6
      have y3 := HCD.out _ hC6
      have HC6 := hid hC6
      have HM6 := hid hM6
      have HNM := hid (nameAt_lt g i hi)
      have HOW6 := hid hown6
      have HG6 : Hid (W4.heap.size ≤ g6) := by
        show W4.heap.size ≤ g6
        rcases hg6 with h | h
        · exact HBL.out _ h
        · have h1 := HC.out.size; have h2 := hc5.size; omega
      clear hC6 hC56 hM6 hown6 hch6 hg6 hown5 hc5 hix2
      generalize hnm : g.acts[i].name = nm at *
      have HN2 := hid hnm
      clear hnm
      go_still_tail 11, (by kernel_rfl)
      change wpList _ _ _ _ _ w6.drew
      refine wpList_mapUpdate_l rfl _ _ _ 139 rfl keyNm Tryz.underlying139 (show MapL w6.drew rd nmV boolV _ from HM6.out) rfl nm rfl true rfl ?_
      intro w7 hm7 hc7
      go_frame
      go_wp2_with fail
      go_roundw
      case rel =>
        refine ⟨l ++ [i], _, rfl, HO2.out, HGO2.out, ?_, ?_, ?_, HC6.out.drew.trans hc7 (fun _ _ h => h)⟩
        · have h1 := hc7.owns (show w6.drew.ownsRow _ _ _ _ _ _ from HOW6.out) (fun k hk => by
            simp [Value.ownBlock] at hk; have := HG6.out; have := HZ.out; omega)
          simpa using h1
        · intro k hk
          simp [Value.ownBlock] at hk
          have := HG6.out
          omega
        · rw [doneL_snoc, HNM.out]
          exact hm7
      case measure =>
        have h1 := owns_lenOf HOWN.out
        simp [lenOf] at h1 ⊢
        omega

def CheckedPost (w : World) (g : GrR) (e : Ending) (w' : World) : Prop :=
  Chg (fun _ => False) w w' ∧ ((checkR g = 0 ∧ ∃ b, e = .returned (.tuple #[.pointer (some ⟨b, 0, none⟩), .int .i64 0]) ∧ IsWeb w' b g) ∨ (checkR g ≠ 0 ∧ e = .returned (.tuple #[.pointer none, .int .i64 (checkR g)])))
set_option maxRecDepth 100000 in
set_option maxHeartbeats 4000000 in
theorem checked_any (g : GrR) (v : Value) (w : World) (hg : GrAt w v g) : Calls Tryz.prog 73 #[v] w (CheckedPost w g) := by
  obtain ⟨oa, c, ob, d, iv, rfl, hs, ha⟩ := hg.form
  have hC1 : Chg (fun _ => False) w (w.alloc (.cells #[.slice oa g.srcs.length c, .slice ob g.acts.length d] 25)) := (Chg.refl _ w).alloc _
  have k1 := heap_alloc_new' w (.cells #[.slice oa g.srcs.length c, .slice ob g.acts.length d] 25)
  have hwv := woven_any g _ _ (hg.chg hC1 (fun _ _ h => h))
  have hmx := ha.rows.le
  unfold maxLen at hmx
  have HC1 := hid hC1
  have HK := hid k1
  clear hs ha hg hC1 k1
  unfold WovenPost at hwv
  by_cases hwz : wovenR g = 0
  · have HW := hid (wovenR_zero.1 hwz)
    have HWZ := hid hwz
    have HR : Hid (checkR g = if (orderR g).length ≠ g.acts.length then 23 else 0) := by show checkR g = _; unfold checkR; rw [if_neg (by simp [hwz])]
    have hwv2 : Calls Tryz.prog 113 #[.agg #[.slice oa g.srcs.length c, .slice ob g.acts.length d]] (w.alloc (.cells #[.slice oa g.srcs.length c, .slice ob g.acts.length d] 25)) (fun e w' => ∃ b, e = .returned (.tuple #[.pointer (some ⟨b, 0, none⟩), .int .i64 0]) ∧ Chg (fun _ => False) (w.alloc (.cells #[.slice oa g.srcs.length c, .slice ob g.acts.length d] 25)) w' ∧ IsWeb w' b g) :=
      hwv.mono (fun e w' ⟨h1, h2⟩ => by
        rcases h2 with ⟨_, b, h3, h4⟩ | ⟨h3, _⟩
        · exact ⟨b, h3, h1, h4⟩
        · exact absurd hwz h3)
    have HLN := hid (orderR_ordd g).le
    clear hwv hwz
    by_cases hfull : (orderR g).length = g.acts.length
    · go_enter Tryz.func73, Tryz.ntmps73
      go_wp2_with (go_at_call 113; refine hwv2.mono ?_; rintro e w2 ⟨b, rfl, hc2, hb2⟩; have HC2 := hid hc2; have HB2 := hid hb2; clear hc2 hb2)
      have k2 := cell_of (HC2.out.obj HK.out (fun h => h)) 1
      simp at k2
      have hord := order_any g HW.out w2.drew b (HB2.out.chg ((Chg.refl (fun _ => False) w2).drew) (fun _ _ h => h))
      have k2d : w2.drew.cell? ⟨w.heap.size, 1, none⟩ = some (.slice ob g.acts.length d) := k2
      unfold IntsPost at hord
      rw [hfull] at hord
      clear hwv2
      go_region_held3 (fun W => W.cell? ⟨w.heap.size, 1, none⟩ = some (.slice ob g.acts.length d)) (first | exact k2 | exact k2d | exact hc3.cell k2d (fun h => h) | go_keep) (first | (go_at_call 114; refine hord.mono ?_; rintro e w3 ⟨hc3, v3, rfl, hown3⟩; obtain ⟨o3, cap3, rfl⟩ := owns_form hown3; have HC3 := hid hc3))
      go_wp2_with fail
      go_ret2
      have hz : checkR g = 0 := by rw [HR.out, if_neg (by simp [hfull])]
      exact ⟨(HC1.out.trans HC2.out (fun _ _ h => h)).drew.trans HC3.out (fun _ _ h => h), .inl ⟨hz, b, rfl, HB2.out.chg (((Chg.refl (fun _ => False) w2).drew).trans HC3.out (fun _ _ h => h)) (fun _ _ h => h)⟩⟩
    · have hne : ¬ ((orderR g).length : Int) = (g.acts.length : Int) := by omega
      go_enter Tryz.func73, Tryz.ntmps73
      go_wp2_with (go_at_call 113; refine hwv2.mono ?_; rintro e w2 ⟨b, rfl, hc2, hb2⟩; have HC2 := hid hc2; have HB2 := hid hb2; clear hc2 hb2)
      have k2 := cell_of (HC2.out.obj HK.out (fun h => h)) 1
      simp at k2
      have hord := order_any g HW.out w2.drew b (HB2.out.chg ((Chg.refl (fun _ => False) w2).drew) (fun _ _ h => h))
      have k2d : w2.drew.cell? ⟨w.heap.size, 1, none⟩ = some (.slice ob g.acts.length d) := k2
      unfold IntsPost at hord
      have hz : checkR g = 23 := by rw [HR.out, if_pos hfull]
      have HZ := hid hz
      clear hwv2 hz hfull
      generalize orderR g = ol at *
      generalize ol.length = on at *
      go_region_held3 (fun W => W.cell? ⟨w.heap.size, 1, none⟩ = some (.slice ob g.acts.length d)) (first | exact k2 | exact k2d | exact hc3.cell k2d (fun h => h) | go_keep) (first | (go_at_call 114; refine hord.mono ?_; rintro e w3 ⟨hc3, v3, rfl, hown3⟩; obtain ⟨o3, cap3, rfl⟩ := owns_form hown3; have HC3 := hid hc3))
      go_wp2_with fail
      go_ret2
      exact ⟨(HC1.out.trans HC2.out (fun _ _ h => h)).drew.trans HC3.out (fun _ _ h => h), .inr ⟨by rw [HZ.out]; decide, by rw [HZ.out]; rfl⟩⟩
  · have hwv2 : Calls Tryz.prog 113 #[.agg #[.slice oa g.srcs.length c, .slice ob g.acts.length d]] (w.alloc (.cells #[.slice oa g.srcs.length c, .slice ob g.acts.length d] 25)) (Rets (.tuple #[.pointer none, .int .i64 (wovenR g)]) (Chg (fun _ => False) (w.alloc (.cells #[.slice oa g.srcs.length c, .slice ob g.acts.length d] 25)))) :=
      hwv.mono (fun e w' ⟨h1, h2⟩ => by
        rcases h2 with ⟨h3, _⟩ | ⟨_, h3⟩
        · exact absurd h3 hwz
        · exact ⟨h3, h1⟩)
    have HR : Hid (checkR g = wovenR g) := by show checkR g = _; unfold checkR; rw [if_pos hwz]
    have HN := hid hwz
    have hne : ((wovenR g : Int) == 0) = false := by simp; omega
    clear hwv hwz
    generalize wovenR g = n at *
    go_enter Tryz.func73, Tryz.ntmps73
    go_wp2_with (go_at_call 113; refine hwv2.mono ?_; rintro e w2 ⟨rfl, hc2⟩; have HC2 := hid hc2; clear hc2)
    all_goals go_region
    all_goals go_wp2_with fail
    all_goals go_ret2
    all_goals exact ⟨(HC1.out.trans HC2.out (fun _ _ h => h)).drew, .inr ⟨by rw [HR.out]; exact HN.out, by rw [HR.out]; rfl⟩⟩
end Go.Proofs.YthglfmacjoecgaaGreatDoor
namespace Go.Proofs.YthglfmacjoecgaaGreatDoor
open Go.RowKit

/-- Order's answer. -/
def ordR (g : GrR) : List Nat := if checkR g = 0 then orderR g else []
set_option maxRecDepth 100000 in
set_option maxHeartbeats 1000000 in
theorem tcheck_any (g : GrR) (v : Value) (w : World) (hg : GrAt w v g) : Calls Tryz.prog 88 #[v] w (Rets (.int .i64 (checkR g)) (Chg (fun _ => False) w)) := by
  obtain ⟨oa, c, ob, d, iv, rfl, hs, ha⟩ := hg.form
  have hC1 : Chg (fun _ => False) w (w.alloc (.cells #[.slice oa g.srcs.length c, .slice ob g.acts.length d] 25)) := (Chg.refl _ w).alloc _
  have hwv : Calls Tryz.prog 73 #[.agg #[.slice oa g.srcs.length c, .slice ob g.acts.length d]] (w.alloc (.cells #[.slice oa g.srcs.length c, .slice ob g.acts.length d] 25)) (fun e w' => ∃ p, e = .returned (.tuple #[.pointer p, .int .i64 (checkR g)]) ∧ Chg (fun _ => False) (w.alloc (.cells #[.slice oa g.srcs.length c, .slice ob g.acts.length d] 25)) w') :=
    (checked_any g _ _ (hg.chg hC1 (fun _ _ h => h))).mono (fun e w' ⟨h1, h2⟩ => by
      rcases h2 with ⟨h0, b, h3, _⟩ | ⟨_, h3⟩
      · exact ⟨some ⟨b, 0, none⟩, by rw [h3, h0]; rfl, h1⟩
      · exact ⟨none, h3, h1⟩)
  clear hs ha hg
  generalize checkR g = n at *
  go_enter Tryz.func88, Tryz.ntmps88
  go_wp2_with (go_at_call 73; refine hwv.mono ?_; rintro e w2 ⟨p, rfl, hc2⟩)
  go_ret
  exact ⟨rfl, hC1.trans hc2 (fun _ _ h => h)⟩
set_option maxRecDepth 100000 in
set_option maxHeartbeats 1000000 in
theorem torder_any (g : GrR) (v : Value) (w : World) (hg : GrAt w v g) : Calls Tryz.prog 78 #[v] w (IntsPost w (ordR g)) := by
  obtain ⟨oa, c, ob, d, iv, rfl, hs, ha⟩ := hg.form
  have hC1 : Chg (fun _ => False) w (w.alloc (.cells #[.slice oa g.srcs.length c, .slice ob g.acts.length d] 25)) := (Chg.refl _ w).alloc _
  have hwv := checked_any g _ _ (hg.chg hC1 (fun _ _ h => h))
  unfold CheckedPost at hwv
  clear hs ha hg
  by_cases hz : checkR g = 0
  · have hw := (can_iff.1 hz).w
    have hr : ordR g = orderR g := by unfold ordR; rw [if_pos hz]
    have hwv2 : Calls Tryz.prog 73 #[.agg #[.slice oa g.srcs.length c, .slice ob g.acts.length d]] (w.alloc (.cells #[.slice oa g.srcs.length c, .slice ob g.acts.length d] 25)) (fun e w' => ∃ b, e = .returned (.tuple #[.pointer (some ⟨b, 0, none⟩), .int .i64 0]) ∧ Chg (fun _ => False) (w.alloc (.cells #[.slice oa g.srcs.length c, .slice ob g.acts.length d] 25)) w' ∧ IsWeb w' b g) :=
      hwv.mono (fun e w' ⟨h1, h2⟩ => by
        rcases h2 with ⟨_, b, h3, h4⟩ | ⟨h3, _⟩
        · exact ⟨b, h3, h1, h4⟩
        · exact absurd hz h3)
    have HW := hid hw
    rw [hr]
    clear hz hr hwv hw
    go_enter Tryz.func78, Tryz.ntmps78
    go_wp2_with (first | (go_at_call 73; refine hwv2.mono ?_; rintro e w2 ⟨b, rfl, hc2, hb2⟩; have HB2 := hid hb2; clear hb2) | (go_at_call 114; refine (order_any g HW.out _ _ HB2.out).mono ?_; rintro e w3 ⟨hc3, v3, rfl, hown3⟩))
    go_ret
    exact ⟨(hC1.trans hc2 (fun _ _ h => h)).trans hc3 (fun _ _ h => h), v3, rfl, hown3⟩
  · have hr : ordR g = [] := by unfold ordR; rw [if_neg hz]
    have hwv2 : Calls Tryz.prog 73 #[.agg #[.slice oa g.srcs.length c, .slice ob g.acts.length d]] (w.alloc (.cells #[.slice oa g.srcs.length c, .slice ob g.acts.length d] 25)) (Rets (.tuple #[.pointer none, .int .i64 (checkR g)]) (Chg (fun _ => False) (w.alloc (.cells #[.slice oa g.srcs.length c, .slice ob g.acts.length d] 25)))) :=
      hwv.mono (fun e w' ⟨h1, h2⟩ => by
        rcases h2 with ⟨h3, _⟩ | ⟨_, h3⟩
        · exact absurd h3 hz
        · exact ⟨h3, h1⟩)
    have hne : ((checkR g : Int) == 0) = false := by simp; omega
    have hne2 : ¬ (checkR g : Int) = 0 := by omega
    rw [hr]
    clear hz hr hwv
    generalize checkR g = n at *
    go_enter Tryz.func78, Tryz.ntmps78
    go_wp2_with (go_at_call 73; refine hwv2.mono ?_; rintro e w2 ⟨rfl, hc2⟩)
    go_ret
    exact ⟨hC1.trans hc2 (fun _ _ h => h), _, rfl, World.ownsRow_nil _ _ _ _⟩
end Go.Proofs.YthglfmacjoecgaaGreatDoor
namespace Go.Proofs.YthglfmacjoecgaaGreatDoor
open Go.RowKit

/-- v is a slice of the values xs; they lie in a block that may be written. -/
def QRow (w : World) (e : TypeId) (v : Value) (xs : List Value) : Prop :=
  (v = .slice none 0 0 ∧ xs = []) ∨ ∃ g o cap cur, v = .slice (some ⟨g, o, none⟩) xs.length cap ∧ w.heap[g]? = some (.cells cur e (0, 0)) ∧ xs.length ≤ cap ∧ cap ≤ maxLen ∧ o + cap ≤ cur.size ∧ (cur.toList.drop o).take xs.length = xs
section
variable {P : Program} {w w' : World} {e : TypeId} {v : Value} {xs : List Value}
theorem QRow.of_owns {n : Nat} (h : w.ownsRow 0 e 1 v n xs) : QRow w e v xs := by
  obtain ⟨hl, h⟩ := h
  rcases h with ⟨rfl, rfl⟩ | ⟨g, cap, cur, rfl, _, hg, hnc, hcm, hcs, ht⟩
  · exact .inl ⟨rfl, List.length_eq_zero_iff.1 (by simpa using hl)⟩
  · have hl : xs.length = n := by simpa using hl
    subst hl
    exact .inr ⟨g, 0, cap, cur, rfl, hg, hnc, hcm, by rw [hcs]; omega, by simpa using ht⟩
theorem QRow.chg {F : Nat → Prop} (h : QRow w e v xs) (hc : Chg F w w') (hn : ∀ k, v.ownBlock = some k → ¬ F k) : QRow w' e v xs := by
  rcases h with h | ⟨g, o, cap, cur, rfl, hg, r⟩
  · exact .inl h
  · exact .inr ⟨g, o, cap, cur, rfl, hc.obj hg (hn g rfl), r⟩
theorem QRow.lt (h : QRow w e v xs) : ∀ k, v.ownBlock = some k → k < w.heap.size := by
  rcases h with ⟨rfl, _⟩ | ⟨g, o, cap, cur, rfl, hg, _⟩
  · intro k hk; cases hk
  · intro k hk
    simp [Value.ownBlock] at hk
    subst hk
    exact heap_lt hg
/-- One that is not empty: its first element, and what is left behind it. -/
theorem QRow.uncons {x : Value} {ys : List Value} (h : QRow w e v (x :: ys)) : ∃ g o cap, v = .slice (some ⟨g, o, none⟩) (ys.length + 1) cap ∧ ys.length + 1 ≤ cap ∧ cap ≤ maxLen ∧ w.cell? ⟨g, o, none⟩ = some x ∧ g < w.heap.size ∧
    QRow w e (.slice (some ⟨g, if cap = 1 then o else o + 1, none⟩) ys.length (cap - 1)) ys := by
  rcases h with ⟨_, h⟩ | ⟨g, o, cap, cur, hv, hg, hl, hm, hcs, ht⟩
  · cases h
  · simp only [List.length_cons] at hv hl ht
    have ho : o < cur.toList.length := by rw [Array.length_toList]; omega
    rw [List.drop_eq_getElem_cons ho, List.take_succ_cons, List.cons.injEq] at ht
    refine ⟨g, o, cap, hv, hl, hm, ?_, heap_lt hg, .inr ?_⟩
    · rw [cell_of hg o, ← ht.1]
      simp only [Array.getElem_toList]
      exact Array.getElem?_eq_getElem (by simpa using ho)
    · by_cases hc : cap = 1
      · have hy : ys = [] := List.length_eq_zero_iff.1 (by omega)
        subst hy hc
        exact ⟨g, o, 0, cur, rfl, hg, Nat.zero_le _, Nat.zero_le _, by omega, by simp⟩
      · refine ⟨g, o + 1, cap - 1, cur, by rw [if_neg hc], hg, by omega, by omega, by omega, ht.2⟩

theorem run_tail {t : TypeId} (ht : P.underlying t = some (.slice e)) (hs : ∀ w, (sizeOf e).run P w = .ok 1 w) (g o n cap : Nat) (hn : n + 1 ≤ cap) (hc : cap ≤ maxLen) (W : World) :
    (Instr.slice t (.slice (some ⟨g, o, none⟩) (n + 1) cap) (some (.int .i64 1)) none none).run P W = .ok (.slice (some ⟨g, if cap = 1 then o else o + 1, none⟩) n (cap - 1)) W := by
  unfold maxLen at hc
  have hb : (Instr.sliceBound (.int .i64 1) (n + 1) .sliceB).run P W = .ok 1 W := by
    have h1 : (1 : Int) ≤ ((n + 1 : Nat) : Int) := by omega
    simp [Instr.sliceBound, asIntOf, -Int.natCast_add, h1]
  by_cases h : cap = 1
  · subst h
    have : n = 0 := by omega
    subst this
    simp [Instr.slice, run_underlying ht, Instr.sliceBounds, hs, hb]
  · have hadd : (⟨g, o, none⟩ : Addr).add 1 = ⟨g, o + 1, none⟩ := by unfold Addr.add; simp
    simp [Instr.slice, run_underlying ht, Instr.sliceBounds, hs, hb, h, hadd]
theorem run_append_at (t ty : TypeId) (i : TypeInfo) (ht : P.underlying t = some (.slice e)) (hi : P.info? e = some i) (h1s : i.size = 1)
    (g o n cap : Nat) (cur : Array Value) (hg : w.heap[g]? = some (.cells cur e (0, 0)))
    (a : Addr) (m c : Nat) (news : List Value) (hl : news.length = m) (hnews : ∀ j u, news[j]? = some u → w.cell? (a.add j) = some u) (h1 : ∀ u ∈ news, u.oneCell' = true)
    (hroom : n + m ≤ cap) (hfit : o + n + news.length ≤ cur.size) :
    (Builtin.append_ #[t, t] ty #[.slice (some ⟨g, o, none⟩) n cap, .slice (some a) m c]).run P w =
      .ok (.slice (some ⟨g, o, none⟩) (n + m) cap) (w.setRow g (cur.toList.take (o + n) ++ news ++ cur.toList.drop (o + n + news.length)).toArray) := by
  have hf := run_firstCells_some (P := P) w i.size m a m c news (by rw [hl, h1s]; omega) hnews
  have hst := run_storeCells_at P g (o + n) e news 0 cur w hg (by simpa using hfit) h1
  simp only [Nat.add_zero] at hst
  rw [h1s] at hf
  have hadd : (⟨g, o, none⟩ : Addr).add n = ⟨g, o + n, none⟩ := by unfold Addr.add; split <;> simp_all
  simp [Builtin.append_, run_underlying ht, sizeOf, typeInfo, hi, Builtin.lenOf, hroom, h1s, hf, hadd, hst]

theorem QRow.append {t : TypeId} {bytes : Nat} (T : ElT P t e 1 bytes) (h : QRow w e v xs) (ty : TypeId)
    (a : Addr) (m c : Nat) (news : List Value) (hl : news.length = m) (hnews : ∀ j u, news[j]? = some u → w.cell? (a.add j) = some u) (h1 : ∀ u ∈ news, u.oneCell' = true)
    (h63 : xs.length + m ≤ maxLen) (hbytes : (xs.length + m) * bytes ≤ 140737488355328) :
    ∃ v' w', (Builtin.append_ #[t, t] ty #[v, .slice (some a) m c]).run P w = .ok v' w' ∧ QRow w' e v' (xs ++ news) ∧ Chg (fun k => v.ownBlock = some k) w w' ∧ (∀ k, v'.ownBlock = some k → v.ownBlock = some k ∨ w.heap.size ≤ k) := by
  obtain ⟨i, z, hi, hz, h2, h3, h4, _⟩ := T.info
  have T2 := T.ht
  rcases h with ⟨rfl, rfl⟩ | ⟨g, o, cap, cur, rfl, hg, hlc, hm, hcs, ht⟩
  · obtain ⟨v', w', hr, r1, r2, r3, r4⟩ := run_append_chg (P := P) w t ty e i z 1 bytes T2 hi hz h2 h3 h4 T.pos (.slice none 0 0) 0 [] (World.ownsRow_nil _ _ _ _) a m c news (by rw [hl]; omega) hnews h1 (by simpa using h63) (by simpa using hbytes)
    exact ⟨v', w', hr, QRow.of_owns r1, r2, r3⟩
  · by_cases hroom : xs.length + m ≤ cap
    · refine ⟨_, _, run_append_at t ty i T2 hi h2 g o xs.length cap cur hg a m c news hl hnews h1 hroom (by rw [hl]; omega), .inr ⟨g, o, cap, _, by rw [List.length_append, hl], setRow_heap w g cur _ e _ hg, by rw [List.length_append, hl]; exact hroom, hm, ?_, ?_⟩, ?_, fun k hk => .inl hk⟩
      · have hcl : cur.toList.length = cur.size := Array.length_toList
        simp only [List.size_toArray, List.length_append, List.length_take, List.length_drop]
        omega
      · have hcl : cur.toList.length = cur.size := Array.length_toList
        rw [List.append_assoc, List.take_add, List.append_assoc]
        have hA : (cur.toList.take o).length = o := by simp; omega
        rw [List.drop_append_of_le_length (by omega), List.drop_of_length_le (by omega), List.nil_append, ht, ← List.append_assoc]
        exact List.take_left
      · exact (Chg.refl (fun k => (Value.slice (some ⟨g, o, none⟩) xs.length cap).ownBlock = some k) w).setRow (g := g) (fun _ => rfl) _
    · obtain ⟨hlo, hh⟩ : xs.length = xs.length * i.size ∧ ∀ j u, xs[j]? = some u → w.cell? ((⟨g, o, none⟩ : Addr).add j) = some u := by
        refine ⟨by rw [h2]; omega, fun j u hj => ?_⟩
        have hadd : (⟨g, o, none⟩ : Addr).add j = ⟨g, o + j, none⟩ := by unfold Addr.add; split <;> simp_all
        rw [hadd, cell_of hg, ← Array.getElem?_toList]
        have hj2 := hj
        rw [← ht, List.getElem?_take] at hj2
        split at hj2
        · rw [List.getElem?_drop] at hj2; exact hj2
        · cases hj2
      have hgr := run_append_grow (P := P) w t ty e i z T2 hi hz ⟨g, o, none⟩ xs.length cap xs hlo hh a m c news (by rw [h2, hl]; omega) hnews (by omega) (by simp only [maxLen] at h63; omega) (growslice_fits (by omega) (by rw [h3]; exact hbytes))
      refine ⟨_, _, hgr, ?_, ((Chg.refl _ w).drew).alloc _, fun k hk => ?_⟩
      · refine .inr ⟨w.heap.size, 0, grownCap w (xs.length + m) cap e, _, by rw [List.length_append, hl], heap_alloc_new w.drew _, ?_, ?_, ?_, ?_⟩
        · rw [List.length_append, hl]; exact grownCap_ge _ _ _ _
        · exact grownCap_le_maxLen w _ _ e h63
        · have hge := grownCap_ge w (xs.length + m) cap e
          simp only [Array.size_append, List.size_toArray, size_zeroCells, h4, hl]
          omega
        · simp only [Array.toList_append, List.append_assoc, List.drop_zero]
          rw [← List.append_assoc]
          exact List.take_left
      · simp [Value.ownBlock] at hk
        exact .inr (by omega)
theorem QRow.append_none {t : TypeId} {bytes : Nat} (T : ElT P t e 1 bytes) (h : QRow w e v xs) (ty : TypeId) :
    (Builtin.append_ #[t, t] ty #[v, .slice none 0 0]).run P w = .ok v w := by
  obtain ⟨i, z, hi, hz, h2, h3, h4, _⟩ := T.info
  rcases h with ⟨rfl, rfl⟩ | ⟨g, o, cap, cur, rfl, hg, hlc, hm, hcs, ht⟩
  · simp [Builtin.append_, run_underlying T.ht, sizeOf, typeInfo, hi, Builtin.lenOf, Builtin.firstCells]
  · simp [Builtin.append_, run_underlying T.ht, sizeOf, typeInfo, hi, Builtin.lenOf, Builtin.firstCells, hlc, storeCells]
/-- A slice of strings laid behind it. -/
theorem QRow.append_strs {t : TypeId} {bytes : Nat} (T : ElT P t e 1 bytes) (h : QRow w e v xs) (ty : TypeId) {sv : Value} {ss : List ByteArray} (hs : StrsAt w sv ss)
    (h63 : xs.length + ss.length ≤ maxLen) (hbytes : (xs.length + ss.length) * bytes ≤ 140737488355328) :
    ∃ v' w', (Builtin.append_ #[t, t] ty #[v, sv]).run P w = .ok v' w' ∧ QRow w' e v' (xs ++ ss.map .string) ∧ Chg (fun k => v.ownBlock = some k) w w' ∧ (∀ k, v'.ownBlock = some k → v.ownBlock = some k ∨ w.heap.size ≤ k) := by
  rcases hs.1 with ⟨rfl, rfl⟩ | ⟨a, cap, rfl, hc⟩
  · exact ⟨v, w, h.append_none T ty, by simpa using h, Chg.refl _ _, fun k hk => .inl hk⟩
  · refine h.append T ty a ss.length cap (ss.map .string) (by simp) (fun j u hj => ?_) (fun u hu => ?_) h63 hbytes
    · rw [List.getElem?_map] at hj
      obtain ⟨y, hy, rfl⟩ := Option.map_eq_some_iff.1 hj
      obtain ⟨hlt, rfl⟩ := List.getElem?_eq_some_iff.1 hy
      exact hc j hlt
    · obtain ⟨y, _, rfl⟩ := List.mem_map.1 hu
      rfl
theorem wpList_append_q {ops : Array Oper} {rest : List Oper} {o : Oper} {a : Act} {Q : Exit → Act → World → Prop} (hgd : o.guard = none) (s x : Operand) (t : TypeId)
    (ho : o.op = .call { callee := .builtin .append, args := #[s, x], argTypes := #[t, t] }) {bytes : Nat} (T : ElT P t e 1 bytes)
    (hq : QRow w e v xs) (hs : a.eval s = v) {sv : Value} {ss : List ByteArray} (hx : a.eval x = sv) (hsrc : StrsAt w sv ss)
    (h63 : xs.length + ss.length ≤ maxLen) (hbytes : (xs.length + ss.length) * bytes ≤ 140737488355328)
    (h : ∀ v' w', QRow w' e v' (xs ++ ss.map .string) → Chg (fun k => v.ownBlock = some k) w w' → (∀ k, v'.ownBlock = some k → v.ownBlock = some k ∨ w.heap.size ≤ k) → wpList P ops Q rest (a.put o.dst v') w') :
    wpList P ops Q (o :: rest) a w :=
  wpList_plain hgd fun _ hK => by
    obtain ⟨v', w', hr, h2, h3, h4⟩ := hq.append_strs T o.type hsrc h63 hbytes
    unfold Oper.wp execOp
    simp only [ho, resolve, invoke, builtin, Sem.run_bind, Sem.run_pure, Result.andThen_ok, List.map_toArray, List.map_cons, List.map_nil, hs, hx, hr]
    exact hK _ _ (h v' w' h2 h3 h4)
end
end Go.Proofs.YthglfmacjoecgaaGreatDoor
namespace Go.Proofs.YthglfmacjoecgaaGreatDoor
open Go.RowKit Go.Maps Go.Sort Go.Shelf

def setL (K : List Nm) : List (Nm × Bool) := K.map fun s => (s, true)
theorem setL_put {K : List Nm} {s : Nm} (h : s ∉ K) : lput s true (setL K) = setL (K ++ [s]) := by
  rw [lput_new]
  · unfold setL; simp
  · unfold setL
    rw [List.map_map]
    intro hm
    obtain ⟨t, ht, e⟩ := List.mem_map.1 hm
    simp at e
    exact h (e ▸ ht)
theorem setL_val (s : Nm) : ∀ K : List Nm, (lval s (setL K)).getD false = K.contains s
  | [] => rfl
  | t :: K => by
    show (lval s ((t, true) :: setL K)).getD false = _
    rw [lval_cons]
    by_cases h : s = t
    · subst h; simp
    · rw [if_neg h, setL_val s K]
      simp [h]
/-- Block r is a map that holds the names K, each once. -/
def SetAt (w : World) (r : Nat) (K : List Nm) : Prop :=
  ∃ es clock, w.heap[r]? = some (.map es clock) ∧ es.toList.map (fun e => (e.key, e.val)) = (setL K).map (fun p => (nmV p.1, boolV p.2)) ∧ MapKept.Stamped es clock
section
variable {w w' : World} {r : Nat} {K : List Nm}
theorem SetAt.map (h : SetAt w r K) : MapL w r nmV boolV (setL K) := by obtain ⟨es, clock, h1, h2, _⟩ := h; exact ⟨es, clock, h1, h2⟩
theorem SetAt.lt (h : SetAt w r K) : r < w.heap.size := h.map.lt
theorem SetAt.chg {F : Nat → Prop} (h : SetAt w r K) (hc : Chg F w w') (hF : ¬ F r) : SetAt w' r K := by
  obtain ⟨es, clock, h1, h2⟩ := h
  exact ⟨es, clock, hc.obj h1 hF, h2⟩
theorem SetAt.fresh (w : World) : SetAt (w.alloc (.map #[] 0)) w.heap.size [] := ⟨#[], 0, heap_alloc_new w _, rfl, by simp [MapKept.Stamped]⟩
def mapLen (w : World) (r : Nat) : Nat := match w.heap[r]? with
  | some (.map es _) => es.size
  | _ => 0
theorem SetAt.len (h : SetAt w r K) : mapLen w r = K.length := by
  obtain ⟨es, clock, h1, h2, _⟩ := h
  unfold mapLen
  rw [h1]
  have := congrArg List.length h2
  simpa [setL] using this
theorem SetAt.put (h : SetAt w r K) {P : Program} {kt t e : TypeId} (KT : KeyT P kt nmV) (ht : P.underlying t = some (.map kt e)) {s : Nm} (hs : s ∉ K) :
    ∃ w', (Instr.mapUpdate t (.map (some r)) (nmV s) (boolV true)).run P w = .ok () w' ∧ SetAt w' r (K ++ [s]) ∧ Chg (fun i => i = r) w w' := by
  obtain ⟨es, clock, h1, h2, h3⟩ := h
  have hf := KT.find boolV es.toList (setL K) s w h2
  have hl : lfind s (setL K) 0 = none := by
    rw [lfind_none]
    intro p hp e
    unfold setL at hp
    obtain ⟨t, ht, rfl⟩ := List.mem_map.1 hp
    exact hs (e ▸ ht)
  rw [hl] at hf
  refine ⟨Go.ChangeMaps.setBlock w r (.map (es.push { key := nmV s, val := boolV true, born := clock }) (clock + 1)), ?_, ⟨es.push { key := nmV s, val := boolV true, born := clock }, clock + 1, ?_, ?_, ?_⟩, setBlock_chg _ _ _⟩
  · simp [Instr.mapUpdate, run_underlying ht, MapKept.run_getObj_map h1, KT.check, hf, MapKept.run_setObj_map _ h1, Go.ChangeMaps.setBlock]
  · simp only [Go.ChangeMaps.setBlock]; rw [Array.getElem?_setIfInBounds_self_of_lt (heap_lt h1)]
  · rw [show setL (K ++ [s]) = setL K ++ [(s, true)] by unfold setL; simp, List.map_append, ← h2]
    simp
  · refine MapKept.stamped_push h3 (fun x hx e => ?_)
    have hx2 : (x.key, x.val) ∈ es.toList.map (fun e => (e.key, e.val)) := List.mem_map.2 ⟨x, hx, rfl⟩
    rw [h2] at hx2
    obtain ⟨p, hp, e2⟩ := List.mem_map.1 hx2
    unfold setL at hp
    obtain ⟨t, ht, rfl⟩ := List.mem_map.1 hp
    simp only [Prod.mk.injEq] at e2
    rw [e] at e2
    have : bs t = bs s := by simpa using e2.1
    exact hs (bs_inj this ▸ ht)
theorem wpList_put_set {P : Program} {ops : Array Oper} {rest : List Oper} {o : Oper} {a : Act} {Q : Exit → Act → World → Prop} (hg : o.guard = none) (m x v : Operand) (t : TypeId) (hop : o.op = Op.mapUpdate t m x v) {kt e : TypeId} (KT : KeyT P kt nmV) (ht : P.underlying t = some (.map kt e))
    (hown : SetAt w r K) (hm : a.eval m = .map (some r)) (s : Nm) (hs : s ∉ K) (hx : a.eval x = nmV s) (hv : a.eval v = .bool true)
    (hK : ∀ w', SetAt w' r (K ++ [s]) → Chg (fun i => i = r) w w' → wpList P ops Q rest (a.put o.dst undef) w') : wpList P ops Q (o :: rest) a w := by
  refine wpList_plain hg fun K' hK' => ?_
  obtain ⟨w', hrun, r1, r2⟩ := hown.put KT ht hs
  have hrun2 : (Instr.mapUpdate t (.map (some r)) (.string (bs s)) (.bool true)).run P w = .ok () w' := hrun
  unfold Oper.wp
  simp [execOp, hop, hm, hx, hv, hrun2, Result.andThen]
  exact hK' _ _ (hK w' r1 r2)

theorem SetAt.owns (h : SetAt w r K) (hl : ∀ s ∈ K, s.length ≤ maxLen) (hn : K.length ≤ maxLen) :
    ∃ D : DataW Unit, w.ownsMap Tryz.prog 9 (plainElem Tryz.prog 4) r K.length D ∧ (strKeys D).Perm K ∧ Maps.size D = K.length := by
  obtain ⟨es, clock, h1, h2, h3⟩ := h
  have hlen : es.size = K.length := by have := congrArg List.length h2; simpa [setL] using this
  have hx : ∀ x ∈ es.toList, ∃ s ∈ K, x.key = nmV s ∧ x.val = .bool true := by
    intro x hx
    have hx2 : (x.key, x.val) ∈ es.toList.map (fun e => (e.key, e.val)) := List.mem_map.2 ⟨x, hx, rfl⟩
    rw [h2] at hx2
    obtain ⟨p, hp, e2⟩ := List.mem_map.1 hx2
    unfold setL at hp
    obtain ⟨t, ht, rfl⟩ := List.mem_map.1 hp
    simp only [Prod.mk.injEq] at e2
    exact ⟨t, ht, e2.1.symm, e2.2.symm⟩
  have hrd : ∀ x ∈ es.toList, ∃ s ∈ K, x.key = nmV s ∧ Go.WideElems.rd Tryz.prog 9 (plainElem (H := Unit) Tryz.prog 4) x = some (.string s, .lit (.bool true)) := by
    intro x hxm
    obtain ⟨s, hs, e1, e2⟩ := hx x hxm
    refine ⟨s, hs, e1, ?_⟩
    obtain ⟨key, val, born⟩ := x
    simp only at e1 e2
    subst e1 e2
    have hk : keyOf Tryz.prog 9 (nmV s) = some (.string (bs s).data.toList) := Go.WideMaps.keyOf_string_mk Tryz.underlying9 (by rw [bs_size]; exact hl s hs)
    rw [bs_data] at hk
    exact Go.WideElems.rd_mk hk (plainElem_bool Tryz.underlying4 true)
  refine ⟨_, ⟨es, clock, h1, ⟨by rw [hlen]; exact hn, h3, fun x hx => by obtain ⟨s, _, _, h⟩ := hrd x hx; exact ⟨_, h⟩⟩, by omega, rfl⟩, ?_, ?_⟩
  · have hp := Go.WideShapes.sorted_perm (es.toList.map (Go.WideElems.rg Tryz.prog 9 (plainElem (H := Unit) Tryz.prog 4)))
    have hp2 := hp.map (fun p : Lit × DataW Unit => strOf p.1)
    refine List.Perm.trans hp2 ?_
    rw [List.map_map]
    have e1 : es.toList.map ((fun p : Lit × DataW Unit => strOf p.1) ∘ Go.WideElems.rg Tryz.prog 9 (plainElem (H := Unit) Tryz.prog 4)) = es.toList.map ((fun q : Value × Value => match q.1 with | .string b => b.data.toList | _ => []) ∘ fun e => (e.key, e.val)) := by
      refine List.map_congr_left (fun x hx => ?_)
      obtain ⟨s, _, e1, e2⟩ := hrd x hx
      simp only [Function.comp, Go.WideElems.rg_of e2, e1, bs_data]
      rfl
    rw [e1, ← List.map_map, h2, List.map_map]
    unfold setL
    rw [List.map_map]
    have e3 : K.map (((fun q : Value × Value => match q.1 with | .string b => b.data.toList | _ => []) ∘ fun p : Nm × Bool => (nmV p.1, boolV p.2)) ∘ fun s => (s, true)) = K.map id := List.map_congr_left (fun s _ => by simp [bs_data])
    rw [e3, List.map_id]
  · show ((es.toList.map (Go.WideElems.rg Tryz.prog 9 (plainElem (H := Unit) Tryz.prog 4))).foldr DataW.insert []).length = _
    rw [length_sorted]
    simpa using hlen
theorem sort_rise {K l : List Nm} (hK : K.Nodup) (hl : Rise l) (hm : ∀ s, s ∈ K ↔ s ∈ l) : K.mergeSort (fun x y => decide (x ≤ y)) = l := by
  have tr : ∀ a b c : Nm, leB a b = true → leB b c = true → leB a c = true := fun a b c h1 h2 => by simp only [leB, decide_eq_true_eq] at *; exact List.le_trans h1 h2
  have tot : ∀ a b : Nm, (leB a b || leB b a) = true := fun a b => by simp only [leB, Bool.or_eq_true, decide_eq_true_eq]; exact List.le_total a b
  have hp := List.mergeSort_perm K leB
  have h1 := List.pairwise_mergeSort tr tot K
  have h2 : (K.mergeSort leB).Nodup := hp.nodup_iff.2 hK
  refine rise_ext ?_ hl (fun x => by rw [hp.mem_iff]; exact hm x)
  unfold Rise
  refine (h1.and h2).imp ?_
  rintro a b ⟨h3, h4⟩
  simp only [leB, decide_eq_true_eq] at h3
  exact nm_lt_of_le_ne h3 h4
end
theorem keys_any (mb : Option Nat) (W : World) : Calls Tryz.prog 87 #[.map mb] W fun e w' => e = .returned (.func (.func 119) #[] #[.pointer (some ⟨W.heap.size, 0, none⟩)]) ∧ w' = W.alloc (.cells #[.map mb] 139) :=
  callsIn_wide.1 (AnyZ.keys_in Tryz.keys87 Fence.wide 5 trivial rfl mb W)
theorem sorts_any (m : Nat) : AnyZ.SortsIn Tryz.prog Tryz.sorted86_ren Fence.wide m :=
  ⟨fun blk off cap ss W hH hblk hsz => callsIn_wide.2 (AnyM.slices_Sort_string Tryz.sort118 blk off cap ss W hH hblk hsz),
   fun p cap W => callsIn_wide.2 (AnyM.slices_Sort_string_none Tryz.sort118 p cap W)⟩
set_option maxHeartbeats 1000000 in
/-- slices.Sorted at what maps.Keys hands back for a set of names: the names, sorted. -/
theorem sorted_any (r : Nat) (K l : List Nm) (w : World) (h : SetAt w r K) (hlen : ∀ s ∈ K, s.length ≤ maxLen) (hn : K.length ≤ 1000000) (hK : K.Nodup) (hl : Rise l) (hm : ∀ s, s ∈ K ↔ s ∈ l) :
    Calls Tryz.prog 86 #[.func (.func 119) #[] #[.pointer (some ⟨w.heap.size, 0, none⟩)]] (w.alloc (.cells #[.map (some r)] 139)) fun e w' => ∃ v, e = .returned v ∧
      w'.ownsRow 0 9 1 v l.length (l.map nmV) ∧ Chg (fun _ => False) w w' := by
  obtain ⟨D0, hown, hD, hsz⟩ := h.owns hlen (by unfold maxLen; omega)
  have hbl := hown.lt
  have hseq : SeqGives Fence.wide 2 Tryz.prog 119 #[.pointer (some ⟨w.heap.size, 0, none⟩)] encStr (fun ss => ss.Perm (strKeys D0)) (Maps.size D0) (w.alloc (.cells #[.map (some r)] 139)) :=
    AnyZ.keys_gives (ρ := Tryz.keys87_ren) { Tryz.keys87 with } Fence.wide _ trivial rfl (by omega) w.heap.size r K.length D0 _ (by simp) (by simp) (by
      obtain ⟨es, clock, hb, Ft, hs, hD⟩ := hown
      exact ⟨es, clock, (Below.heap_alloc _ _ r hbl).trans hb, Ft, hs, hD⟩)
  have hs := AnyZ.sorted_in Tryz.sorted86 Fence.wide 5 trivial trivial trivial trivial rfl (by omega) (sorts_any _) (enters_of Tryz.func118 (by kernel_rfl) rfl) 119 #[.pointer (some ⟨w.heap.size, 0, none⟩)] trivial (enters_of Tryz.func119 (by kernel_rfl) rfl) _ _ (by rw [hsz]; unfold maxLen; omega) (by rw [hsz]; omega) _ hseq
  refine (callsIn_wide.1 hs).mono ?_
  rintro e w' ⟨v, ss, rfl, hS, hrow, _, hb⟩
  have hperm : ss.Perm K := hS.trans hD
  have hsort := sort_rise (hperm.nodup_iff.2 hK) hl (fun s => by rw [hperm.mem_iff]; exact hm s)
  have hll : ss.length = l.length := by rw [← hsort]; exact (List.mergeSort_perm ss _).length_eq.symm
  refine ⟨v, rfl, ?_, ?_⟩
  · rw [hsort, hll] at hrow
    exact ownsRow_base_a hrow (Nat.zero_le _)
  · exact (((Chg.refl (fun _ => False) w).alloc _)).trans (Chg.of_below hb) (fun i hi h => by simp at h; omega)
end Go.Proofs.YthglfmacjoecgaaGreatDoor
