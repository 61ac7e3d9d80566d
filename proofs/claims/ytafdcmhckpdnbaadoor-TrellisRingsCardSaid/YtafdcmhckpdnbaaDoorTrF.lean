/- trellis: the closures of (*web).order walked. -/
import Derived.Test.YtafdcmhckpdnbaaDoorTrE
namespace Go.Proofs.YtafdcmhckpdnbaaDoor
open Go.RowKit

/-- What has been made: the names of these places. -/
def doneL (g : GrR) (l : List Nat) : List (Nm × Bool) := atL (l.map fun i => (nameAt g i, true))
theorem doneL_snoc (g : GrR) (l : List Nat) (i : Nat) : doneL g (l ++ [i]) = lput (nameAt g i) true (doneL g l) := by
  unfold doneL
  rw [List.map_append, List.map_cons, List.map_nil, atL_snoc]
theorem lval_trues {s : Nm} : ∀ (ps : List (Nm × Bool)) (l : List (Nm × Bool)), (∀ p ∈ ps, p.2 = true) → lval s (ps.foldl (fun l p => lput p.1 p.2 l) l) = if s ∈ ps.map Prod.fst then some true else lval s l
  | [], l, _ => by simp
  | p :: ps, l, h => by
    rw [List.foldl_cons, lval_trues ps _ (fun q hq => h q (List.mem_cons_of_mem _ hq)), lval_put, h p List.mem_cons_self]
    simp only [List.map_cons, List.mem_cons]
    by_cases h1 : s = p.1
    · simp [h1]
    · simp [h1]
theorem doneL_val (g : GrR) (l : List Nat) (s : Nm) : (lval s (doneL g l)).getD false = (l.map (nameAt g)).contains s := by
  unfold doneL atL
  rw [lval_trues _ _ (fun p hp => by obtain ⟨i, _, rfl⟩ := List.mem_map.1 hp; rfl)]
  have e : (l.map fun i => (nameAt g i, true)).map Prod.fst = l.map (nameAt g) := by
    rw [List.map_map]; rfl
  rw [e, lval_nil]
  by_cases h : s ∈ l.map (nameAt g)
  · simp [h]
  · rw [if_neg h]
    have : (l.map (nameAt g)).contains s = false := by simpa using h
    rw [this]; rfl
/-- Whether a name is still waited for. -/
def waitsB (g : GrR) (l : List Nat) (s : Nm) : Bool := (placeOf g s).isSome && !(l.map (nameAt g)).contains s
theorem ready_waits {g : GrR} (hw : Wov g) (l : List Nat) (a : ActR) (ha : a ∈ g.acts) : readyB g l a = (!(l.map (nameAt g)).contains a.name && !(a.ins.any (waitsB g l))) := by
  unfold readyB
  congr 1
  rw [List.all_eq_not_any_not]
  congr 1
  have : ∀ s ∈ a.ins, (!(g.srcs.contains s || (l.map (nameAt g)).contains s)) = waitsB g l s := by
    intro s hs
    unfold waitsB
    rcases hw.src_or (hw.ins a ha s hs) with ⟨h1, h2⟩ | ⟨i, hi, h1, h2, h3⟩
    · rw [h2]; simp [h1]
    · rw [h2]; simp [h3]
  rw [Bool.eq_iff_iff, List.any_eq_true, List.any_eq_true]
  constructor
  · rintro ⟨s, hs, h⟩; exact ⟨s, hs, by rw [← this s hs]; exact h⟩
  · rintro ⟨s, hs, h⟩; exact ⟨s, hs, by rw [this s hs]; exact h⟩
theorem zeroB (w : World) : (zeroValue 4).run Tryd.prog w = .ok (.bool false) w := by kernel_rfl

set_option maxRecDepth 100000 in
set_option maxHeartbeats 1000000 in
theorem waits_any (g : GrR) (hw : Wov g) (l : List Nat) (s : Nm) (hs : s ∈ namesL g) (w : World) (bp bd b rd : Nat) (hp : w.cell? ⟨bp, 0, none⟩ = some (.pointer (some ⟨b, 0, none⟩))) (hb : IsWeb w b g)
    (hd : w.cell? ⟨bd, 0, none⟩ = some (.map (some rd))) (hm : MapL w rd nmV boolV (doneL g l)) :
    Calls Tryd.prog 38 #[.string (bs s), .pointer (some ⟨bp, 0, none⟩), .pointer (some ⟨bd, 0, none⟩)] w (Rets (.bool (waitsB g l s)) (fun w' => w = w')) := by
  obtain ⟨sv, av, iv, r, lm, hb⟩ := hb
  have c2 := cell_of hb.blk 2
  simp at c2
  have hv := hb.look s
  have hd1 := doneL_val g l s
  have HM := hid hm
  have HB := hid hb.map
  rcases hw.src_or hs with ⟨h1, h2⟩ | ⟨i, hi, h1, h2, h3⟩
  · have hv1 : ((lval s lm).map intV).getD (.int .i64 0) = .int .i64 (-1) := by rw [hv]; unfold atV; rw [h2]; simp [h1]
    have hr : waitsB g l s = false := by unfold waitsB; rw [h2]; rfl
    rw [hr]
    have HV := hid hv1
    clear hv1 hr hd1 hv hb h1 h2 hw hs hm
    go_enter Tryd.func38, Tryd.ntmps38
    go_wp2_with (at_lookup; refine wpList_lookup_v rfl _ _ 56 rfl keyNm Tryd.underlying56 (zeroI _) HB.out rfl s rfl _ HV.out ?_)
    go_ret
    exact ⟨rfl, rfl⟩
  · have hv1 : ((lval s lm).map intV).getD (.int .i64 0) = .int .i64 i := by rw [hv]; unfold atV; rw [h2]; rfl
    have hr : waitsB g l s = !(l.map (nameAt g)).contains s := by unfold waitsB; rw [h2]; rfl
    have hv2 : ((lval s (doneL g l)).map boolV).getD (.bool false) = .bool ((l.map (nameAt g)).contains s) := by
      rw [← hd1]; cases lval s (doneL g l) <;> rfl
    rw [hr]
    generalize (l.map (nameAt g)).contains s = B at *
    have HV := hid hv1
    have HV2 := hid hv2
    have hi0 : (0 : Int) ≤ (i : Int) := by omega
    clear hv1 hv2 hr hd1 hv hb h1 h2 hw hs hm h3
    go_enter Tryd.func38, Tryd.ntmps38
    go_wp2_with (first | (at_lookup; refine wpList_lookup_v rfl _ _ 56 rfl keyNm Tryd.underlying56 (zeroI _) HB.out rfl s rfl _ HV.out ?_) | (at_lookup; refine wpList_lookup_w rfl _ _ 63 rfl keyNm Tryd.underlying63 (zeroB _) HM.out rfl s rfl _ HV2.out ?_))
    all_goals go_ret
    all_goals exact ⟨rfl, rfl⟩

set_option maxRecDepth 100000 in
set_option maxHeartbeats 1000000 in
theorem ready_any (g : GrR) (hw : Wov g) (l : List Nat) (a : ActR) (iva : Value) (ha : a ∈ g.acts) (w : World) (bp bd b rd bf : Nat) (hp : w.cell? ⟨bp, 0, none⟩ = some (.pointer (some ⟨b, 0, none⟩))) (hb : IsWeb w b g)
    (hd : w.cell? ⟨bd, 0, none⟩ = some (.map (some rd))) (hm : MapL w rd nmV boolV (doneL g l)) (hf : w.cell? ⟨bf, 0, none⟩ = some (.func (.func 38) #[] #[.pointer (some ⟨bp, 0, none⟩), .pointer (some ⟨bd, 0, none⟩)]))
    (hi : NamesAt w iva a.ins) :
    Calls Tryd.prog 39 #[actV a iva, .pointer (some ⟨bd, 0, none⟩), .pointer (some ⟨bf, 0, none⟩)] w (Rets (.bool (readyB g l a)) (Chg (fun _ => False) w)) := by
  have hrw := ready_waits hw l a ha
  have hC1 : Chg (fun _ => False) w (w.alloc (.cells #[.string (bs a.name), iva, .string (bs a.code)] 41)) := (Chg.refl _ w).alloc _
  have k1 := heap_alloc_new' w (.cells #[.string (bs a.name), iva, .string (bs a.code)] 41)
  have d1 := hC1.cell hd (fun h => h)
  have f1 := hC1.cell hf (fun h => h)
  have m1 := hm.chg hC1 (fun h => h)
  have hcf := cfs_waits (some ⟨bp, 0, none⟩) (some ⟨bd, 0, none⟩) (waitsB g l) iva a.ins _ (hi.chg hC1 (fun _ _ h => h)) (fun s hs W hW =>
    (waits_any g hw l s (hw.ins a ha s hs) W bp bd b rd ((hC1.trans hW (fun _ _ h => h)).cell hp (fun h => h)) (hb.chg (hC1.trans hW (fun _ _ h => h)) (fun _ _ h => h)) ((hC1.trans hW (fun _ _ h => h)).cell hd (fun h => h)) (hm.chg (hC1.trans hW (fun _ _ h => h)) (fun h => h))).mono
      (fun e w' ⟨h1, h2⟩ => ⟨h1, h2 ▸ Chg.refl _ _⟩))
  have hd1 := doneL_val g l a.name
  have hv2 : ((lval a.name (doneL g l)).map boolV).getD (.bool false) = .bool ((l.map (nameAt g)).contains a.name) := by
    rw [← hd1]; cases lval a.name (doneL g l) <;> rfl
  rw [hrw]
  unfold actV
  have HM := hid m1
  have HV := hid hv2
  have HC1 := hid hC1
  have HK := hid k1
  have HCF := hid hcf
  clear hd1 hv2 hcf m1 hrw hC1 k1 hp hb hd hm hf hi
  generalize (l.map (nameAt g)).contains a.name = D at *
  generalize a.ins.any (waitsB g l) = B at *
  generalize hnm : a.name = nm at *
  generalize bs a.code = cd at *
  have HNM := hid hnm
  clear hnm
  have c0 : (w.alloc (.cells #[.string (bs nm), iva, .string cd] 41)).cell? ⟨w.heap.size, 1, none⟩ = some iva := cell_of HK.out 1
  cases D with
  | true =>
    clear HCF
    go_enter Tryd.func39, Tryd.ntmps39
    go_wp2_with (at_lookup; refine wpList_lookup_v rfl _ _ 63 rfl keyNm Tryd.underlying63 (zeroB _) HM.out rfl nm rfl _ HV.out ?_)
    go_ret
    exact ⟨rfl, HC1.out⟩
  | false =>
    go_enter Tryd.func39, Tryd.ntmps39
    go_wp2_with (first | (at_lookup; refine wpList_lookup_v rfl _ _ 63 rfl keyNm Tryd.underlying63 (zeroB _) HM.out rfl nm rfl _ HV.out ?_) | (go_at_call 33; refine HCF.out.mono ?_; rintro e w' ⟨rfl, hc⟩))
    go_ret
    exact ⟨rfl, HC1.out.trans hc (fun _ _ h => h)⟩
end Go.Proofs.YtafdcmhckpdnbaaDoor
