/- Cut, Heal, Apart, Flip of a Breeze walked. -/
import Derived.Test.YtfjihepjeafpmaaBrC
namespace Go.Proofs.Ytfjihepjeafpmaa
open Go.RowKit

def cutL (l : List ((Int × Int) × Bool)) (x y : Int) : List ((Int × Int) × Bool) := if pairB x y then lput (encK x y) true l else l
def apartB (l : List ((Int × Int) × Bool)) (x y : Int) : Bool := ((lfind (encK x y) l 0).map (·.2)).getD false

theorem BrAt.map_step {w w' : World} {b mb : Nat} {v : Value} {ls : List Ld} {l l' : List ((Int × Int) × Bool)} (h : BrAt w b mb v ls l) (hm : MapL w' mb encP Value.bool l') (hc : Chg (fun k => k = mb) w w') : BrPost w b mb v ls l' w' :=
  ⟨v, ⟨hc.obj h.blk (Ne.symm h.ne3), hc.owns h.own (fun k hk e => h.ne2 (by rw [hk, e])), h.ne, hm, h.le⟩, hc.mono (fun _ _ e => .inr (.inl e)), fun _ e => .inl e⟩

theorem apart_eq (l : List ((Int × Int) × Bool)) (x y p q : Int) (e : (p, q) = encK x y) : (Option.map (fun x => Value.bool x.2) (lfind (p, q) l 0)).getD (.bool false) = .bool (apartB l x y) := by
  unfold apartB
  rw [e]
  cases lfind (encK x y) l 0 <;> rfl

section
variable {w : World} {b mb : Nat} {v : Value} {ls : List Ld} {l : List ((Int × Int) × Bool)}

set_option maxRecDepth 100000 in
set_option maxHeartbeats 400000 in
theorem cut_any (hB : BrAt w b mb v ls l) (x y : Int) :
    Calls Try.prog 19 #[.pointer (some ⟨b, 0, none⟩), .int .i64 x, .int .i64 y] w (Rets (.tuple #[]) (BrPost w b mb v ls (cutL l x y))) := by
  have hb0 := cell_of hB.blk
  by_cases hp : pairB x y = true
  · unfold cutL; rw [if_pos hp]
    go_enter Try.func19, Try.ntmps19
    go_wp2_with (first | (go_at_call 26; refine (arePair_any _ _ _).mono ?_; rintro e w' ⟨rfl, rfl⟩) | (at_mapUpdate; go_loud (refine wpList_mapUpdate_l rfl _ _ _ 56 rfl keyP Try.underlying56 hB.map rfl (encK x y) rfl true rfl ?_; intro w1 hm1 hc1)))
    all_goals go_end0
    all_goals exact ⟨rfl, hB.map_step hm1 hc1⟩
  · have hp' : pairB x y = false := by simpa using hp
    unfold cutL; rw [if_neg hp]; clear hp
    go_enter Try.func19, Try.ntmps19
    go_wp2_with (first | (go_at_call 26; refine (arePair_any _ _ _).mono ?_; rintro e w' ⟨rfl, rfl⟩))
    go_end0
    exact ⟨rfl, hB.post⟩

set_option maxRecDepth 100000 in
set_option maxHeartbeats 400000 in
theorem heal_any (hB : BrAt w b mb v ls l) (x y : Int) :
    Calls Try.prog 21 #[.pointer (some ⟨b, 0, none⟩), .int .i64 x, .int .i64 y] w (Rets (.tuple #[]) (BrPost w b mb v ls (ldel (encK x y) l))) := by
  have hb0 := cell_of hB.blk
  go_enter Try.func21, Try.ntmps21
  go_wp2_with (at_delete; go_loud (refine wpList_delete_l rfl _ _ 56 63 rfl keyP Try.underlying56 hB.map rfl (encK x y) rfl ?_; intro w1 hm1 hc1))
  all_goals go_end0
  all_goals exact ⟨rfl, hB.map_step hm1 hc1⟩

set_option maxRecDepth 100000 in
set_option maxHeartbeats 400000 in
theorem apart_any (hB : BrAt w b mb v ls l) (x y : Int) :
    Calls Try.prog 23 #[.pointer (some ⟨b, 0, none⟩), .int .i64 x, .int .i64 y] w (Rets (.bool (apartB l x y)) (fun w' => w = w')) := by
  have hb0 := cell_of hB.blk
  have hz : (zeroValue 4).run Try.prog w = .ok (.bool false) w := by kernel_rfl
  have hk := fun (p q : Int) => hB.map.look keyP Try.underlying56 hz (p, q) false
  simp only [encP, Bool.false_eq_true, if_false] at hk
  go_enter Try.func23, Try.ntmps23
  go_wp2_with fail
  all_goals go_ret
  all_goals exact ⟨congrArg Ending.returned (apart_eq l x y _ _ (Prod.ext (by simp only [encK]; split <;> omega) (by simp only [encK]; split <;> omega))), rfl⟩

theorem flip_none (hB : BrAt w b mb v ls l) (at_ pl mk : Int) (ha : isB ls at_ = false) :
    Calls Try.prog 13 #[.pointer (some ⟨b, 0, none⟩), .int .i64 at_, .int .i64 pl, .int .i64 mk] w (Rets (.int .i64 12) (fun w' => w = w')) := by
  go_enter Try.func13, Try.ntmps13
  go_wp2_with (go_at_call 27; refine (is_any hB at_).mono ?_; rintro e w' ⟨rfl, rfl⟩)
  go_ret
  exact ⟨rfl, rfl⟩

/-- What Flip answers at a load. -/
def flipRes (x : Ld) (pl mk : Int) : Int := if x.fl then 41 else if pl < 0 ∨ (x.by_.size : Int) ≤ pl ∨ mk < 1 ∨ 255 < mk then 1 else 0

set_option maxRecDepth 100000 in
set_option maxHeartbeats 400000 in
theorem flip_no (hB : BrAt w b mb v ls l) (i : Nat) (x : Ld) (hi : ls[i]? = some x) (pl mk : Int) (hr : flipRes x pl mk ≠ 0) :
    Calls Try.prog 13 #[.pointer (some ⟨b, 0, none⟩), .int .i64 i, .int .i64 pl, .int .i64 mk] w (Rets (.int .i64 (flipRes x pl mk)) (fun w' => w = w')) := by
  have hlt : i < ls.length := (List.getElem?_eq_some_iff.1 hi).1
  obtain ⟨g, cap, rfl, hcap, hg⟩ := owns_some hB.own (by omega)
  have hle := hB.le
  obtain ⟨c0, c1, c2, c3⟩ := load_cells hB.own hi
  have hb0 := cell_of hB.blk
  have hisb : isB ls i = true := by simp [isB]; omega
  have hlt' : (i : Int) < ls.length := by omega
  clear hi
  by_cases hf : x.fl = true
  · have e : flipRes x pl mk = 41 := by simp [flipRes, hf]
    rw [e]; clear e hr
    go_enter Try.func13, Try.ntmps13
    go_wp2_with (go_at_call 27; refine (is_any hB i).mono ?_; rintro e w' ⟨rfl, rfl⟩)
    go_ret
    exact ⟨rfl, rfl⟩
  · have hf' : x.fl = false := by simpa using hf
    have hor : pl < 0 ∨ (x.by_.size : Int) ≤ pl ∨ mk < 1 ∨ 255 < mk := by
      by_cases h : pl < 0 ∨ (x.by_.size : Int) ≤ pl ∨ mk < 1 ∨ 255 < mk
      · exact h
      · exfalso; apply hr; unfold flipRes; rw [if_neg hf, if_neg h]
    have e : flipRes x pl mk = 1 := by unfold flipRes; rw [if_neg hf, if_pos hor]
    rw [e]; clear e hr hf
    have hor' := hid hor
    clear hor
    go_enter Try.func13, Try.ntmps13
    go_wp2_with (go_at_call 27; refine (is_any hB i).mono ?_; rintro e w' ⟨rfl, rfl⟩)
    all_goals first | (go_ret; exact ⟨rfl, rfl⟩) | (exfalso; have := hor'.out; omega)

/-- A byte turned by a mask. -/
def flipN (a : UInt8) (mk : Int) : Int := bits .xor .u8 a.toNat mk
def flipByte (a : UInt8) (mk : Int) : UInt8 := UInt8.ofNat (flipN a mk).toNat
theorem flipN_range (a : UInt8) (mk : Int) : 0 ≤ flipN a mk ∧ flipN a mk < 256 := by
  unfold flipN bits
  rw [IntKind.wrap_u8]
  omega
theorem flipByte_toNat (a : UInt8) (mk : Int) : ((flipByte a mk).toNat : Int) = flipN a mk := by
  have h := flipN_range a mk
  unfold flipByte
  rw [UInt8.toNat_ofNat']
  omega
def flipS (s : ByteArray) (p : Nat) (mk : Int) : ByteArray := ⟨(s.data.toList.set p (flipByte (s.data.toList.getD p 0) mk)).toArray⟩

theorem flat_set2 : ∀ (ls : List Ld) (i : Nat) (x : Ld) (s : ByteArray), ls[i]? = some x → ((flat ls).set (i * 4 + 2) (.string s)).set (i * 4 + 3) (.bool true) = flat (ls.set i { x with by_ := s, fl := true })
  | [], _, _, _, h => by simp at h
  | y :: ls, 0, x, s, h => by simp at h; subst h; simp [flat, Ld.cells]
  | y :: ls, i + 1, x, s, h => by
    have ih := flat_set2 ls i x s (by simpa using h)
    simp only [flat, List.flatMap_cons, List.set_cons_succ] at ih ⊢
    rw [← ih]
    simp [Ld.cells, show (i + 1) * 4 + 2 = i * 4 + 2 + 1 + 1 + 1 + 1 from by omega, show (i + 1) * 4 + 3 = i * 4 + 3 + 1 + 1 + 1 + 1 from by omega]

set_option maxRecDepth 100000 in
set_option maxHeartbeats 1000000 in
theorem flip_yes (hB : BrAt w b mb v ls l) (i : Nat) (x : Ld) (hi : ls[i]? = some x) (p : Nat) (mk : Int) (hf : x.fl = false) (hp : p < x.by_.size) (hm1 : 1 ≤ mk) (hm2 : mk ≤ 255) :
    Calls Try.prog 13 #[.pointer (some ⟨b, 0, none⟩), .int .i64 i, .int .i64 p, .int .i64 mk] w (Rets (.int .i64 0) (BrPost w b mb v (ls.set i { x with by_ := flipS x.by_ p mk, fl := true }) l)) := by
  have hlt : i < ls.length := (List.getElem?_eq_some_iff.1 hi).1
  obtain ⟨g, cap, rfl, hcap, hg⟩ := owns_some hB.own (by omega)
  have hle := hB.le
  obtain ⟨c0, c1, c2, c3⟩ := load_cells hB.own hi
  have fz := hB.own.frozenAt
  have hb0 := cell_of hB.blk
  have hisb : isB ls i = true := by simp [isB]; omega
  have hlt' : (i : Int) < ls.length := by omega
  have hp' : (p : Int) < x.by_.size := by omega
  have hgn : g ≠ w.heap.size := by omega
  obtain ⟨w1, cap1, hconv, hcell1, hfz1, hch1, hsz1, hcap1⟩ := conv_bytes (P := Try.prog) 9 61 5 Try.underlying9 Try.underlying61 Try.underlying5 w x.by_
  have e0 := hcell1 p hp
  have e1 := hfz1 p hp
  have d2 := hch1.cell c2 (fun h => h)
  have d3 := hch1.cell c3 (fun h => h)
  have k1 : ∀ o, w1.frozen? ⟨g, o, none⟩ = false := fun o => (World.frozen?_of_block (a := ⟨g, o, none⟩) (hch1.block g hg (fun h => h))).trans (fz o)
  have hback : (convert 61 9 (.slice (some ⟨w.heap.size, 0, none⟩) x.by_.size cap1)).run Try.prog (w1.setCell ⟨w.heap.size, p, none⟩ (.int .u8 (flipN x.by_[p] mk))) =
      .ok (.string (flipS x.by_ p mk)) (w1.setCell ⟨w.heap.size, p, none⟩ (.int .u8 (flipN x.by_[p] mk))) := by
    have hl : (x.by_.data.toList.set p (flipByte (x.by_.data.toList.getD p 0) mk)).length = x.by_.size := by simp
    have hc : ∀ j (hj : j < (x.by_.data.toList.set p (flipByte (x.by_.data.toList.getD p 0) mk)).length), (w1.setCell ⟨w.heap.size, p, none⟩ (.int .u8 (flipN x.by_[p] mk))).cell? ((⟨w.heap.size, 0, none⟩ : Addr).add j) = some (.int .u8 ((x.by_.data.toList.set p (flipByte (x.by_.data.toList.getD p 0) mk))[j].toNat : Int)) := by
      intro j hj
      have hadd : (⟨w.heap.size, 0, none⟩ : Addr).add j = ⟨w.heap.size, j, none⟩ := by unfold Addr.add; split <;> simp_all
      rw [hadd]
      have hj' : j < x.by_.size := by omega
      by_cases hjp : j = p
      · subst hjp
        rw [World.cell?_setCell_same _ _ _ e0]
        have hg0 : x.by_.data.toList.getD j 0 = x.by_[j] := by
          rw [List.getD_eq_getElem?_getD]; simp [hj']; rfl
        simp only [List.getElem_set_self, hg0, flipByte_toNat]
      · rw [show (w1.setCell ⟨w.heap.size, p, none⟩ (.int .u8 (flipN x.by_[p] mk))).cell? ⟨w.heap.size, j, none⟩ = w1.cell? ⟨w.heap.size, j, none⟩ from by apply World.cell?_setCell_other; simp, hcell1 j hj']
        rw [List.getElem_set_ne (by omega)]
        simp
        rfl
    have hr := run_convert_bytes_back (P := Try.prog) (w1.setCell ⟨w.heap.size, p, none⟩ (.int .u8 (flipN x.by_[p] mk))) 61 9 5 ⟨w.heap.size, 0, none⟩ cap1 _ Try.underlying61 Try.underlying5 Try.underlying9 hc
    rw [hl] at hr
    exact hr
  unfold flipN at hback
  have HI := hid hi
  clear hi
  go_enter Try.func13, Try.ntmps13
  go_wp2_with (go_at_call 27; refine (is_any hB i).mono ?_; rintro e w' ⟨rfl, rfl⟩)
  go_ret
  refine ⟨rfl, ?_⟩
  have ho1 : w1.ownsRow 0 29 4 (.slice (some ⟨g, 0, none⟩) ls.length cap) ls.length (flat ls) := hch1.owns hB.own (fun _ _ h => h)
  have ho2 : (w1.setCell ⟨w.heap.size, p, none⟩ (.int .u8 (bits .xor .u8 x.by_[p].toNat mk))).ownsRow 0 29 4 (.slice (some ⟨g, 0, none⟩) ls.length cap) ls.length (flat ls) :=
    ownsRow_setCell_other ho1 (by simpa [Value.ownBlock] using hgn) _
  have ho3 := (ho2.stored (i * 4 + 2) (.string (flipS x.by_ p mk))).1
  have ho4 := (ho3.stored (i * 4 + 3) (.bool true)).1
  have hset : ((flat ls).set (i * 4 + 2) (.string (flipS x.by_ p mk))).set (i * 4 + 3) (.bool true) = flat (ls.set i { x with by_ := flipS x.by_ p mk, fl := true }) := flat_set2 ls i x _ HI.out
  rw [hset] at ho4
  have hch : Chg (fun k => k = g) w _ := (((hch1.mono (G := fun k => k = g) (fun _ _ h => h.elim)).setCell (p := ⟨w.heap.size, p, none⟩) (fun h => by simp at h) (.int .u8 (bits .xor .u8 x.by_[p].toNat mk))).setCell (p := ⟨g, i * 4 + 2, none⟩) (fun _ => rfl) (.string (flipS x.by_ p mk))).setCell (p := ⟨g, i * 4 + 3, none⟩) (fun _ => rfl) (.bool true)
  have hne := hB.ne
  have hne2 := hB.ne2
  simp [Value.ownBlock] at hne hne2
  refine ⟨.slice (some ⟨g, 0, none⟩) ls.length cap, ⟨hch.obj hB.blk (Ne.symm hne), by rw [List.length_set]; exact ho4, hB.ne, hB.map.chg hch (Ne.symm hne2), by rw [List.length_set]; exact hle⟩, hch.mono (fun k _ hk => ?_), fun k hk => .inl hk⟩
  subst hk
  exact .inr (.inr rfl)
end
end Go.Proofs.Ytfjihepjeafpmaa
