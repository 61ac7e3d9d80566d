/- Texts of the proof, one behind the other: (*stamp.Press).Add walked; A row of bytes that may bear a conversion's mark; one byte appended; (*stamp.Press).Sum walked; stamp.Of walked: the digest of texts; mill.step's letter 'h' walked. -/
import Derived.Test.YthglfmacjoecgaaGreatDoorMh03
import Derived.StillTailTactics
import Derived.Lib.FrozenHead2
import Derived.Lib.SlBytesRow
import Derived.Test.YthglfmacjoecgaaGreatDoorMh11
import Derived.Deep.RegionHeld3
namespace Go.Proofs.YthglfmacjoecgaaGreatDoor
open Go.RowKit

/-- What blocks make of a state; what doesn't fill one. -/
def absorb : Nat → (Nat → Int) → ByteArray → (Nat → Int) × ByteArray
  | 0, f, r => (f, r)
  | m + 1, f, r => if r.size < 64 then (f, r) else absorb m (mixR (r.extract 0 64) f) (r.extract 64 r.size)
theorem absorb_end (m : Nat) (f : Nat → Int) (r : ByteArray) (h : r.size < 64) : absorb m f r = (f, r) := by
  cases m with
  | zero => rfl
  | succ m => unfold absorb; rw [if_pos h]
theorem absorb_less (m : Nat) : ∀ (f : Nat → Int) (r : ByteArray), r.size ≤ m → (absorb m f r).2.size < 64 := by
  induction m with
  | zero => intro f r h; unfold absorb; show r.size < 64; omega
  | succ m ih =>
    intro f r h
    unfold absorb
    split
    · assumption
    · exact ih _ _ (by simp; omega)
/-- A text more. -/
def addR (q : (Nat → Int) × ByteArray × Int) (s : ByteArray) : (Nat → Int) × ByteArray × Int :=
  let a := absorb (q.2.1.size + s.size) q.1 (q.2.1 ++ s)
  (a.1, a.2, q.2.2 + s.size)
def addsR (ss : List ByteArray) : (Nat → Int) × ByteArray × Int := ss.foldl addR (iv, .empty, 0)
theorem addsR_take (ss : List ByteArray) (k : Nat) (h : k < ss.length) : addsR (ss.take (k + 1)) = addR (addsR (ss.take k)) ss[k] := by
  unfold addsR
  rw [List.take_succ_eq_append_getElem h, List.foldl_append]
  rfl
theorem addsR_less (ss : List ByteArray) : (addsR ss).2.1.size < 64 := by
  have key : ∀ (ss : List ByteArray) (q : (Nat → Int) × ByteArray × Int), q.2.1.size < 64 → (ss.foldl addR q).2.1.size < 64 := by
    intro ss
    induction ss with
    | nil => intro q h; exact h
    | cons s ss ih => intro q h; exact ih _ (absorb_less _ _ _ (by rw [ByteArray.size_append]; exact Nat.le_refl _))
  exact key ss _ (by decide)
def sumSize (ss : List ByteArray) : Nat := (ss.map ByteArray.size).sum
theorem addsR_n (ss : List ByteArray) : (addsR ss).2.2 = (sumSize ss : Nat) := by
  have key : ∀ (ss : List ByteArray) (q : (Nat → Int) × ByteArray × Int), (ss.foldl addR q).2.2 = q.2.2 + (sumSize ss : Nat) := by
    intro ss
    induction ss with
    | nil => intro q; simp [sumSize]
    | cons s ss ih => intro q; rw [List.foldl_cons, ih]; simp [addR, sumSize]; omega
  rw [show addsR ss = ss.foldl addR (iv, .empty, 0) from rfl, key]
  simp
theorem sumSize_append (a b : List ByteArray) : sumSize (a ++ b) = sumSize a + sumSize b := by unfold sumSize; rw [List.map_append, List.sum_append]
theorem sumSize_take (ss : List ByteArray) (k : Nat) : sumSize (ss.take k) ≤ sumSize ss := by
  have := congrArg sumSize (List.take_append_drop k ss)
  rw [sumSize_append] at this
  omega
theorem sumSize_get (ss : List ByteArray) (k : Nat) (h : k < ss.length) : sumSize (ss.take k) + ss[k].size ≤ sumSize ss := by
  have h1 := sumSize_take ss (k + 1)
  rw [List.take_succ_eq_append_getElem h, sumSize_append] at h1
  have : sumSize [ss[k]] = ss[k].size := by simp [sumSize]
  omega
theorem StAt.setHi {w : World} {b : Nat} {T : TypeId} {cs : Array Value} {f : Nat → Int} (h : StAt w b T cs f) (t : Nat) (ht : 8 ≤ t) (v : Value) : StAt (w.setCell ⟨b, t, none⟩ v) b T (cs.setIfInBounds t v) f := by
  refine ⟨heap_set_same h.heap t _, fun i hi => ?_⟩
  rw [Array.getElem?_setIfInBounds, if_neg (by omega)]
  exact h.word i hi

def restOf (w : World) (b : Nat) : Nat := match w.cell? ⟨b, 8, none⟩ with | some (.string s) => s.size | _ => 0
theorem restOf_eq {w : World} {b : Nat} {s : ByteArray} (h : w.cell? ⟨b, 8, none⟩ = some (.string s)) : restOf w b = s.size := by unfold restOf; rw [h]

theorem words_chg {F : Nat → Prop} {w w' : World} (h : Lib.TabIs Tryz.prog w "apiary/stamp.words" .u32 wordsL) (hc : Chg F w w') (hF : ¬ F gWd) : Lib.TabIs Tryz.prog w' "apiary/stamp.words" .u32 wordsL := by
  unfold Lib.TabIs World.var? at h ⊢
  rw [wdG] at h ⊢
  simp only [Option.bind_some] at h ⊢
  cases hb : w.heap[gWd]? with
  | none => simp [hb] at h
  | some o => rw [hb] at h; rw [hc.obj hb hF]; exact h

set_option maxRecDepth 100000 in
set_option maxHeartbeats 4000000 in
theorem sadd_any (w : World) (b : Nat) (ss : List ByteArray) (g n c : Nat) (hn : n = ss.length) (hl : ss.length ≤ 1000) (hsz : sumSize ss ≤ 140737488355328) (hc : ∀ i (h : i < ss.length), w.cell? ⟨g, i, none⟩ = some (.string ss[i])) (hgb : g ≠ b)
    (hP : PressAt w b iv .empty 0) (hT : Lib.TabIs Tryz.prog w "apiary/stamp.words" .u32 wordsL) (hwb : gWd ≠ b) :
    Calls Tryz.prog 65 #[.pointer (some ⟨b, 0, none⟩), .slice (some ⟨g, 0, none⟩) n c] w
      (fun e w' => e = .returned (.pointer (some ⟨b, 0, none⟩)) ∧ PressAt w' b (addsR ss).1 (addsR ss).2.1 (addsR ss).2.2 ∧ Chg (fun k => k = b) w w') := by
  subst hn
  have HC := hid hc
  have HP := hid hP
  have HT := hid hT
  clear hc hP hT
  go_enter Tryz.func65, Tryz.ntmps65
  go_wp2_with fail
  go_loopw [11] (fun i wr => ∃ k : Nat, k ≤ ss.length ∧ i = .int .i64 k ∧ PressAt wr b (addsR (ss.take k)).1 (addsR (ss.take k)).2.1 (addsR (ss.take k)).2.2 ∧ Chg (fun k => k = b) w wr) (fun i _ => ss.length - (intOf i).toNat)
  case atStart => exact ⟨0, Nat.zero_le _, rfl, HP.out, Chg.refl _ w⟩
  case round =>
    obtain ⟨k, hk, rfl, ⟨cs, hS, h8, h9⟩, hch⟩ := hrel
    by_cases hkn : k < ss.length
    · have hkn' : (k : Int) < ss.length := by omega
      have hkc := hch.cell (p := ⟨g, k, none⟩) (HC.out k hkn) hgb
      have x8 := (cell_of hS.heap 8).trans h8
      have x9 := (cell_of hS.heap 9).trans h9
      have f8 := frozen_of hS.heap 8
      have f9 := frozen_of hS.heap 9
      have hless := addsR_less (ss.take k)
      have hnn := addsR_n (ss.take k)
      have hsg := sumSize_get ss k hkn
      have hcat : ¬ 9223372036854775807 < (addsR (ss.take k)).2.1.size + ss[k].size := by omega
      have hwr : IntKind.i64.wrap ((addsR (ss.take k)).2.2 + (ss[k].size : Int)) = (addsR (ss.take k)).2.2 + (ss[k].size : Int) := IntWalk.i64_in _ (by omega)
      have HNX := hid (addsR_take ss k hkn)
      generalize addsR (ss.take k) = q at hS h8 h9 x8 x9 hless hnn hcat hwr HNX
      have HS := hid hS
      have H89 := hid (And.intro h8 h9)
      have HCH := hid hch
      clear hS h8 h9 hch hnn
      go_wp2_with fail
      refine wp_gen (fun W => PressAt W b q.1 (q.2.1 ++ ss[k]) (q.2.2 + (ss[k].size : Int)) ∧ Chg (fun k => k = b) w W) ⟨⟨_, (HS.out.setHi 9 (by decide) _).setHi 8 (by decide) _, ?_, ?_⟩, (HCH.out.setCell (p := ⟨b, 9, none⟩) (fun _ => rfl) _).setCell (p := ⟨b, 8, none⟩) (fun _ => rfl) _⟩ ?_
      · have h8s := (Array.getElem?_eq_some_iff.1 H89.out.1).1
        rw [Array.getElem?_setIfInBounds, if_pos rfl, if_pos (by rw [Array.size_setIfInBounds]; exact h8s)]
      · have h9s := (Array.getElem?_eq_some_iff.1 H89.out.2).1
        rw [Array.getElem?_setIfInBounds, if_neg (by decide), Array.getElem?_setIfInBounds, if_pos rfl, if_pos h9s]
      clear HS H89 HCH x8 x9 f8 f9
      rintro wo ⟨hPo, hco⟩
      have HPO := hid hPo
      have HCO := hid hco
      clear hPo hco
      obtain ⟨A, hA⟩ : ∃ A, A = absorb (q.2.1.size + ss[k].size) q.1 (q.2.1 ++ ss[k]) := ⟨_, rfl⟩
      have HA := hid hA
      clear hA
      obtain ⟨n', hn'⟩ : ∃ n', n' = q.2.2 + (ss[k].size : Int) := ⟨_, rfl⟩
      rw [← hn'] at HPO
      have HN' := hid hn'
      clear hn' hwr
      go_loopw [46] (fun _ wr => ∃ m f r, r.size ≤ m ∧ r.size ≤ 140737488355328 + 64 ∧ absorb m f r = A ∧ PressAt wr b f r n' ∧ Chg (fun k => k = b) wo wr) (fun _ wr => restOf wr b)
      case atStart => exact ⟨_, _, _, by rw [ByteArray.size_append]; exact Nat.le_refl _, by rw [ByteArray.size_append]; omega, HA.out.symm, HPO.out, Chg.refl _ _⟩
      case round =>
        obtain ⟨m, f, r, hm, hrb, hab, ⟨cs', hS', h8', h9'⟩, hch'⟩ := hrel
        have x8 := (cell_of hS'.heap 8).trans h8'
        have f8 := frozen_of hS'.heap 8
        by_cases h64 : r.size < 64
        · have h64' : ¬ (64 : Int) ≤ (r.size : Int) := by omega
          have h64'' : (r.size : Int) < 64 := by omega
          have HS := hid hS'
          have H89 := hid (And.intro h8' h9')
          have HCH := hid hch'
          have HAB := hid hab
          clear hS' h8' h9' hch' hab
          go_wp2_with fail
          go_roundw
          case rel =>
            rw [absorb_end m f r h64] at HAB
            refine ⟨k + 1, by omega, by go_num, ?_, HCO.out.trans HCH.out (fun _ _ h => h)⟩
            have hN : addsR (ss.take (k + 1)) = (f, r, n') := by
              rw [HNX.out, HN'.out]
              show ((absorb (q.2.1.size + ss[k].size) q.1 (q.2.1 ++ ss[k])).1, (absorb (q.2.1.size + ss[k].size) q.1 (q.2.1 ++ ss[k])).2, q.2.2 + (ss[k].size : Int)) = _
              rw [← HA.out, ← HAB.out]
            rw [hN]
            exact ⟨cs', HS.out, H89.out.1, H89.out.2⟩
          case measure => simp [intOf]; omega
        · have h64' : (64 : Int) ≤ (r.size : Int) := by omega
          have hT' : Lib.TabIs Tryz.prog wr.drew "apiary/stamp.words" .u32 wordsL := by
            have hc1 : Chg (fun k => k = b) w wr.drew := (HCO.out.trans hch' (fun _ _ h => h)).drew
            exact words_chg HT.out hc1 hwb
          have hmix := mix_any (r.extract 0 64) (by simp; omega) wr.drew b 181 cs' f hS'.drew hT' hwb
          have hro := restOf_eq x8
          have HRO := hid hro
          have HS := hid hS'
          have H89 := hid (And.intro h8' h9')
          have HCH := hid hch'
          have HAB := hid hab
          clear hS' h8' h9' hch' hab hro
          go_wp2_with fail
          refine wp_region_still_tail 8 (by kernel_rfl) (by kernel_rfl) ?_
          simp only [List.take_succ_cons, List.take_zero, List.drop_succ_cons, List.drop_zero]
          repeat still_step
          refine wpStill_nil ?_
          change wpList _ _ _ _ _ wr.drew
          go_wp2_with (go_at_call 105; refine hmix.mono ?_; rintro e w5 ⟨rfl, cs5, hS5, hs5, hr5, hc5⟩; have y8 := (cell_of hS5.heap 8).trans ((hr5 8 (Nat.le_refl _)).trans H89.out.1); have z8 := frozen_of hS5.heap 8)
          have h8s := (Array.getElem?_eq_some_iff.1 ((hr5 8 (Nat.le_refl _)).trans H89.out.1)).1
          have h9n : (cs5.setIfInBounds 8 (.string (r.extract 64 r.size)))[9]? = some (.int .i64 n') := by
            rw [Array.getElem?_setIfInBounds, if_neg (by decide)]; exact (hr5 9 (by decide)).trans H89.out.2
          have h8n : (cs5.setIfInBounds 8 (.string (r.extract 64 r.size)))[8]? = some (.string (r.extract 64 r.size)) := by
            rw [Array.getElem?_setIfInBounds, if_pos rfl, if_pos h8s]
          have hS6 := hS5.setHi 8 (Nat.le_refl _) (.string (r.extract 64 r.size))
          have hr6 := restOf_eq ((cell_of hS6.heap 8).trans h8n)
          go_roundw
          case rel =>
            obtain ⟨m', rfl⟩ : ∃ m', m = m' + 1 := ⟨m - 1, by omega⟩
            refine ⟨m', mixR (r.extract 0 64) f, r.extract 64 r.size, by simp; omega, by simp; omega, ?_, ⟨_, hS6, h8n, h9n⟩, (HCH.out.drew.trans hc5 (fun _ _ h => h)).setCell (p := ⟨b, 8, none⟩) (fun _ => rfl) _⟩
            rw [← HAB.out]
            conv => rhs; unfold absorb
            rw [if_neg h64]
          case measure =>
            rw [hr6, HRO.out]
            simp
            omega
    · obtain rfl : k = ss.length := by omega
      go_wp2_with fail
      go_ret
      rw [List.take_length] at hS h8 h9
      exact ⟨rfl, ⟨cs, hS, h8, h9⟩, hch⟩
end Go.Proofs.YthglfmacjoecgaaGreatDoor
namespace Go.Proofs.YthglfmacjoecgaaGreatDoor
open Go.RowKit

def bv8 (b : UInt8) : Value := .int .u8 (b.toNat : Nat)
/-- The slice v of n bytes is a row of the call's own; nothing within it is frozen. -/
def RowM (w : World) (v : Value) (l : List UInt8) : Prop :=
  ∃ g cap cur fz, v = .slice (some ⟨g, 0, none⟩) l.length cap ∧ w.heap[g]? = some (.cells cur 5 fz) ∧ (fz = (0, 0) ∨ cur.size ≤ fz.1) ∧ l.length ≤ cap ∧ cap ≤ maxLen ∧ cur.size = cap ∧ cur.toList.take l.length = l.map bv8
theorem RowM.len {w0 : World} {v : Value} {l : List UInt8} (h : RowM w0 v l) (w : World) (ty : TypeId) : (Builtin.len_ #[125] ty #[v]).run Tryz.prog w = .ok (.int .i64 l.length) w := by
  obtain ⟨g, cap, cur, fz, rfl, _⟩ := h
  simp [Builtin.len_, run_underlying Tryz.underlying125]; rfl
theorem RowM.chg {F : Nat → Prop} {w w' : World} {v : Value} {l : List UInt8} (h : RowM w v l) (hc : Chg F w w') (hF : ∀ k, v.ownBlock = some k → ¬ F k) : RowM w' v l := by
  obtain ⟨g, cap, cur, fz, rfl, hg, r⟩ := h
  exact ⟨g, cap, cur, fz, rfl, hc.obj hg (hF g rfl), r⟩
theorem RowM.lt {w : World} {v : Value} {l : List UInt8} (h : RowM w v l) : ∀ k, v.ownBlock = some k → k < w.heap.size := by
  obtain ⟨g, cap, cur, fz, rfl, hg, r⟩ := h
  intro k hk
  simp [Value.ownBlock] at hk
  subst hk
  exact heap_lt hg
theorem infoU8 : ∃ i, Tryz.prog.info? 5 = some i ∧ i.zero = some (.int .u8 0) ∧ i.size = 1 ∧ i.bytes = 1 := by
  obtain ⟨i, hi, h0, h3, h2⟩ := info_parts (P := Tryz.prog) (e := 5) (z := .int .u8 0) (size := 1) (bytes := 1) (by kernel_rfl)
  exact ⟨i, hi, h0, h3, h2⟩

theorem conv_row (w : World) (s : ByteArray) (hs : s.size ≤ maxLen) : ∃ v w1, (convert 9 125 (.string s)).run Tryz.prog w = .ok v w1 ∧ RowM w1 v s.data.toList ∧ Chg (fun _ => False) w w1 ∧ w1.heap.size = w.heap.size + 1 ∧ v.ownBlock = some w.heap.size := by
  have hge := grownCap_ge w s.size 0 5
  have hcs : (Lib.bytesCells w 5 s).size = grownCap w s.size 0 5 := by
    unfold Lib.bytesCells
    have : s.data.size = s.size := rfl
    simp only [Array.size_append, Array.size_map, Array.size_replicate]
    omega
  have hl : s.data.toList.length = s.size := by simp
  refine ⟨_, _, Lib.run_convert_string_bytes w _ _ 5 s Tryz.underlying9 Tryz.underlying125 Tryz.underlying5, ?_, ⟨rfl, rfl, rfl, by rw [Lib.bytesWorld_size]; omega, fun k hk _ => Lib.bytesWorld_at_old w _ s k hk⟩, Lib.bytesWorld_size w _ s, rfl⟩
  refine ⟨w.heap.size, _, _, _, by rw [hl], Lib.bytesWorld_at_new w _ s, .inr (Nat.le_refl _), by rw [hl]; exact hge, grownCap_le_maxLen w s.size 0 _ hs, hcs, ?_⟩
  unfold Lib.bytesCells
  rw [Array.toList_append, List.take_left' (by simp)]
  rw [Array.toList_map]
  rfl

theorem run_append1 (w : World) (ty : TypeId) (v : Value) (l : List UInt8) (h : RowM w v l) (ad : Addr) (c : Nat) (x : UInt8) (hx : w.cell? ad = some (bv8 x)) (hb : l.length + 1 ≤ 140737488355328) :
    ∃ v' w', (Builtin.append_ #[125, 125] ty #[v, .slice (some ad) 1 c]).run Tryz.prog w = .ok v' w' ∧ RowM w' v' (l ++ [x]) ∧ Chg (fun k => v.ownBlock = some k) w w' ∧ (∀ k, v'.ownBlock = some k → v.ownBlock = some k ∨ w.heap.size ≤ k) := by
  obtain ⟨i, hi, hz, hsize, hbytes⟩ := infoU8
  obtain ⟨g, cap, cur, fz, rfl, hg, hfz, hnc, hcm, hcs, htake⟩ := h
  have hnews : ∀ j u, [bv8 x][j]? = some u → w.cell? (ad.add j) = some u := by
    intro j u hj
    match j, hj with
    | 0, hj => simp at hj; subst hj; rw [Addr.add_zero']; exact hx
    | j + 1, hj => simp at hj
  by_cases hroom : l.length + 1 ≤ cap
  · have hf := run_firstCells_some (P := Tryz.prog) w i.size 1 ad 1 c [bv8 x] (by simp [hsize]) hnews
    rw [hsize] at hf
    have hcell : w.cell? ⟨g, l.length, none⟩ = some cur[l.length] := by rw [cell_of hg]; exact Array.getElem?_eq_getElem (by omega)
    have hfro : w.frozen? ⟨g, l.length, none⟩ = false := by
      simp only [World.frozen?, hg]
      rcases hfz with rfl | hfz
      · simp
      · simp; omega
    have hst : (storeCells ⟨g, l.length, none⟩ [bv8 x] 0).run Tryz.prog w = .ok () (w.setCell ⟨g, l.length, none⟩ (bv8 x)) := by
      have := run_storeCells_cells (P := Tryz.prog) g l.length [bv8 x] 0 w (fun j hj => by
        obtain rfl : j = 0 := by simpa using hj
        show (w.cell? ⟨g, l.length, none⟩).isSome = true
        rw [hcell]; rfl) (fun j hj => by
        obtain rfl : j = 0 := by simpa using hj
        exact hfro) (by simp [bv8, Value.oneCell'])
      simpa [World.setCells] using this
    refine ⟨.slice (some ⟨g, 0, none⟩) (l.length + 1) cap, w.setCell ⟨g, l.length, none⟩ (bv8 x), ?_, ?_, ?_, ?_⟩
    · simp [Builtin.append_, run_underlying Tryz.underlying125, sizeOf, typeInfo, hi, Builtin.lenOf, hroom, hf, Addr.add_lit, hsize, hst]
    · refine ⟨g, cap, cur.setIfInBounds l.length (bv8 x), fz, by simp, heap_set_same hg _ _, by simpa using hfz, by simpa using hroom, hcm, by simpa using hcs, ?_⟩
      rw [List.length_append, List.length_singleton, Array.toList_setIfInBounds, List.take_set, List.map_append, ← htake]
      apply List.ext_getElem?
      intro j
      rw [List.getElem?_set]
      by_cases e : l.length = j
      · subst e
        have : (List.take l.length cur.toList).length = l.length := by simp; omega
        rw [if_pos rfl, if_pos (by simp; omega), List.getElem?_append_right (by omega), this]
        simp
      · rw [if_neg e]
        by_cases e2 : j < l.length
        · rw [List.getElem?_append_left (by simp; omega), List.getElem?_take, List.getElem?_take, if_pos (by omega), if_pos e2]
        · rw [List.getElem?_take, if_neg (by omega), List.getElem?_append_right (by simp; omega)]
          rw [List.getElem?_eq_none (by simp; omega)]
    · exact (Chg.refl (fun k => (Value.slice (some ⟨g, 0, none⟩) l.length cap).ownBlock = some k) w).setCell (p := ⟨g, l.length, none⟩) (fun _ => rfl) _
    · intro k hk; exact .inl hk
  · have holds : ∀ j u, (l.map bv8)[j]? = some u → w.cell? ((⟨g, 0, none⟩ : Addr).add j) = some u := by
      intro j u hj
      have hadd : (⟨g, 0, none⟩ : Addr).add j = ⟨g, j, none⟩ := by unfold Addr.add; split <;> simp_all
      rw [hadd, cell_of hg]
      rw [← htake, List.getElem?_take] at hj
      split at hj
      · simpa using hj
      · cases hj
    have hr := run_append_grow (P := Tryz.prog) w 125 ty 5 i (.int .u8 0) Tryz.underlying125 hi hz ⟨g, 0, none⟩ l.length cap (l.map bv8) (by simp [hsize]) holds ad 1 c [bv8 x] (by simp [hsize]) hnews (by omega) (by omega) (growslice_fits (by omega) (by rw [hbytes]; omega))
    have hge := grownCap_ge w (l.length + 1) cap 5
    have hcm2 : grownCap w (l.length + 1) cap 5 ≤ maxLen := grownCap_le_maxLen w (l.length + 1) cap _ (by unfold maxLen; omega)
    refine ⟨_, _, hr, ⟨w.heap.size, grownCap w (l.length + 1) cap 5, _, (0, 0), by simp, heap_alloc_new w.drew _, .inl rfl, by simpa using hge, hcm2, ?_, ?_⟩, ⟨rfl, rfl, rfl, by simp, fun k hk _ => heap_alloc_old w.drew _ hk⟩, ?_⟩
    · simp only [Array.size_append, List.size_toArray, size_zeroCells, List.length_map, List.length_singleton]
      simp [Value.cells]
      omega
    · simp only [Array.toList_append, List.append_assoc]
      rw [← List.append_assoc, List.map_append, List.length_append, List.length_singleton]
      exact List.take_left' (by simp)
    · intro k hk; simp [Value.ownBlock] at hk; exact .inr (by omega)
section
variable {w : World} {ops : Array Oper} {rest : List Oper} {o : Oper} {a : Act} {Q : Exit → Act → World → Prop}
/-- 'append(s, x)' at such a row, the byte just laid by this very statement. -/
theorem wpList_append1 (hgd : o.guard = none) (s x : Operand) (ho : o.op = .call { callee := .builtin .append, args := #[s, x], argTypes := #[125, 125] })
    {v : Value} {l : List UInt8} (h : RowM w v l) (hs : a.eval s = v) (b : UInt8) (arr : Array Value) (ha : arr = #[bv8 b]) (n c : Nat) (hn : n = 1) (hx : a.eval x = .slice (some ⟨w.heap.size, 0, none⟩) n c) (hb : l.length + 1 ≤ 140737488355328)
    (k : ∀ v' w', RowM w' v' (l ++ [b]) → Chg (fun k => v.ownBlock = some k) w w' → (∀ k, v'.ownBlock = some k → v.ownBlock = some k ∨ w.heap.size ≤ k) → wpList Tryz.prog ops Q rest (a.put o.dst v') w') :
    wpList Tryz.prog ops Q (o :: rest) a (w.alloc (.cells arr 5)) := by
  subst ha hn
  refine wpList_plain hgd fun K hK => ?_
  have h' : RowM (w.alloc (.cells #[bv8 b] 5)) v l := h.chg ((Chg.refl (fun _ => False) w).alloc _) (fun _ _ h => h)
  obtain ⟨v', w', hr, h1, h2, h3⟩ := run_append1 (w.alloc (.cells #[bv8 b] 5)) o.type v l h' ⟨w.heap.size, 0, none⟩ c b ((cell_of (heap_alloc_new w _) 0).trans rfl) hb
  unfold Oper.wp execOp
  simp only [ho, resolve, invoke, builtin, Sem.run_bind, Sem.run_pure, Result.andThen_ok, List.map_toArray, List.map_cons, List.map_nil, hs, hx, hr]
  refine hK _ _ (k v' w' h1 (((Chg.refl _ w).alloc _).trans h2 (fun _ _ h => h)) (fun k hk => (h3 k hk).imp id (fun h => by simp at h; omega)))
end
end Go.Proofs.YthglfmacjoecgaaGreatDoor
namespace Go.Proofs.YthglfmacjoecgaaGreatDoor
open Go.RowKit

def sliceLen : Value → Nat
  | .slice _ n _ => n
  | _ => 0
theorem RowM.sl {w : World} {v : Value} {l : List UInt8} (h : RowM w v l) : sliceLen v = l.length := by
  obtain ⟨g, cap, cur, fz, rfl, _⟩ := h
  rfl
def remF (n : Nat) : Nat := (120 - n % 64) % 64
/-- Zeros behind a text, so that there is room for its length. -/
def padR (l : List UInt8) : List UInt8 := l ++ List.replicate (remF l.length) 0
theorem pad_stop {n : Nat} (h : n % 64 = 56) : remF n = 0 := by unfold remF; omega
theorem pad_next {n : Nat} (h : n % 64 ≠ 56) : remF n = remF (n + 1) + 1 := by unfold remF; omega
theorem pad_size (n : Nat) : (n + remF n) % 64 = 56 := by unfold remF; omega
/-- The bytes of a length. -/
def lenB (n : Int) (i : Nat) : UInt8 := UInt8.ofNat ((IntKind.u64.wrap (IntKind.u64.wrap n * 8) / 2 ^ (8 * (7 - i))) % 256).toNat
theorem lenB_val (n : Int) (k : Nat) : ((lenB n k).toNat : Int) = IntKind.u64.wrap (IntKind.u64.wrap n * 8) / 2 ^ (8 * (7 - k)) % 256 := by
  unfold lenB
  generalize IntKind.u64.wrap (IntKind.u64.wrap n * 8) / 2 ^ (8 * (7 - k)) = x
  rw [UInt8.toNat_ofNat']
  omega
def lensL (n : Int) (k : Nat) : List UInt8 := (List.range k).map (lenB n)
theorem lensL_next (n : Int) (k : Nat) : lensL n (k + 1) = lensL n k ++ [lenB n k] := by unfold lensL; rw [List.range_succ, List.map_append]; rfl
/-- What is summed up at the end. -/
def tailL (rest : ByteArray) (n : Int) : List UInt8 := padR (rest.data.toList ++ [128]) ++ lensL n 8
def mixAll : Nat → (Nat → Int) → List UInt8 → (Nat → Int)
  | 0, f, _ => f
  | m + 1, f, l => if l.length < 64 then f else mixAll m (mixR ⟨(l.take 64).toArray⟩ f) (l.drop 64)
theorem mixAll_end (m : Nat) (f : Nat → Int) (l : List UInt8) (h : l.length < 64) : mixAll m f l = f := by
  cases m with
  | zero => rfl
  | succ m => unfold mixAll; rw [if_pos h]
def sumF (f : Nat → Int) (rest : ByteArray) (n : Int) : Nat → Int := mixAll (tailL rest n).length f (tailL rest n)
theorem tailL_len (rest : ByteArray) (n : Int) : (tailL rest n).length % 64 = 0 := by
  unfold tailL padR lensL
  have := pad_size (rest.data.toList ++ [128]).length
  simp only [List.length_append, List.length_replicate, List.length_map, List.length_range] at *
  omega
theorem remF_lt (n : Nat) : remF n < 64 := by unfold remF; omega

set_option maxRecDepth 100000 in
set_option maxHeartbeats 4000000 in
theorem ssum_any (w : World) (b : Nat) (f : Nat → Int) (rest : ByteArray) (n : Int) (hr : rest.size < 64) (hP : PressAt w b f rest n) (hT : Lib.TabIs Tryz.prog w "apiary/stamp.words" .u32 wordsL) (hgw : gWd < w.heap.size) :
    Calls Tryz.prog 66 #[.pointer (some ⟨b, 0, none⟩)] w (Rets (.agg (rowB 32 (digB (sumF f rest n)))) (Chg (fun _ => False) w)) := by
  obtain ⟨cs, hS, h8, h9⟩ := hP
  have hbw := heap_lt hS.heap
  have HS := hid hS
  have H8 := hid h8
  have H9 := hid h9
  have HT := hid hT
  clear hS h8 h9 hT
  go_enter Tryz.func66, Tryz.ntmps66
  go_wp2_with (first | (refine wpList_alloc0 rfl 57 rfl (rowB 32 (fun _ => 0)) (alloc37 _) ?_; intro w1 ha1 hs1 hc1; have x8 := hc1.cell ((cell_of HS.out.heap 8).trans H8.out) (fun h => h); obtain ⟨v0, wc, hconv, hrow, hcc, hscc, hvo⟩ := conv_row w1 rest (by unfold maxLen; omega); have HHS1 := hid hs1; have HCC := hid hcc; have HVO := hid hvo; have HSC := hid hscc; clear hs1 hcc hvo hscc) | (at_builtin; go_loud (refine wpList_append1 rfl _ _ rfl hrow rfl 128 _ rfl _ _ rfl rfl (by simp; omega) ?_; intro v2 w2 hrow2 hc2 hvo2)))
  have hl0 : Hid (padR (rest.data.toList ++ [128]) = padR (rest.data.toList ++ [128])) := rfl
  have H2 : Hid ((∀ k, v2.ownBlock = some k → w1.heap.size ≤ k) ∧ Chg (fun _ => False) w1 w2) := by
    refine ⟨fun k hk => ?_, ?_⟩
    · rcases hvo2 k hk with h | h
      · rw [HVO.out] at h; cases h; exact Nat.le_refl _
      · have := HSC.out; omega
    · refine HCC.out.trans hc2 (fun i hi h => ?_)
      rw [HVO.out] at h; cases h; exact absurd hi (Nat.lt_irrefl _)
  clear hc2 hvo2 hrow hconv x8
  go_loopw [3] (fun v wr => ∃ l : List UInt8, RowM wr v l ∧ padR l = padR (rest.data.toList ++ [128]) ∧ l.length ≤ 200 - remF l.length ∧ (∀ k, v.ownBlock = some k → w1.heap.size ≤ k) ∧ Chg (fun _ => False) w1 wr) (fun v _ => remF (sliceLen v))
  case atStart => exact ⟨_, hrow2, rfl, by have := remF_lt (rest.data.toList ++ [128]).length; simp at this ⊢; omega, H2.out.1, H2.out.2⟩
  case round =>
    obtain ⟨l, hrw, hpad, hll, hvo, hch⟩ := hrel
    have hlenV := fun W ty => hrw.len W ty
    have hmod : (l.length : Int).tmod 64 = ((l.length % 64 : Nat) : Int) := by rw [Int.tmod_eq_emod_of_nonneg (by omega)]; omega
    have HPAD := hid hpad
    have HVO2 := hid hvo
    have HCH := hid hch
    clear hpad hvo hch hrow2
    by_cases h56 : l.length % 64 = 56
    · have h56' : (((l.length % 64 : Nat) : Int) == 56) = true := by simp [h56]
      have hl0 : l = padR (rest.data.toList ++ [128]) := by
        rw [← HPAD.out]; unfold padR; rw [pad_stop h56]; simp
      have hlen8 : l.length ≤ 200 := by omega
      have HL0 := hid hl0
      clear hl0 HPAD hll
      go_wp2_with fail
      clear hlenV hmod
      obtain ⟨wo, hwo⟩ : ∃ wo : World, wo = wr := ⟨_, rfl⟩
      rw [← hwo] at hrw HCH ⊢
      clear hwo
      go_loopw [3, 23] (fun v i wr => ∃ k : Nat, k ≤ 8 ∧ i = .int .i64 k ∧ RowM wr v (l ++ lensL n k) ∧ (∀ k, v.ownBlock = some k → w1.heap.size ≤ k) ∧ Chg (fun _ => False) w1 wr) (fun _ i _ => 8 - (intOf i).toNat)
      case atStart => exact ⟨0, Nat.zero_le _, rfl, by simpa [lensL] using hrw, HVO2.out, HCH.out⟩
      case round =>
        obtain ⟨k, hk, rfl, hrw2, hvo, hch⟩ := hrel
        have hll2 : (lensL n k).length = k := by simp [lensL]
        by_cases hkn : k < 8
        · have hkn' : (k : Int) < 8 := by omega
          have x9 := (hc1.trans hch (fun _ _ h => h)).cell ((cell_of HS.out.heap 9).trans H9.out) (fun h => h)
          have hw7 : IntKind.i64.wrap (7 - (k : Int)) = ((7 - k : Nat) : Int) := by rw [IntWalk.i64_in _ (by omega)]; omega
          have hw8 : IntKind.i64.wrap (8 * ((7 - k : Nat) : Int)) = ((8 * (7 - k) : Nat) : Int) := by rw [IntWalk.i64_in _ (by omega)]; omega
          have HVO3 := hid hvo
          have HCH3 := hid hch
          clear hvo hch hrw
          go_wp2_with (at_builtin; go_loud (refine wpList_append1 rfl _ _ rfl hrw2 rfl (lenB n k) _ (by unfold bv8; rw [lenB_val]) _ _ rfl rfl (by rw [List.length_append, hll2]; omega) ?_; intro v3 w3 hrow3 hc3 hvo3))
          go_roundw
          case rel =>
            refine ⟨k + 1, by omega, by go_num, by rw [lensL_next, ← List.append_assoc]; exact hrow3, fun i hi => ?_, HCH3.out.trans hc3 (fun i hi h => absurd (HVO3.out _ h) (by omega))⟩
            rcases hvo3 i hi with h | h
            · exact HVO3.out _ h
            · exact Nat.le_trans HCH3.out.size h
          case measure => simp [intOf]; omega
        · obtain rfl : k = 8 := by omega
          have hE : l ++ lensL n 8 = tailL rest n := by rw [HL0.out]; rfl
          rw [hE] at hrw2
          have hS1 : StAt wr b 181 cs f := ⟨(hc1.trans hch (fun _ _ h => h)).obj HS.out.heap (fun h => h), HS.out.word⟩
          have hTl := tailL_len rest n
          have hTs : (tailL rest n).length ≤ 300 := by rw [← hE, List.length_append, hll2]; omega
          have HVO3 := hid hvo
          have HCH3 := hid hch
          have HS1 := hid hS1
          clear hvo hch hS1 hE hll2 hrw
          go_wp2_with (first | (refine wpList_loadst rfl 178 _ rfl b rfl (rowF 8 f) (.array 8 176) HS1.out.range Tryz.underlying178 rfl (by rw [rowF_size]; kernel_rfl) ?_) | (refine wpList_alloc0 rfl 178 rfl (rowF 8 (fun _ => 0)) (alloc74 _) ?_; intro w5 ha5 hs5 hc5) | (refine wpList_store0 rfl 178 _ _ rfl wr.heap.size (rowF 8 (fun _ => 0)) (rowF 8 f) rfl rfl ha5 (by rw [rowF_size]; exact size74) rfl (rowF_one _ _) ?_; intro w6 hb6 hs6 hc6))
          go_frame
          have hrw6 : RowM w6 u3 (tailL rest n) := hrw2.chg ((hc5.mono (fun _ _ h => h.elim)).trans hc6 (fun _ _ h => h)) (fun k hk e => by have := hrw2.lt k hk; omega)
          have hcw6 : Chg (fun _ => False) w w6 := ((((hc1.trans HCH3.out (fun _ _ h => h)).trans hc5 (fun _ _ h => h))).trans hc6 (fun i hi h => by have := HCH3.out.size; have := hc1.size; omega))
          have hbs : w.heap.size ≤ wr.heap.size := Nat.le_trans hc1.size HCH3.out.size
          have hd6 : w6.heap[w.heap.size]? = some (.cells (rowB 32 (fun _ => 0)) 57 (0, 0)) := hc6.obj (hc5.obj (HCH3.out.obj ha1 (fun h => h)) (fun h => h)) (by have h1 := heap_lt ha1; have := HCH3.out.size; omega)
          have hdb : w.heap.size ≠ wr.heap.size := by have h1 := heap_lt ha1; have := HCH3.out.size; omega
          have HD6 := hid hd6
          clear hd6
          obtain ⟨bs, hbse⟩ : ∃ bs, bs = wr.heap.size := ⟨_, rfl⟩
          have hgbs : ∀ k, u3.ownBlock = some k → k < bs := fun k hk => by have := hrw2.lt k hk; omega
          rw [← hbse] at hb6 hbs hdb ⊢
          have HSUM : Hid (sumF f rest n = mixAll (tailL rest n).length f (tailL rest n)) := hid rfl
          generalize tailL rest n = l at hrw6 hTl hTs HSUM
          obtain ⟨g, cap, cur, fz, rfl, hg, hfz, hnc, hcm, hcs, htake⟩ := hrw6
          have hgb : g ≠ bs := by have := hgbs g rfl; omega
          have hcells : ∀ i (h : i < l.length), w6.cell? ⟨g, i, none⟩ = some (bv8 l[i]) := by
            intro i hi
            rw [cell_of hg]
            have h1 : (cur.toList.take l.length)[i]? = (l.map bv8)[i]? := by rw [htake]
            rw [List.getElem?_take, if_pos hi] at h1
            rw [← Array.getElem?_toList, h1]
            simp [List.getElem?_eq_getElem hi]
          have HCE := hid hcells
          have HCW := hid hcw6
          have HB6 := hid hb6
          clear hrw2 hcells hcw6 hb6 ha5 hs5 hc5 hs6 hc6 hg hfz hcs htake hgbs hbse HVO3 HCH3 HS1 HVO2 HCH H2
          go_loopw [3] (fun v wx => ∃ off m st a c cs5, off ≤ l.length ∧ off % 64 = 0 ∧ v = .slice (some a) (l.length - off) c ∧ (off < l.length → a = ⟨g, off, none⟩ ∧ c = cap - off) ∧ l.length - off ≤ m ∧ mixAll m st (l.drop off) = mixAll l.length f l ∧ StAt wx bs 178 cs5 st ∧ Chg (fun k => k = bs) w6 wx) (fun v _ => sliceLen v)
          case atStart => exact ⟨0, l.length, f, _, _, _, Nat.zero_le _, rfl, rfl, fun _ => ⟨rfl, rfl⟩, Nat.le_refl _, rfl, StAt.row HB6.out, Chg.refl _ _⟩
          case round =>
            obtain ⟨off, m, st, a, c, cs5, hoff, hmod, rfl, hac, hm, hmix, hst, hch⟩ := hrel
            by_cases hend : off = l.length
            · subst hend
              have hlz : (l.length : Int) - (l.length : Int) = 0 := by omega
              have hlz2 : l.length - l.length = 0 := by omega
              have hfst : st = mixAll l.length f l := by
                rw [← hmix]
                exact (mixAll_end m st (l.drop l.length) (by simp)).symm
              have hdig := digest_any wr bs _ cs5 st hst
              have HFS := hid hfst
              have HCH9 := hid hch
              clear hmix hst hch hfst
              go_wp2_with (first | (go_at_call 106; refine hdig.mono ?_; rintro e w8 ⟨rfl, hc8⟩; have hd8 := hc8.obj (HCH9.out.obj HD6.out hdb) (fun h => h)) | (refine wpList_store0 rfl 57 _ _ rfl w.heap.size (rowB 32 (fun _ => 0)) (rowB 32 (digB st)) rfl rfl hd8 (by rw [rowB_size]; exact size37) rfl (rowB_one _ _) ?_; intro w9 hb9 hs9 hc9))
              refine bodyPost_ret (v := .agg (rowB 32 (digB st))) ?_ rfl ⟨by rw [HSUM.out, HFS.out], ?_⟩
              · exact results_row Tryz.results66 _ _ w.heap.size rfl _ (run_loadVar_row _ w.heap.size 57 57 _ (0, 0) (.array 32 5) hb9 Tryz.underlying57 rfl (by rw [rowB_size]; kernel_rfl))
              · exact ((HCW.out.trans HCH9.out (fun i hi h => by omega)).trans hc8 (fun _ _ h => h)).trans hc9 (fun i hi h => by omega)
            · have hlt : off < l.length := by omega
              obtain ⟨rfl, rfl⟩ := hac hlt
              have h64 : 64 ≤ l.length - off := by omega
              have h64' : (0 : Int) < ((l.length - off : Nat) : Int) := by omega
              have h65 : (64 : Int) ≤ ((l.length - off : Nat) : Int) := by omega
              have h66 : (64 : Int) ≤ ((cap - off : Nat) : Int) := by omega
              obtain ⟨m', rfl⟩ : ∃ m', m = m' + 1 := ⟨m - 1, by omega⟩
              have hbl : ((l.drop off).take 64).length = 64 := by simp; omega
              obtain ⟨blk, hblk⟩ : ∃ blk : ByteArray, blk = ⟨((l.drop off).take 64).toArray⟩ := ⟨_, rfl⟩
              have hbks : blk.size = 64 := by rw [hblk]; exact hbl
              have hby : Lib.Bytes wr g off blk := by
                intro i hi
                have hi2 : off + i < l.length := by rw [hbks] at hi; omega
                rw [hch.cell (p := ⟨g, off + i, none⟩) (HCE.out (off + i) hi2) hgb]
                subst hblk
                show some (bv8 l[off + i]) = some (.int .u8 ((((l.drop off).take 64).toArray[i]'hi).toNat : Int))
                simp [bv8]
              have hcv := Lib.run_convert_whole (P := Tryz.prog) wr 125 5 9 Tryz.underlying125 Tryz.underlying5 Tryz.underlying9 g off blk hby (cap - off)
              rw [hbks] at hcv
              have hTx := words_chg HT.out (HCW.out.trans hch (fun i hi h => absurd h (by omega))) (fun h => h)
              have hmixc := mix_any blk hbks wr bs _ cs5 st hst hTx (by omega)
              have hnext : mixAll m' (mixR blk st) (l.drop (off + 64)) = mixAll l.length f l := by
                rw [← hmix]
                conv => rhs; unfold mixAll
                rw [if_neg (by simp; omega), hblk, List.drop_drop]
              have HNX := hid hnext
              have HCH9 := hid hch
              clear hmix hst hch hnext hblk hby hTx hac
              go_wp2_with (go_at_call 105; refine hmixc.mono ?_; rintro e w8 ⟨rfl, cs8, hS8, hs8, hr8, hc8⟩)
              all_goals
                refine ⟨⟨off + 64, by omega, by omega, m', mixR blk st, _, _, ⟨rfl, by omega, rfl⟩, fun h => ?_, by omega, HNX.out, ⟨_, hS8⟩, HCH9.out.trans hc8 (fun _ _ h => h)⟩, by simp [sliceLen]; omega⟩
                first | exact absurd h (by omega) | exact ⟨rfl, by omega⟩
    · have h56' : (((l.length % 64 : Nat) : Int) == 56) = false := by simp; omega
      go_wp2_with (at_builtin; go_loud (refine wpList_append1 rfl _ _ rfl hrw rfl 0 _ rfl _ _ rfl rfl (by omega) ?_; intro v3 w3 hrow3 hc3 hvo3))
      go_roundw
      case rel =>
        refine ⟨l ++ [0], hrow3, ?_, ?_, fun k hk => ?_, HCH.out.trans hc3 (fun i hi h => absurd (HVO2.out _ h) (by omega))⟩
        · rw [← HPAD.out]
          unfold padR
          rw [List.length_append, List.length_singleton, List.append_assoc, pad_next h56, List.replicate_succ]
          rfl
        · rw [List.length_append, List.length_singleton]
          have h1 := pad_next h56
          have h2 := remF_lt l.length
          have h3 := hll
          omega
        · rcases hvo3 k hk with h | h
          · exact HVO2.out _ h
          · exact Nat.le_trans HCH.out.size h
      case measure =>
        rw [hrow3.sl, hrw.sl, List.length_append, List.length_singleton]
        have := pad_next h56
        omega
end Go.Proofs.YthglfmacjoecgaaGreatDoor
namespace Go.Proofs.YthglfmacjoecgaaGreatDoor
open Go.RowKit

/-- The digest of texts one behind the other, byte by byte. -/
def ofB (ss : List ByteArray) : Nat → UInt8 := digB (sumF (addsR ss).1 (addsR ss).2.1 (addsR ss).2.2)

/-- Of with what its parts answer named: no walk looks into them. -/
structure OfParts (ss : List ByteArray) (f : Nat → Int) (r : ByteArray) (m : Int) (D : Nat → UInt8) : Prop where
  less : r.size < 64
  add : ∀ (w : World) (b : Nat) (g n c : Nat) (_ : n = ss.length) (_ : ss.length ≤ 1000) (_ : sumSize ss ≤ 140737488355328) (_ : ∀ i (h : i < ss.length), w.cell? ⟨g, i, none⟩ = some (.string ss[i])) (_ : g ≠ b)
    (_ : PressAt w b iv .empty 0) (_ : Lib.TabIs Tryz.prog w "apiary/stamp.words" .u32 wordsL) (_ : gWd ≠ b),
    Calls Tryz.prog 65 #[.pointer (some ⟨b, 0, none⟩), .slice (some ⟨g, 0, none⟩) n c] w
      (fun e w' => e = .returned (.pointer (some ⟨b, 0, none⟩)) ∧ PressAt w' b f r m ∧ Chg (fun k => k = b) w w')
  sum : ∀ (w : World) (b : Nat) (_ : PressAt w b f r m) (_ : Lib.TabIs Tryz.prog w "apiary/stamp.words" .u32 wordsL) (_ : gWd < w.heap.size),
    Calls Tryz.prog 66 #[.pointer (some ⟨b, 0, none⟩)] w (Rets (.agg (rowB 32 D)) (Chg (fun _ => False) w))
theorem ofParts (ss : List ByteArray) : OfParts ss (addsR ss).1 (addsR ss).2.1 (addsR ss).2.2 (ofB ss) :=
  ⟨addsR_less ss, fun w b g n c h1 h2 h3 h4 h5 h6 h7 h8 => sadd_any w b ss g n c h1 h2 h3 h4 h5 h6 h7 h8, fun w b h1 h2 h3 => ssum_any w b _ _ _ (addsR_less ss) h1 h2 h3⟩

set_option maxRecDepth 100000 in
set_option maxHeartbeats 1000000 in
theorem of_parts (w : World) (ss : List ByteArray) (g n c : Nat) (hn : n = ss.length) (hl : ss.length ≤ 1000) (hsz : sumSize ss ≤ 140737488355328) (hc : ∀ i (h : i < ss.length), w.cell? ⟨g, i, none⟩ = some (.string ss[i])) (hg : g < w.heap.size)
    (hT : Lib.TabIs Tryz.prog w "apiary/stamp.words" .u32 wordsL) (hgw : gWd < w.heap.size) (f : Nat → Int) (r : ByteArray) (m : Int) (D : Nat → UInt8) (hO : OfParts ss f r m D) :
    Calls Tryz.prog 28 #[.slice (some ⟨g, 0, none⟩) n c] w (Rets (.agg (rowB 32 D)) (Chg (fun _ => False) w)) := by
  have HC := hid hc
  have HT := hid hT
  have HO := hid hO
  clear hc hT hO
  go_enter Tryz.func28, Tryz.ntmps28
  go_wp2_with (first | (refine wpList_alloc0 rfl 57 rfl (rowB 32 (fun _ => 0)) (alloc37 _) ?_; intro w1 ha1 hs1 hc1; have HA1 := hid ha1; have HS1 := hid hs1; have HC1 := hid hc1; clear ha1 hs1 hc1) | (go_at_call 64; refine (snew_any _).mono ?_; rintro e w2 ⟨b, rfl, hb2, hP2, hc2⟩; have HC2 := hid (HC1.out.trans hc2 (fun _ _ h => h)); have HB2 := hid hb2; have HP2 := hid hP2; have HA2 := hid (hc2.obj HA1.out (fun h => h)); clear hb2 hP2 hc2))
  have hb0 : w.heap.size < b := by have h1 := HB2.out; have h2 := HS1.out; omega
  refine (HO.out.add w2 b g _ c rfl hl hsz (fun i hi => HC2.out.cell (HC.out i hi) (fun h => h)) (by omega) HP2.out (words_chg HT.out HC2.out (fun h => h)) (by omega)).mono ?_
  rintro e w3 ⟨rfl, hP3, hc3⟩
  have HC3 := hid (HC2.out.trans hc3 (fun i hi h => by omega))
  have HA3 := hid (hc3.obj HA2.out (by omega))
  have HP3 := hid hP3
  clear hc3 hP3
  have hsum := HO.out.sum w3 b HP3.out (words_chg HT.out HC3.out (fun h => h)) (Nat.lt_of_lt_of_le hgw HC3.out.size)
  go_wp2_with (first | (go_at_call 66; refine hsum.mono ?_; rintro e w4 ⟨rfl, hc4⟩; have HC4 := hid (HC3.out.trans hc4 (fun _ _ h => h)); have HA4 := hid (hc4.obj HA3.out (fun h => h)); clear hc4) | (refine wpList_store0 rfl 57 _ _ rfl w.heap.size (rowB 32 (fun _ => 0)) (rowB 32 D) rfl rfl HA4.out (by rw [rowB_size]; exact size37) rfl (rowB_one _ _) ?_; intro w5 hb5 hs5 hc5))
  refine bodyPost_ret (v := .agg (rowB 32 D)) ?_ rfl ⟨rfl, ?_⟩
  · exact results_row Tryz.results28 _ _ w.heap.size rfl _ (run_loadVar_row _ w.heap.size 57 57 _ (0, 0) (.array 32 5) hb5 Tryz.underlying57 rfl (by rw [rowB_size]; kernel_rfl))
  · exact HC4.out.trans hc5 (fun i hi h => by omega)

theorem of_any (w : World) (ss : List ByteArray) (g n c : Nat) (hn : n = ss.length) (hl : ss.length ≤ 1000) (hsz : sumSize ss ≤ 140737488355328) (hc : ∀ i (h : i < ss.length), w.cell? ⟨g, i, none⟩ = some (.string ss[i])) (hg : g < w.heap.size)
    (hT : Lib.TabIs Tryz.prog w "apiary/stamp.words" .u32 wordsL) (hgw : gWd < w.heap.size) :
    Calls Tryz.prog 28 #[.slice (some ⟨g, 0, none⟩) n c] w (Rets (.agg (rowB 32 (ofB ss))) (Chg (fun _ => False) w)) :=
  of_parts w ss g n c hn hl hsz hc hg hT hgw _ _ _ _ (ofParts ss)
end Go.Proofs.YthglfmacjoecgaaGreatDoor
namespace Go.Proofs.YthglfmacjoecgaaGreatDoor
open Go.RowKit

/-- A text's digest, as a text. -/
def hashS (s : ByteArray) : ByteArray := ⟨((List.range 32).map (ofB [s])).toArray⟩
theorem hashS_size (s : ByteArray) : (hashS s).size = 32 := by
  show (((List.range 32).map (ofB [s])).toArray).size = 32
  simp
theorem hashS_get (s : ByteArray) (i : Nat) (h : i < (hashS s).size) : (hashS s)[i] = ofB [s] i := by
  have h2 : i < 32 := by rw [hashS_size] at h; exact h
  have e : (hashS s).data[i]? = some (ofB [s] i) := by
    unfold hashS
    simp [h2]
  exact (Array.getElem?_eq_some_iff.1 e).2

set_option maxRecDepth 100000 in
set_option maxHeartbeats 2000000 in
theorem step_h : StepH hashS := by
  intro B w b v code inV at_ r p0 h hB hr h0 hat s hs1 hs2 hc hT
  have hc' : ((s[0].toNat : Nat) : Int) = 104 := by rw [hc]; rfl
  have htk : ∀ w : World, Calls Tryz.prog 96 #[.int .u8 104] w (Rets (.int .i64 1) (fun w' => w = w')) := fun w => takes_any 104 w
  have hpop := mpops h.drew hB 1 rfl (by omega) (by omega)
  have hs0 : (0 : Int) < s.size := by omega
  go_enter Tryz.func61, Tryz.ntmps61
  go_wp2_with (go_at_call 95; refine (number_any s _ (by unfold maxLen; omega)).mono ?_; rintro e w' ⟨rfl, rfl⟩)
  go_region_held3 (fun _ => True) (trivial) (first | (go_at_call 96; refine (htk _).mono ?_; rintro e w' ⟨rfl, rfl⟩) | (go_at_call 93; refine hpop.mono ?_; rintro e w1 ⟨lv, rfl, hch1, hlv, v1, hM1, hv1⟩))
  have c3 := hM1.cell3
  have f3 := frozen_of hM1.st.heap 3
  obtain ⟨g, cap, rfl, hcap, hgl⟩ := owns_some hlv (by decide)
  have hgw := (World.ownsRow.lt hlv g rfl).1
  have hgb : g ≠ b := by have := h.lt; simp at *; omega
  have e0 : w1.cell? ⟨g, 0, none⟩ = some (.string p0) := hlv.cellAt 0 (by omega)
  have hM2 := hM1.setAt (at_ + s.size)
  rw [Int.natCast_add] at hM2
  have k0 := ((Chg.refl (fun k => k = b) w1).setCell (p := ⟨b, 3, none⟩) (fun _ => rfl) (.int .i64 ((at_ : Int) + (s.size : Int)))).cell e0 hgb
  have hB3 : B ≤ (w1.setCell ⟨b, 3, none⟩ (.int .i64 ((at_ : Int) + (s.size : Int)))).heap.size := Nat.le_trans hB (by have := hch1.size; simpa [World.setCell] using this)
  have hW : Chg (fun k => B ≤ k) w (w1.setCell ⟨b, 3, none⟩ (.int .i64 ((at_ : Int) + (s.size : Int)))) := ((Chg.refl _ w).drew).trans (hch1.setCell (p := ⟨b, 3, none⟩) (fun _ => h.hb) _) (fun _ _ h => h)
  have HM2 := hid hM2
  have hM2' := hM2
  have HWW := hid hW
  have HB3 := hid hB3
  clear hW hB3 hM2 hch1 hlv hM1 hv1 hpop
  have hof : Calls Tryz.prog 28 #[.slice (some ⟨w1.heap.size, 0, none⟩) 1 1] ((w1.setCell ⟨b, 3, none⟩ (.int .i64 ((at_ : Int) + (s.size : Int)))).alloc (.cells #[.string p0] 9)) (Rets (.agg (rowB 32 (ofB [p0]))) (Chg (fun _ => False) ((w1.setCell ⟨b, 3, none⟩ (.int .i64 ((at_ : Int) + (s.size : Int)))).alloc (.cells #[.string p0] 9)))) := by
    have hT3 : TabsOK B ((w1.setCell ⟨b, 3, none⟩ (.int .i64 ((at_ : Int) + (s.size : Int)))).alloc (.cells #[.string p0] 9)) := hT.chg (HWW.out.alloc _)
    have hsz1 : (w1.setCell ⟨b, 3, none⟩ (.int .i64 ((at_ : Int) + (s.size : Int)))).heap.size = w1.heap.size := by simp [World.setCell]
    refine of_any _ [p0] _ 1 1 rfl (by simp) (by simp [sumSize]; omega) (fun i hi => ?_) (by simp) hT3.wds (Nat.lt_of_lt_of_le hT3.gw (Nat.le_trans HB3.out (by simp)))
    obtain rfl : i = 0 := by simpa using hi
    rw [← hsz1]
    exact (cell_of (heap_alloc_new _ _) 0).trans rfl
  have hM3 := hM2'.alloc (.cells #[.string p0] 9)
  have HM3 := hid hM3
  have hB4 : B ≤ ((w1.setCell ⟨b, 3, none⟩ (.int .i64 ((at_ : Int) + (s.size : Int)))).alloc (.cells #[.string p0] 9)).heap.size := Nat.le_trans HB3.out (by simp)
  have hW4 : Chg (fun k => B ≤ k) w ((w1.setCell ⟨b, 3, none⟩ (.int .i64 ((at_ : Int) + (s.size : Int)))).alloc (.cells #[.string p0] 9)) := HWW.out.alloc _
  have HB4 := hid hB4
  have HW4 := hid hW4
  clear hM3 hM2' hB4 hW4 HM2 HB3 HWW
  have hps := hashS_size p0
  have hpg := hid (hashS_get p0)
  obtain ⟨hp, hhp⟩ : ∃ hp, hp = hashS p0 := ⟨_, rfl⟩
  rw [← hhp] at hps
  have hpg : Hid (∀ i (h : i < hp.size), hp[i] = ofB [p0] i) := by
    subst hhp; exact hpg
  have HHP := hid hhp
  clear hhp
  generalize ofB [p0] = D at hof hpg
  go_wp2_with (first | (go_at_call 28; refine hof.mono ?_; rintro e w3 ⟨rfl, hc3⟩; have HC3 := hid hc3; clear hc3) | (refine wpList_alloc0 rfl 57 rfl (rowB 32 (fun _ => 0)) (alloc37 _) ?_; intro w4 ha4 hs4 hc4) | (refine wpList_store0 rfl 57 _ _ rfl w3.heap.size (rowB 32 (fun _ => 0)) (rowB 32 D) rfl rfl ha4 (by rw [rowB_size]; exact size37) rfl (rowB_one _ _) ?_; intro w5 hb5 hs5 hc5))
  go_frame
  have hc35 : Chg (fun _ => False) w3 w5 := hc4.trans hc5 (fun i hi h => by omega)
  have hc05 : Chg (fun _ => False) _ w5 := HC3.out.trans hc35 (fun _ _ h => h)
  have hM5 := HM3.out.chg hc05 (fun _ _ h => h)
  have hW5 : Chg (fun k => B ≤ k) w w5 := HW4.out.trans hc05 (fun _ _ h => h.elim)
  have hB5 : B ≤ w5.heap.size := Nat.le_trans HB4.out hc05.size
  have hby : Lib.Bytes w5 w3.heap.size 0 hp := by
    intro i hi
    rw [Nat.zero_add, rowB_cell hb5 i (by rw [hps] at hi; exact hi), hpg.out i hi]
  have hcvAll : ∀ W, Lib.Bytes W w3.heap.size 0 hp → (convert 125 9 (.slice (some ⟨w3.heap.size, 0, none⟩) 32 32)).run Tryz.prog W = .ok (.string hp) W := fun W hW => by
    have := Lib.run_convert_whole (P := Tryz.prog) W 125 5 9 Tryz.underlying125 Tryz.underlying5 Tryz.underlying9 w3.heap.size 0 hp hW 32
    rwa [hps] at this
  have hd5 : w3.heap.size < w5.heap.size := heap_lt hb5
  have hdb : w3.heap.size ≠ b ∧ v1.ownBlock ≠ some w3.heap.size := by
    have h1 := HM3.out.lt
    have h2 := HM3.out.own_lt
    have h3 := HC3.out.size
    exact ⟨by omega, fun e => by have := h2 _ e; omega⟩
  have hcvd := hcvAll w5.drew hby
  have hcva := hcvAll (w5.alloc (.cells #[.string hp] 9)).drew (fun i hi => cell_alloc_drew (hby i hi) _)
  have hcvp : ∀ w', Chg (fun k => k = b ∨ v1.ownBlock = some k) w5 w' → (convert 125 9 (.slice (some ⟨w3.heap.size, 0, none⟩) 32 32)).run Tryz.prog w' = .ok (.string hp) w' := fun w' hc => hcvAll w' (fun i hi => hc.cell (hby i hi) (fun h => h.elim hdb.1 hdb.2))
  have HP := hid hcvp
  clear hcvAll hcvp
  have hsz : ∀ x ∈ [hp], x.size ≤ maxLen := by
    unfold maxLen; intro x hx; simp at hx; subst hx; omega
  have hpush := mpush_drew hM5 hB5 [hp] (by simp) _ rfl w5.heap.size 1 1 rfl rfl hsz (by omega)
  have HW5 := hid hW5
  clear hc35 hc05 hM5 hW5 hby hpg hc4 hc5 hb5 ha4 hs4 hs5 HC3 HM3 HW4 HB4 hof
  go_region_held3 (fun w' => (convert 125 9 (.slice (some ⟨w3.heap.size, 0, none⟩) 32 32)).run Tryz.prog w' = .ok (.string hp) w') (first | exact hcvd | exact hcva | exact HP.out _ hch3) (first | (go_at_call 97; refine hpush.mono ?_; rintro e w' ⟨rfl, hch2, hch3, hM4⟩))
  go_wp2_with fail
  go_ret
  have ehp := HHP.out
  subst ehp
  exact ⟨rfl, HW5.out.trans hch2 (fun _ _ h => h), hM4⟩
end Go.Proofs.YthglfmacjoecgaaGreatDoor
