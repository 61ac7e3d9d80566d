/- stamp.schedule walked: the words of a block's rounds. -/
import Derived.Test.YtijiggolphppbaaGreatDoorStA
import Derived.Test.YtijiggolphppbaaGreatDoorBig
import Derived.Deep.MidRow
import Derived.Deep.RegionHeld3
namespace Go.Proofs.YtijiggolphppbaaGreatDoor
open Go.RowKit

/-- A row of n words. -/
def rowF (n : Nat) (f : Nat → Int) : Array Value := ((List.range n).map fun i => Value.int .u32 (f i)).toArray
def updF (f : Nat → Int) (t : Nat) (v : Int) : Nat → Int := fun i => if i = t then v else f i
theorem rowF_size (n : Nat) (f : Nat → Int) : (rowF n f).size = n := by simp [rowF]
theorem rowF_get (n : Nat) (f : Nat → Int) (i : Nat) (h : i < n) : (rowF n f)[i]? = some (.int .u32 (f i)) := by simp [rowF, h]
theorem rowF_set (n : Nat) (f : Nat → Int) (t : Nat) (v : Int) : (rowF n f).setIfInBounds t (.int .u32 v) = rowF n (updF f t v) := by
  apply Array.ext_getElem?
  intro i
  rw [Array.getElem?_setIfInBounds]
  by_cases h : i < n
  · rw [rowF_get n _ i h, rowF_get n _ i h, rowF_size]
    unfold updF
    by_cases e : t = i
    · subst e; simp [h]
    · rw [if_neg e, if_neg (fun h : i = t => e h.symm)]
  · have h1 : ∀ g, (rowF n g)[i]? = none := fun g => by rw [Array.getElem?_eq_none]; rw [rowF_size]; omega
    rw [h1, h1, rowF_size]
    by_cases e : t = i
    · subst e; simp [h]
    · simp [e]
theorem rowF_one (n : Nat) (f : Nat → Int) : (rowF n f).toList.all Value.oneCell' = true := by simp [rowF, List.all_eq_true]; intros; rfl
theorem rowF_congr {n : Nat} {f g : Nat → Int} (h : ∀ i, i < n → f i = g i) : rowF n f = rowF n g := by
  unfold rowF
  congr 1
  apply List.map_congr_left
  intro i hi
  rw [h i (List.mem_range.1 hi)]
theorem row_cell {w : World} {b n : Nat} {f : Nat → Int} {T : TypeId} {fz : Nat × Nat} (h : w.heap[b]? = some (.cells (rowF n f) T fz)) (i : Nat) (hi : i < n) : w.cell? ⟨b, i, none⟩ = some (.int .u32 (f i)) := by
  rw [cell_of h, rowF_get n f i hi]
theorem row_set {w : World} {b n : Nat} {f : Nat → Int} {T : TypeId} {fz : Nat × Nat} (h : w.heap[b]? = some (.cells (rowF n f) T fz)) (t : Nat) (v : Int) : (w.setCell ⟨b, t, none⟩ (.int .u32 v)).heap[b]? = some (.cells (rowF n (updF f t v)) T fz) := by
  rw [heap_set_same h, rowF_set]

def zc83 : Array Value := rowF 64 (fun _ => 0)
theorem alloc83 (w : World) : (Instr.alloc 422 true (.tuple #[])).run Tryz.prog w = .ok (.pointer (some ⟨w.heap.size, 0, none⟩)) (w.alloc (.cells zc83 422)) := by kernel_rfl

/-- A word of a block: its four bytes. -/
def wordB (block : ByteArray) (t : Nat) : Nat → Int
  | 0 => 0
  | j + 1 => bits .or .u32 (wordB block t j * 256 % 4294967296) ((block[4 * t + j]!).toNat)
def fW (block : ByteArray) (k : Nat) : Nat → Int := fun i => if i < k then wordB block i 4 else 0
theorem fW_first (block : ByteArray) (k i : Nat) : updF (fW block k) k (wordB block k 0) i = fW block k i := by
  unfold updF fW
  by_cases e : i = k
  · subst e; simp [wordB]
  · simp [e]
theorem fW_next (block : ByteArray) (k i : Nat) : updF (fW block k) k (wordB block k 4) i = fW block (k + 1) i := by
  unfold updF fW
  by_cases e : i = k
  · subst e; simp
  · rw [if_neg e]
    by_cases e2 : i < k
    · rw [if_pos e2, if_pos (by omega)]
    · rw [if_neg e2, if_neg (by omega)]
theorem updF_upd (f : Nat → Int) (t : Nat) (u v : Int) : updF (updF f t u) t v = updF f t v := by
  funext i
  unfold updF
  split <;> rfl
def sig (x : Int) (a b : Nat) (d : Int) : Int := bits .xor .u32 (turnedR x [a, b]) (x / d)
/-- The words of a block's rounds. -/
def schW (block : ByteArray) (i : Nat) : Int :=
  if _ : i < 16 then wordB block i 4
  else IntKind.u32.wrap (IntKind.u32.wrap (IntKind.u32.wrap (sig (schW block (i - 2)) 17 19 1024 + schW block (i - 7)) + sig (schW block (i - 15)) 7 18 8) + schW block (i - 16))
termination_by i
decreasing_by all_goals omega

theorem cell_alloc' {W : World} {a : Addr} {u : Value} (h : W.cell? a = some u) (o : Obj) : (W.alloc o).cell? a = some u :=
  ((Chg.refl (fun _ => False) W).alloc o).cell h (fun h => h)
theorem cell_set' {W : World} {b i j : Nat} {u : Value} (h : W.cell? ⟨b, i, none⟩ = some u) (hne : i ≠ j) (v : Value) : (W.setCell ⟨b, j, none⟩ v).cell? ⟨b, i, none⟩ = some u := by
  rw [World.cell?_setCell_other _ _ _ _ (by intro e; simp only [Addr.mk.injEq] at e; omega), h]
theorem newcell (W : World) (arr : Array Value) (T : TypeId) (i : Nat) (v : Value) (h : arr[i]? = some v) : (W.alloc (.cells arr T)).cell? ⟨W.heap.size, i, none⟩ = some v := (cell_of (heap_alloc_new W _) i).trans h
theorem newcell1 (W : World) (o : Obj) (arr : Array Value) (T : TypeId) (i : Nat) (v : Value) (h : arr[i]? = some v) : ((W.alloc o).alloc (.cells arr T)).cell? ⟨W.heap.size + 1, i, none⟩ = some v := by
  have := newcell (W.alloc o) arr T i v h
  rw [show (W.alloc o).heap.size = W.heap.size + 1 by simp] at this
  exact this
theorem cell_drew' {W : World} {a : Addr} {u : Value} (h : W.cell? a = some u) : W.drew.cell? a = some u := h
theorem newcellD (W : World) (arr : Array Value) (T : TypeId) (i : Nat) (v : Value) (h : arr[i]? = some v) : (W.alloc (.cells arr T)).drew.cell? ⟨W.heap.size, i, none⟩ = some v := newcell W arr T i v h
theorem newcellE (W : World) (o : Obj) (arr : Array Value) (T : TypeId) (i : Nat) (v : Value) (h : arr[i]? = some v) : ((W.alloc (.cells arr T)).alloc o).drew.cell? ⟨W.heap.size, i, none⟩ = some v := cell_alloc' (newcell W arr T i v h) o
theorem newcellF (W : World) (o : Obj) (arr : Array Value) (T : TypeId) (i : Nat) (v : Value) (h : arr[i]? = some v) : ((W.alloc o).alloc (.cells arr T)).drew.cell? ⟨W.heap.size + 1, i, none⟩ = some v := newcell1 W o arr T i v h
theorem sturned2 (x a b : Int) (g : Nat) (W : World) (a0 : W.cell? ⟨g, 0, none⟩ = some (.int .i64 a)) (a1 : W.cell? ⟨g, 1, none⟩ = some (.int .i64 b)) (h : (1 ≤ a ∧ a ≤ 31) ∧ 1 ≤ b ∧ b ≤ 31) :
    Calls Tryz.prog 302 #[.int .u32 x, .slice (some ⟨g, 0, none⟩) 2 2] W (Rets (.int .u32 (turnedR x [a.toNat, b.toNat])) (fun w' => W = w')) :=
  sturned_any _ [a.toNat, b.toNat] (by intro n hn; simp at hn; rcases hn with rfl | rfl <;> omega) g 2 2 rfl (by simp) W (fun i hi => match i, hi with
    | 0, _ => by rw [a0]; congr 2; simp; omega
    | 1, _ => by rw [a1]; congr 2; simp; omega)
theorem size83 (w : World) : (sizeOf 422).run Tryz.prog w = .ok 64 w := by kernel_rfl
section
variable {P : Program} {w : World} {ops : Array Oper} {rest : List Oper} {o : Oper} {a : Act} {Q : Exit → Act → World → Prop}
theorem wpList_load0 (hg : o.guard = none) (t : TypeId) (x : Operand) (hop : o.op = Op.load t x) (b : Nat) (cs : Array Value) (d : TypeDesc) (hx : a.eval x = .pointer (some ⟨b, 0, none⟩)) {T : TypeId} {fz : Nat × Nat} (hb : w.heap[b]? = some (.cells cs T fz))
    (hu : P.underlying t = some d) (hd : (match d with | .struct _ | .array _ _ => true | _ => false) = true) (hi : (P.info? t).map (·.size) = some cs.size)
    (h : wpList P ops Q rest (a.put o.dst (.agg cs)) w) : wpList P ops Q (o :: rest) a w := by
  refine wpList_plain hg fun K' hK' => ?_
  unfold Oper.wp
  simp only [execOp, hop, hx, Instr.loadAt, Instr.sureAddr, Sem.run_bind, Sem.run_pure, Result.andThen_ok, run_loadVar_row w b T t cs fz d hb hu hd hi, Oper.upon]
  exact hK' _ _ h
end
theorem results_row {P : Program} {fn : Func} {p : Tmp} {ty : TypeId} (h : fn.results = #[.cell p ty]) (tmps : Array Value) (w : World) (b : Nat) (hp : tmps.getD p undef = .pointer (some ⟨b, 0, none⟩)) (cs : Array Value) (hl : (loadVar ty ⟨b, 0, none⟩).run P w = .ok (.agg cs) w) :
    (results fn tmps).run P w = .ok (.agg cs) w := by
  rw [Array.getD_eq_getD_getElem?] at hp
  simp only [results, h]
  simp [hp, asAddr, hl]
def gW (block : ByteArray) (k : Nat) : Nat → Int := fun i => if i < k then schW block i else 0
theorem gW_first (block : ByteArray) (i : Nat) : fW block 16 i = gW block 16 i := by
  unfold fW gW
  by_cases e : i < 16
  · rw [if_pos e, if_pos e, schW, dif_pos e]
  · rw [if_neg e, if_neg e]
theorem gW_old (block : ByteArray) (k i : Nat) (h : i < k) : gW block k i = schW block i := if_pos h
theorem gW_next (block : ByteArray) (k i : Nat) : updF (gW block k) k (schW block k) i = gW block (k + 1) i := by
  unfold updF gW
  by_cases e : i = k
  · subst e; rw [if_pos rfl, if_pos (by omega)]
  · rw [if_neg e]
    by_cases e2 : i < k
    · rw [if_pos e2, if_pos (by omega)]
    · rw [if_neg e2, if_neg (by omega)]

set_option maxRecDepth 100000 in
set_option maxHeartbeats 4000000 in
theorem schedule_any (block : ByteArray) (hs : block.size = 64) (w : World) :
    Calls Tryz.prog 301 #[.string block] w (Rets (.agg (rowF 64 (schW block))) (Chg (fun _ => False) w)) := by
  go_enter Tryz.func301, Tryz.ntmps301
  go_wp2_with (refine wpList_alloc0 rfl 422 rfl zc83 (alloc83 _) ?_; intro w1 ha1 hs1 hc1)
  obtain ⟨b, hb⟩ : ∃ b, b = w.heap.size := ⟨_, rfl⟩
  rw [← hb] at ha1 hs1 ⊢
  have HBE := hid hb
  clear hb
  go_loopw [7] (fun i wr => ∃ k : Nat, k ≤ 16 ∧ i = .int .i64 k ∧ wr.heap[b]? = some (.cells (rowF 64 (fW block k)) 422 (0, 0)) ∧ Chg (fun k => k = b) w1 wr) (fun i _ => 16 - (intOf i).toNat)
  case atStart => exact ⟨0, Nat.zero_le _, rfl, by rw [ha1]; rfl, Chg.refl _ _⟩
  case round =>
    obtain ⟨k, hk, rfl, hblk, hch⟩ := hrel
    have HC := hid hch
    have HB := hid hblk
    clear hch hblk
    by_cases hkn : k < 16
    · have hkn' : (k : Int) < 16 := by omega
      have hw1 : IntKind.i64.wrap (4 * (k : Int)) = 4 * (k : Int) := IntWalk.i64_in _ (by omega)
      have hw2 : IntKind.i64.wrap (4 * (k : Int) + 4) = 4 * (k : Int) + 4 := IntWalk.i64_in _ (by omega)
      have hle1 : (0 : Int) ≤ 4 * (k : Int) + 4 := by omega
      have hle2 : 4 * (k : Int) + 4 ≤ 64 := by omega
      have hs' : (block.size : Int) = 64 := by omega
      have ht1 : (4 * (k : Int)).toNat = 4 * k := by omega
      have ht2 : (4 * (k : Int) + 4).toNat = 4 * k + 4 := by omega
      obtain ⟨wc, cap, hconv, hcell, hfz, hchc, hszc, hcap⟩ := conv_bytes (P := Tryz.prog) 9 130 5 Tryz.underlying9 Tryz.underlying130 Tryz.underlying5 wr (block.extract (4 * k) (4 * k + 4))
      have hes : (block.extract (4 * k) (4 * k + 4)).size = 4 := by simp; omega
      have HX := hid hcell
      have HF := hid hfz
      have HCC := hid hchc
      clear hcell hfz hchc hcap
      have hbw : b < wr.heap.size := heap_lt HB.out
      have hBc := HCC.out.obj HB.out (fun h => h)
      have hBu : wc.heap[b]? = some (.cells (rowF 64 (updF (fW block k) k (wordB block k 0))) 422 (0, 0)) := by
        rw [hBc]
        exact congrArg (fun x => some (Obj.cells x _ _)) (rowF_congr fun i _ => (fW_first block k i).symm)
      have HBU := hid hBu
      clear hBc hBu hszc
      go_wp2_with fail
      obtain ⟨wo, hwo⟩ : ∃ wo : World, wo = wr := ⟨_, rfl⟩
      rw [← hwo] at HB HC HCC HX HF hconv hbw ⊢
      clear hwo
      go_loopw [19] (fun i wx => ∃ j : Nat, j ≤ 4 ∧ i = .int .i64 j ∧ wx.heap[b]? = some (.cells (rowF 64 (updF (fW block k) k (wordB block k j))) 422 (0, 0)) ∧ Chg (fun k => k = b) wc wx) (fun i _ => 4 - (intOf i).toNat)
      case atStart => exact ⟨0, Nat.zero_le _, rfl, HBU.out, Chg.refl _ _⟩
      case round =>
        obtain ⟨j, hj, rfl, hbx, hchx⟩ := hrel
        by_cases hjn : j < 4
        · have hjn' : (j : Int) < 4 := by omega
          have cB := row_cell hbx k (by omega)
          have fB := frozen_of hbx k
          have hbj : (block.extract (4 * k) (4 * k + 4))[j]'(by omega) = block[4 * k + j]! := by
            rw [getElem!_pos block (4 * k + j) (by omega)]; simp [ByteArray.getElem_extract]
          have cX : wr.cell? ⟨wo.heap.size, j, none⟩ = some (.int .u8 (block[4 * k + j]!).toNat) := by
            rw [← hbj]
            exact hchx.cell (p := ⟨wo.heap.size, j, none⟩) (HX.out j (by omega)) (by show ¬ wo.heap.size = b; omega)
          have hlt := (block[4 * k + j]!).toNat_lt
          have hwb : IntKind.u32.wrap ((block[4 * k + j]!).toNat : Int) = (block[4 * k + j]!).toNat := by rw [IntKind.wrap_u32]; omega
          have HBX := hid hbx
          have HCX := hid hchx
          clear hbx hchx
          have uk : updF (fW block k) k (wordB block k j) k = wordB block k j := by unfold updF; rw [if_pos rfl]
          rw [uk] at cB
          clear hbj uk
          go_wp2_with fail
          go_roundw
          case rel =>
            refine ⟨j + 1, by omega, by go_num, ?_, HCX.out.setCell (p := ⟨b, k, none⟩) (fun _ => rfl) _⟩
            rw [row_set HBX.out, updF_upd]
            rfl
          case measure => simp [intOf]; omega
        · obtain rfl : j = 4 := by omega
          go_wp2_with fail
          go_roundw
          case rel =>
            refine ⟨k + 1, by omega, by go_num, ?_, (HC.out.trans HCC.out (fun _ _ h => h.elim)).trans hchx (fun _ _ h => h)⟩
            · rw [hbx]
              exact congrArg (fun x => some (Obj.cells x _ _)) (rowF_congr fun i _ => fW_next block k i)
          case measure => simp [intOf]; omega
    · obtain rfl : k = 16 := by omega
      go_wp2_with fail
      obtain ⟨wo, hwo⟩ : ∃ wo : World, wo = wr := ⟨_, rfl⟩
      rw [← hwo] at HB HC ⊢
      clear hwo
      go_loopw [6] (fun i wx => ∃ k : Nat, 16 ≤ k ∧ k ≤ 64 ∧ i = .int .i64 k ∧ wx.heap[b]? = some (.cells (rowF 64 (gW block k)) 422 (0, 0)) ∧ Chg (fun k => k = b) wo wx) (fun i _ => 64 - (intOf i).toNat)
      case atStart => exact ⟨16, by decide, by decide, rfl, by rw [HB.out]; exact congrArg (fun x => some (Obj.cells x _ _)) (rowF_congr fun i _ => gW_first block i), Chg.refl _ _⟩
      case round =>
        obtain ⟨k, hk16, hk, rfl, hbx, hchx⟩ := hrel
        by_cases hkn : k < 64
        · have hkn' : (k : Int) < 64 := by omega
          obtain ⟨i2, e2⟩ : ∃ i : Nat, i = k - 2 := ⟨_, rfl⟩
          obtain ⟨i7, e7⟩ : ∃ i : Nat, i = k - 7 := ⟨_, rfl⟩
          obtain ⟨i15, e15⟩ : ∃ i : Nat, i = k - 15 := ⟨_, rfl⟩
          obtain ⟨i16, e16⟩ : ∃ i : Nat, i = k - 16 := ⟨_, rfl⟩
          have c2 := row_cell hbx i2 (by omega)
          have c7 := row_cell hbx i7 (by omega)
          have c15 := row_cell hbx i15 (by omega)
          have c16 := row_cell hbx i16 (by omega)
          have ck := row_cell hbx k (by omega)
          have fk := frozen_of hbx k
          rw [gW_old block k i2 (by omega)] at c2
          rw [gW_old block k i7 (by omega)] at c7
          rw [gW_old block k i15 (by omega)] at c15
          rw [gW_old block k i16 (by omega)] at c16
          have w2 : IntKind.i64.wrap ((k : Int) - 2) = (i2 : Int) := by rw [IntWalk.i64_in _ (by omega)]; omega
          have w7 : IntKind.i64.wrap ((k : Int) - 7) = (i7 : Int) := by rw [IntWalk.i64_in _ (by omega)]; omega
          have w15 : IntKind.i64.wrap ((k : Int) - 15) = (i15 : Int) := by rw [IntWalk.i64_in _ (by omega)]; omega
          have w16 : IntKind.i64.wrap ((k : Int) - 16) = (i16 : Int) := by rw [IntWalk.i64_in _ (by omega)]; omega
          have l2 : (i2 : Int) < 64 := by omega
          have l7 : (i7 : Int) < 64 := by omega
          have l15 : (i15 : Int) < 64 := by omega
          have l16 : (i16 : Int) < 64 := by omega
          have n2 : i2 ≠ k := by omega
          have n7 : i7 ≠ k := by omega
          have n15 : i15 ≠ k := by omega
          have n16 : i16 ≠ k := by omega
          have HE : Hid (schW block k = IntKind.u32.wrap (IntKind.u32.wrap (IntKind.u32.wrap (sig (schW block i2) 17 19 1024 + schW block i7) + sig (schW block i15) 7 18 8) + schW block i16)) := by
            show _ = _
            rw [e2, e7, e15, e16]
            conv => lhs; rw [schW, dif_neg (by omega)]
          clear e2 e7 e15 e16
          have HBX := hid hbx
          have HCX := hid hchx
          have hbl : b < wr.heap.size := heap_lt hbx
          clear hbx hchx
          generalize schW block i2 = x2 at c2 HE
          generalize schW block i7 = x7 at c7 HE
          generalize schW block i15 = x15 at c15 HE
          generalize schW block i16 = x16 at c16 HE
          go_wp2_with fail
          go_region_held3 (fun w' => w'.cell? ⟨b, i2, none⟩ = some (.int .u32 x2) ∧ w'.cell? ⟨b, i7, none⟩ = some (.int .u32 x7) ∧ w'.cell? ⟨b, i15, none⟩ = some (.int .u32 x15) ∧ w'.cell? ⟨b, i16, none⟩ = some (.int .u32 x16)) (refine ⟨?_, ?_, ?_, ?_⟩ <;> (repeat' (first | with_reducible assumption | with_reducible (apply cell_alloc') | with_reducible (apply cell_drew') | with_reducible (refine cell_set' ?_ (by assumption) _)))) (first | (go_at_call 302; refine (sturned2 _ _ _ _ _ (by first | with_reducible exact newcellD wr _ _ _ _ rfl | with_reducible exact newcellE wr _ _ _ _ _ rfl | with_reducible exact newcellF wr _ _ _ _ _ rfl) (by first | with_reducible exact newcellD wr _ _ _ _ rfl | with_reducible exact newcellE wr _ _ _ _ _ rfl | with_reducible exact newcellF wr _ _ _ _ _ rfl) (by decide)).mono ?_; rintro e w' ⟨rfl, rfl⟩))
          all_goals
            go_wp2_with fail
            go_roundw
            case rel =>
              (repeat apply Exists.intro)
              refine ⟨⟨k + 1, by omega, by omega, by go_num, ?_, (((HCX.out.setCell (p := ⟨b, k, none⟩) (fun _ => rfl) _).alloc _).alloc _).drew⟩, rfl⟩
              refine (heap_alloc_old' (heap_alloc_old' (row_set HBX.out k _) _) _).trans ?_
              rw [← rowF_congr (fun i _ => gW_next block k i), HE.out]
              rfl
            case measure => simp [intOf]; omega
        · obtain rfl : k = 64 := by omega
          have hfin : wr.heap[b]? = some (.cells (rowF 64 (schW block)) 422 (0, 0)) := by
            rw [hbx]; exact congrArg (fun x => some (Obj.cells x _ _)) (rowF_congr fun i hi => gW_old block 64 i hi)
          have HFI := hid hfin
          have HCX := hid hchx
          clear hbx hchx hfin
          go_wp2_with (first | (refine wpList_load0 rfl 422 _ rfl b (rowF 64 (schW block)) (.array 64 345) rfl HFI.out Tryz.underlying422 rfl (by rw [rowF_size]; kernel_rfl) ?_) | (refine wpList_store0 rfl 422 _ _ rfl b (rowF 64 (schW block)) (rowF 64 (schW block)) rfl rfl HFI.out (by rw [rowF_size]; exact size83) rfl (rowF_one _ _) ?_; intro w5 hb5 hs5 hc5))
          refine bodyPost_ret (v := .agg (rowF 64 (schW block))) ?_ rfl ⟨rfl, ?_⟩
          · refine results_row Tryz.results301 _ _ b rfl _ (run_loadVar_row _ b 422 422 _ (0, 0) (.array 64 345) hb5 Tryz.underlying422 rfl (by rw [rowF_size]; kernel_rfl))
          · have h1 : Chg (fun k => k = b) w1 w5 := ((HC.out.trans HCX.out (fun _ _ h => h)).trans hc5 (fun _ _ h => h))
            exact hc1.trans h1 (fun i hi h => by have := HBE.out; omega)
end Go.Proofs.YtijiggolphppbaaGreatDoor
