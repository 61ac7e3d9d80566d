/- Texts of the proof, one behind the other: (*stamp.state).mix walked: the state behind a block; stamp.begun, New, (*state).digest walked; sap.Num walked: a number's bytes; recipe.IsName, areNames walked. -/
import Derived.Test.YthglfmacjoecgaaGreatDoorMg02
import Derived.BigQuiet
import Derived.Lib.LaidTab
import Derived.Test.YthglfmacjoecgaaGreatDoorMg01
import Derived.Lib.SlBytesRow
import Derived.Deep.RegionHeld3
import Derived.Deep.DeepCutAuto
import Derived.Laws.BitsAllLaws
import Derived.Test.YthglfmacjoecgaaGreatDoorShelf
import Derived.Shelf.Strings.SlTrimAscii
namespace Go.Proofs.YthglfmacjoecgaaGreatDoor
open Go.RowKit

/-- A block whose first eight cells are a state's words. -/
structure StAt (w : World) (b : Nat) (T : TypeId) (cs : Array Value) (f : Nat → Int) : Prop where
  heap : w.heap[b]? = some (.cells cs T (0, 0))
  word : ∀ i, i < 8 → cs[i]? = some (.int .u32 (f i))
theorem StAt.cell {w : World} {b : Nat} {T : TypeId} {cs : Array Value} {f : Nat → Int} (h : StAt w b T cs f) (i : Nat) (hi : i < 8) : w.cell? ⟨b, i, none⟩ = some (.int .u32 (f i)) := by rw [cell_of h.heap, h.word i hi]
theorem StAt.row {w : World} {b : Nat} {T : TypeId} {f : Nat → Int} (h : w.heap[b]? = some (.cells (rowF 8 f) T (0, 0))) : StAt w b T (rowF 8 f) f := ⟨h, fun i hi => rowF_get 8 f i hi⟩
theorem StAt.set {w : World} {b : Nat} {T : TypeId} {cs : Array Value} {f : Nat → Int} (h : StAt w b T cs f) (t : Nat) (v : Int) : StAt (w.setCell ⟨b, t, none⟩ (.int .u32 v)) b T (cs.setIfInBounds t (.int .u32 v)) (updF f t v) := by
  refine ⟨heap_set_same h.heap t _, fun i hi => ?_⟩
  rw [Array.getElem?_setIfInBounds]
  unfold updF
  have hs : i < cs.size := (Array.getElem?_eq_some_iff.1 (h.word i hi)).1
  by_cases e : t = i
  · subst e; rw [if_pos rfl, if_pos hs, if_pos rfl]
  · rw [if_neg e, if_neg (fun h => e h.symm)]; exact h.word i hi

theorem StAt.drew {w : World} {b : Nat} {T : TypeId} {cs : Array Value} {f : Nat → Int} (h : StAt w b T cs f) : StAt w.drew b T cs f := ⟨h.heap, h.word⟩
theorem StAt.congr {w : World} {b : Nat} {T : TypeId} {cs : Array Value} {f g : Nat → Int} (h : StAt w b T cs f) (hfg : ∀ i, i < 8 → f i = g i) : StAt w b T cs g := ⟨h.heap, fun i hi => by rw [h.word i hi, hfg i hi]⟩
def ch (e f g : Int) : Int := bits .xor .u32 (bits .and .u32 e f) (bits .and .u32 (bits .xor .u32 IntKind.u32.max e) g)
def maj (a b c : Int) : Int := bits .xor .u32 (bits .xor .u32 (bits .and .u32 a b) (bits .and .u32 a c)) (bits .and .u32 b c)
def t1R (g : Nat → Int) (k wt : Int) : Int := IntKind.u32.wrap (IntKind.u32.wrap (IntKind.u32.wrap (IntKind.u32.wrap (g 7 + turnedR (g 4) [6, 11, 25]) + ch (g 4) (g 5) (g 6)) + k) + wt)
def t2R (g : Nat → Int) : Int := IntKind.u32.wrap (turnedR (g 0) [2, 13, 22] + maj (g 0) (g 1) (g 2))
/-- A round. -/
def roundF (g : Nat → Int) (k wt : Int) : Nat → Int
  | 0 => IntKind.u32.wrap (t1R g k wt + t2R g)
  | 4 => IntKind.u32.wrap (g 3 + t1R g k wt)
  | n + 1 => g n
def wordsL : List Int := [1116352408, 1899447441, 3049323471, 3921009573, 961987163, 1508970993, 2453635748, 2870763221, 3624381080, 310598401, 607225278, 1426881987, 1925078388, 2162078206, 2614888103, 3248222580, 3835390401, 4022224774, 264347078, 604807628, 770255983, 1249150122, 1555081692, 1996064986, 2554220882, 2821834349, 2952996808, 3210313671, 3336571891, 3584528711, 113926993, 338241895, 666307205, 773529912, 1294757372, 1396182291, 1695183700, 1986661051, 2177026350, 2456956037, 2730485921, 2820302411, 3259730800, 3345764771, 3516065817, 3600352804, 4094571909, 275423344, 430227734, 506948616, 659060556, 883997877, 958139571, 1322822218, 1537002063, 1747873779, 1955562222, 2024104815, 2227730452, 2361852424, 2428436474, 2756734187, 3204031479, 3329325298]
def rounds (block : ByteArray) (f : Nat → Int) : Nat → Nat → Int
  | 0 => f
  | k + 1 => roundF (rounds block f k) (wordsL.getD k 0) (schW block k)
/-- The state behind a block. -/
def mixR (block : ByteArray) (f : Nat → Int) : Nat → Int := fun i => IntKind.u32.wrap (f i + rounds block f 64 i)

theorem alloc74 (w : World) : (Instr.alloc 178 true (.tuple #[])).run Tryz.prog w = .ok (.pointer (some ⟨w.heap.size, 0, none⟩)) (w.alloc (.cells (rowF 8 (fun _ => 0)) 178)) := by kernel_rfl
theorem size74 (w : World) : (sizeOf 178).run Tryz.prog w = .ok 8 w := by kernel_rfl
section
variable {P : Program} {w : World} {ops : Array Oper} {rest : List Oper} {o : Oper} {a : Act} {Q : Exit → Act → World → Prop}
theorem wpList_loadst (hgd : o.guard = none) (ty : TypeId) (x : Operand) (ho : o.op = .load ty x)
    (b : Nat) (hx : a.eval x = .pointer (some ⟨b, 0, none⟩)) (cs : Array Value) (d : TypeDesc) (hc : w.rangeAt b 0 cs.toList)
    (hu : P.underlying ty = some d) (hd : d.isRow = true) (hi : (P.info? ty).map (·.size) = some cs.size)
    (h : wpList P ops Q rest (a.put o.dst (.agg cs)) w) : wpList P ops Q (o :: rest) a w :=
  wpList_load_mid hgd ty x ho b 0 hx cs.toList d hc hu hd (by simpa using hi) (by simpa using h)
end
theorem StAt.range {w : World} {b : Nat} {T : TypeId} {cs : Array Value} {f : Nat → Int} (h : StAt w b T cs f) : w.rangeAt b 0 (rowF 8 f).toList := by
  intro j v hj
  have hj' : (rowF 8 f)[j]? = some v := by simpa using hj
  have h8 : j < 8 := by have := (Array.getElem?_eq_some_iff.1 hj').1; rwa [rowF_size] at this
  rw [Nat.zero_add, h.cell j h8, ← rowF_get 8 f j h8, hj']

theorem sturned3 (x a b c : Int) (g : Nat) (W : World) (a0 : W.cell? ⟨g, 0, none⟩ = some (.int .i64 a)) (a1 : W.cell? ⟨g, 1, none⟩ = some (.int .i64 b)) (a2 : W.cell? ⟨g, 2, none⟩ = some (.int .i64 c)) (h : (1 ≤ a ∧ a ≤ 31) ∧ (1 ≤ b ∧ b ≤ 31) ∧ 1 ≤ c ∧ c ≤ 31) :
    Calls Tryz.prog 127 #[.int .u32 x, .slice (some ⟨g, 0, none⟩) 3 3] W (Rets (.int .u32 (turnedR x [a.toNat, b.toNat, c.toNat])) (fun w' => W = w')) :=
  sturned_any _ [a.toNat, b.toNat, c.toNat] (by intro n hn; simp at hn; rcases hn with rfl | rfl | rfl <;> omega) g 3 3 rfl (by simp) W (fun i hi => match i, hi with
    | 0, _ => by rw [a0]; congr 2; simp; omega
    | 1, _ => by rw [a1]; congr 2; simp; omega
    | 2, _ => by rw [a2]; congr 2; simp; omega)
theorem index64 (f : Nat → Int) (k : Nat) (hk : k < 64) (W : World) : (Instr.index 184 (.agg (rowF 64 f)) (.int .i64 k)).run Tryz.prog W = .ok (.int .u32 (f k)) W := by
  have h := rowF_get 64 f k hk
  simp [Instr.index, asIntOf, run_underlying Tryz.underlying184, Tryz.sizeOf176, Tryz.isAgg176, part, h]
  intro h64; omega
theorem wp_gen {P : Program} {c : Code} {Q : Exit → Act → World → Prop} {a : Act} {w : World} (R : World → Prop) (h : R w) (k : ∀ W, R W → Code.wp P c Q a W) : Code.wp P c Q a w := k w h
theorem w_gen {X : World → Prop} {w : World} (R : World → Prop) (h : R w) (k : ∀ W, R W → X W) : X w := k w h
def updL (f : Nat → Int) : Nat → List Int → Nat → Int
  | _, [] => f
  | o, v :: r => updL (updF f o v) (o + 1) r
theorem setCells_row {b n : Nat} {T : TypeId} {fz : Nat × Nat} : ∀ {w : World} {f : Nat → Int} (_ : w.heap[b]? = some (.cells (rowF n f) T fz)) (o : Nat) (vs : List Int), (w.setCells b o (vs.map (Value.int .u32))).heap[b]? = some (.cells (rowF n (updL f o vs)) T fz)
  | _, _, h, _, [] => h
  | _, _, h, o, v :: r => setCells_row (row_set h o v) (o + 1) r
theorem setCells_chg (b : Nat) : ∀ (w : World) (o : Nat) (vs : List Value), Chg (fun k => k = b) w (w.setCells b o vs)
  | w, _, [] => Chg.refl _ w
  | w, o, v :: r => by
    have h1 : Chg (fun k => k = b) w (w.setCell ⟨b, o, none⟩ v) := (Chg.refl (fun k => k = b) w).setCell (p := ⟨b, o, none⟩) (fun _ => rfl) v
    exact h1.trans (setCells_chg b _ (o + 1) r) (fun _ _ h => h)
def gWd : Nat := 0
theorem wdG : Tryz.prog.globalNamed "apiary/stamp.words" = some gWd := by kernel_rfl
theorem words_cell {w : World} (h : Lib.TabIs Tryz.prog w "apiary/stamp.words" .u32 wordsL) (k : Nat) (hk : k < 64) : w.cell? ⟨0, k, none⟩ = some (.int .u32 (wordsL.getD k 0)) := h.cell wdG k (by exact hk)

set_option maxRecDepth 100000 in
set_option maxHeartbeats 4000000 in
theorem mix_any (block : ByteArray) (hs : block.size = 64) (w : World) (b : Nat) (T : TypeId) (cs : Array Value) (f : Nat → Int) (hS : StAt w b T cs f) (hT : Lib.TabIs Tryz.prog w "apiary/stamp.words" .u32 wordsL) (_ : gWd ≠ b) :
    Calls Tryz.prog 105 #[.pointer (some ⟨b, 0, none⟩), .string block] w (fun e w' => e = .returned (.tuple #[]) ∧ ∃ cs', StAt w' b T cs' (mixR block f) ∧ cs'.size = cs.size ∧ (∀ i, 8 ≤ i → cs'[i]? = cs[i]?) ∧ Chg (fun k => k = b) w w') := by
  have HS := hid hS
  have HT := hid hT
  have hbw := heap_lt hS.heap
  clear hS hT
  go_enter Tryz.func105, Tryz.ntmps105
  go_wp2_with (first | (refine wpList_loadst rfl 178 _ rfl b rfl (rowF 8 f) (.array 8 176) HS.out.range Tryz.underlying178 rfl (by rw [rowF_size]; kernel_rfl) ?_) | (refine wpList_alloc0 rfl 178 rfl (rowF 8 (fun _ => 0)) (alloc74 _) ?_; intro w1 ha1 hs1 hc1) | (refine wpList_store0 rfl 178 _ _ rfl w.heap.size (rowF 8 (fun _ => 0)) (rowF 8 f) rfl rfl ha1 (by rw [rowF_size]; exact size74) rfl (rowF_one _ _) ?_; intro w2 hb2 hs2 hc2) | (go_at_call 126; refine (schedule_any block hs _).mono ?_; rintro e w3 ⟨rfl, hc3⟩))
  obtain ⟨bv, hbv⟩ : ∃ bv, bv = w.heap.size := ⟨_, rfl⟩
  rw [← hbv] at hb2 hc2 ⊢
  have hb3 := hc3.obj hb2 (fun h => h)
  have hbb : b ≠ bv := by omega
  have hgw : gWd ≠ bv := by
    have := World.block_lt_of_cell? w _ (words_cell HT.out 0 (by decide))
    show 0 ≠ bv
    have e : (⟨0, 0, none⟩ : Addr).block = 0 := rfl
    omega
  have hch3 : Chg (fun k => k = bv) w w3 := ((hc1.trans hc2 (fun i hi h => by omega)).trans hc3 (fun _ _ h => h.elim)).mono (fun _ _ h => h.elim)
  have HB3 := hid hb3
  have HC3 := hid hch3
  have HBV := hid hbv
  clear ha1 hb2 hc1 hc2 hc3 hs1 hs2 hb3 hch3 hbv
  go_loopw [17] (fun i wr => ∃ k : Nat, k ≤ 64 ∧ i = .int .i64 k ∧ wr.heap[bv]? = some (.cells (rowF 8 (rounds block f k)) 178 (0, 0)) ∧ Chg (fun k => k = bv) w3 wr) (fun i _ => 64 - (intOf i).toNat)
  case atStart => exact ⟨0, Nat.zero_le _, rfl, HB3.out, Chg.refl _ _⟩
  case round =>
    obtain ⟨k, hk, rfl, hblk, hch⟩ := hrel
    by_cases hkn : k < 64
    · have hkn' : (k : Int) < 64 := by omega
      have hR : Hid (rounds block f (k + 1) = roundF (rounds block f k) (wordsL.getD k 0) (schW block k)) := hid rfl
      have hix : ∀ W, (Instr.index 184 (.agg (rowF 64 (schW block))) (.int .i64 k)).run Tryz.prog W = .ok (.int .u32 (schW block k)) W := fun W => index64 _ k hkn W
      have hcw0 : wr.cell? ⟨0, k, none⟩ = some (.int .u32 (wordsL.getD k 0)) := (HC3.out.trans hch (fun _ _ h => h)).cell (words_cell HT.out k hkn) hgw
      generalize rounds block f k = g at hblk hR
      generalize wordsL.getD k 0 = kw at hR hcw0
      generalize schW block k = wt at hR hix
      have c0 := row_cell hblk 0 (by decide)
      have c4 := row_cell hblk 4 (by decide)
      have HBL := hid hblk
      have HCH := hid hch
      have HCW := hid hcw0
      clear hblk hch hcw0
      go_wp2_with fail
      go_quiet (fail)
      go_wp2_with fail
      refine wp_gen (fun W => W.heap[bv]? = some (.cells (rowF 8 g) 178 (0, 0)) ∧ Chg (fun k => k = bv) w3 W ∧ W.cell? ⟨0, k, none⟩ = some (.int .u32 kw)) ⟨HBL.out, HCH.out.drewN _, HCW.out⟩ ?_
      rintro W ⟨hblk, hch, cw⟩
      have HBL2 := hid hblk
      have HCH2 := hid hch
      have d5 := row_cell hblk 5 (by decide)
      have d6 := row_cell hblk 6 (by decide)
      have d7 := row_cell hblk 7 (by decide)
      clear hblk hch c0 c4
      go_region_held3 (fun w' => w'.cell? ⟨bv, 5, none⟩ = some (.int .u32 (g 5)) ∧ w'.cell? ⟨bv, 6, none⟩ = some (.int .u32 (g 6)) ∧ w'.cell? ⟨bv, 7, none⟩ = some (.int .u32 (g 7)) ∧ w'.cell? ⟨0, k, none⟩ = some (.int .u32 kw)) (refine ⟨?_, ?_, ?_, ?_⟩ <;> (repeat' (first | with_reducible assumption | with_reducible (apply cell_allocM') | with_reducible (apply cell_drew')))) (first | (go_at_call 127; refine (sturned3 _ _ _ _ _ _ (by with_reducible exact newcellD W _ _ _ _ rfl) (by with_reducible exact newcellD W _ _ _ _ rfl) (by with_reducible exact newcellD W _ _ _ _ rfl) (by decide)).mono ?_; rintro e w' ⟨rfl, rfl⟩))
      go_wp2_with fail
      refine wp_gen (fun W => W.heap[bv]? = some (.cells (rowF 8 g) 178 (0, 0)) ∧ Chg (fun k => k = bv) w3 W) ⟨heap_alloc_old' HBL2.out _, (HCH2.out.alloc _).drew⟩ ?_
      clear HBL HCH HCW HBL2 HCH2 d5 d6 d7 cw
      rintro W2 ⟨hblk, hch⟩
      have HBL := hid hblk
      have HCH := hid hch
      have d1 := row_cell hblk 1 (by decide)
      have d2 := row_cell hblk 2 (by decide)
      clear hblk hch
      go_region_held3 (fun w' => w'.cell? ⟨bv, 1, none⟩ = some (.int .u32 (g 1)) ∧ w'.cell? ⟨bv, 2, none⟩ = some (.int .u32 (g 2))) (refine ⟨?_, ?_⟩ <;> (repeat' (first | with_reducible assumption | with_reducible (apply cell_allocM') | with_reducible (apply cell_drew')))) (first | (go_at_call 127; refine (sturned3 _ _ _ _ _ _ (by with_reducible exact newcellD W2 _ _ _ _ rfl) (by with_reducible exact newcellD W2 _ _ _ _ rfl) (by with_reducible exact newcellD W2 _ _ _ _ rfl) (by decide)).mono ?_; rintro e w' ⟨rfl, rfl⟩))
      go_wp2_with fail
      refine wp_gen (fun W => W.heap[bv]? = some (.cells (rowF 8 g) 178 (0, 0)) ∧ Chg (fun k => k = bv) w3 W) ⟨heap_alloc_old' HBL.out _, (HCH.out.alloc _).drew⟩ ?_
      clear HBL HCH d1 d2
      rintro W3 ⟨hblk, hch⟩
      have HBL := hid hblk
      have HCH := hid hch
      have hcopy := run_copy_cells (P := Tryz.prog) W3.drew 201 201 3 176 bv 1 7 7 ⟨bv, 0, none⟩ 7 8 [.int .u32 (g 0), .int .u32 (g 1), .int .u32 (g 2), .int .u32 (g 3), .int .u32 (g 4), .int .u32 (g 5), .int .u32 (g 6)] Tryz.underlying201 (by kernel_rfl) rfl
        (fun j v hj => by
          have hh := row_cell hblk
          match j, hj with
          | 0, hj => simp at hj; subst hj; exact hh 0 (by decide)
          | 1, hj => simp at hj; subst hj; exact hh 1 (by decide)
          | 2, hj => simp at hj; subst hj; exact hh 2 (by decide)
          | 3, hj => simp at hj; subst hj; exact hh 3 (by decide)
          | 4, hj => simp at hj; subst hj; exact hh 4 (by decide)
          | 5, hj => simp at hj; subst hj; exact hh 5 (by decide)
          | 6, hj => simp at hj; subst hj; exact hh 6 (by decide)
          | n + 7, hj => simp at hj)
        (fun j hj => by rw [show W3.drew.cell? ⟨bv, 1 + j, none⟩ = _ from row_cell hblk (1 + j) (by simp at hj; omega)]; rfl)
        (fun j hj => frozen_of hblk (1 + j)) (by simp [Value.oneCell'])
      clear hblk hch
      go_region
      refine w_gen (X := fun W => Exit.then _ _ Exit.normal _ W) (fun W => W.heap[bv]? = some (.cells (rowF 8 (updL g 1 [g 0, g 1, g 2, g 3, g 4, g 5, g 6])) 178 (0, 0)) ∧ Chg (fun k => k = bv) w3 W) ⟨setCells_row (w := W3.drew) HBL.out 1 [g 0, g 1, g 2, g 3, g 4, g 5, g 6], HCH.out.drew.trans (setCells_chg _ _ _ _) (fun _ _ h => h)⟩ ?_
      clear HBL HCH hcopy
      rintro W4 ⟨hblk, hch⟩
      have HBL := hid hblk
      have HCH := hid hch
      have x0 : W4.cell? ⟨bv, 0, none⟩ = some (.int .u32 (g 0)) := row_cell hblk 0 (by decide)
      have x4 : W4.cell? ⟨bv, 4, none⟩ = some (.int .u32 (g 3)) := row_cell hblk 4 (by decide)
      have f0 := frozen_of hblk 0
      have f4 := frozen_of hblk 4
      clear hblk hch
      go_wp2_with fail
      go_roundw
      case rel =>
        refine ⟨k + 1, by omega, by go_num, (row_set (row_set HBL.out 0 _) 4 _).trans ?_, (HCH.out.setCell (p := ⟨bv, 0, none⟩) (fun _ => rfl) _).setCell (p := ⟨bv, 4, none⟩) (fun _ => rfl) _⟩
        rw [hR.out]
        refine congrArg (fun x => some (Obj.cells x _ _)) (rowF_congr fun i hi => ?_)
        match i, hi with
        | 0, _ => simp only [updF, roundF, t1R, t2R, ch, maj, IntKind.wrap_u32]; simp
        | 1, _ => rfl
        | 2, _ => rfl
        | 3, _ => rfl
        | 4, _ => simp only [updF, roundF, t1R, ch, IntKind.wrap_u32]; simp
        | 5, _ => rfl
        | 6, _ => rfl
        | 7, _ => rfl
      case measure => simp [intOf]; omega
    · obtain rfl : k = 64 := by omega
      have hb0 : wr.heap[b]? = some (.cells cs T (0, 0)) := (HC3.out.trans hch (fun _ _ h => h)).obj HS.out.heap hbb
      have hS0 : StAt wr b T cs f := ⟨hb0, HS.out.word⟩
      have HB := hid hblk
      have HCH := hid hch
      have HS0 := hid hS0
      clear hblk hch hb0 hS0
      go_wp2_with fail
      obtain ⟨wo, hwo⟩ : ∃ wo : World, wo = wr := ⟨_, rfl⟩
      rw [← hwo] at HB HCH HS0 ⊢
      clear hwo
      obtain ⟨g, hg⟩ : ∃ g, g = rounds block f 64 := ⟨_, rfl⟩
      rw [← hg] at HB
      have HG := hid hg
      clear hg
      go_loopw [80] (fun i wr => ∃ k : Nat, ∃ cs', k ≤ 8 ∧ i = .int .i64 k ∧ StAt wr b T cs' (fun i => if i < k then IntKind.u32.wrap (f i + g i) else f i) ∧ cs'.size = cs.size ∧ (∀ i, 8 ≤ i → cs'[i]? = cs[i]?) ∧ Chg (fun k => k = b) wo wr) (fun i _ => 8 - (intOf i).toNat)
      case atStart => exact ⟨0, cs, Nat.zero_le _, rfl, HS0.out, rfl, fun _ _ => rfl, Chg.refl _ _⟩
      case round =>
        obtain ⟨k, cs', hk, rfl, hS1, hsz, hrest, hch⟩ := hrel
        by_cases hkn : k < 8
        · have hkn' : (k : Int) < 8 := by omega
          have c1 := hS1.cell k hkn
          rw [if_neg (Nat.lt_irrefl k)] at c1
          have fr := frozen_of hS1.heap k
          have c2 := row_cell (hch.obj HB.out (Ne.symm hbb)) k hkn
          have HS1 := hid hS1
          have HRR := hid hrest
          have HCC := hid hch
          clear hS1 hrest hch
          go_wp2_with fail
          go_region
          all_goals go_wp2_with fail
          all_goals go_roundw
          case rel =>
            refine ⟨k + 1, _, by omega, by go_num, (StAt.congr (HS1.out.set k _) fun i hi => ?_).drew, by rw [Array.size_setIfInBounds]; exact hsz, fun i hi => ?_, (HCC.out.setCell (p := ⟨b, k, none⟩) (fun _ => rfl) _).drew⟩
            · unfold updF
              by_cases e : i = k
              · subst e; rw [if_pos rfl, if_pos (by omega), IntKind.wrap_u32]
              · rw [if_neg e]
                by_cases e2 : i < k
                · show (if i < k then _ else _) = _
                  rw [if_pos e2, if_pos (by omega)]
                · show (if i < k then _ else _) = _
                  rw [if_neg e2, if_neg (by omega)]
            · rw [Array.getElem?_setIfInBounds, if_neg (by omega)]; exact HRR.out i hi
          case measure => simp [intOf]; omega
        · obtain rfl : k = 8 := by omega
          go_wp2_with fail
          go_end0
          refine ⟨rfl, cs', StAt.congr hS1 (fun i hi => by rw [if_pos hi, HG.out]; rfl), hsz, hrest, ?_⟩
          have hfin : Chg (fun k => k = b) w wr := (((HC3.out.mono (fun i hi h => by have := HBV.out; omega)).trans HCH.out (fun i hi h => by have := HBV.out; omega)).trans hch (fun _ _ h => h))
          exact hfin
end Go.Proofs.YthglfmacjoecgaaGreatDoor
namespace Go.Proofs.YthglfmacjoecgaaGreatDoor
open Go.RowKit

/-- The state ahead of all blocks. -/
def ivL : List Int := [1779033703, 3144134277, 1013904242, 2773480762, 1359893119, 2600822924, 528734635, 1541459225]
def iv : Nat → Int := fun i => ivL.getD i 0
theorem iv_row : rowF 8 iv = #[.int .u32 1779033703, .int .u32 3144134277, .int .u32 1013904242, .int .u32 2773480762, .int .u32 1359893119, .int .u32 2600822924, .int .u32 528734635, .int .u32 1541459225] := rfl

set_option maxRecDepth 100000 in
set_option maxHeartbeats 1000000 in
theorem begun_any (w : World) : Calls Tryz.prog 104 #[] w (Rets (.agg (rowF 8 iv)) (Chg (fun _ => False) w)) := by
  rw [iv_row]
  go_enter Tryz.func104, Tryz.ntmps104
  go_wp2
  refine bodyPost_ret (v := .agg #[.int .u32 1779033703, .int .u32 3144134277, .int .u32 1013904242, .int .u32 2773480762, .int .u32 1359893119, .int .u32 2600822924, .int .u32 528734635, .int .u32 1541459225]) (by simp [results, Tryz.results104, go_sem]) rfl ⟨rfl, (Chg.refl _ w).alloc _⟩

/-- A press: its state, what doesn't fill a block yet, how many bytes came. -/
structure PressAt (w : World) (b : Nat) (f : Nat → Int) (rest : ByteArray) (n : Int) : Prop where
  ex : ∃ cs, StAt w b 181 cs f ∧ cs[8]? = some (.string rest) ∧ cs[9]? = some (.int .i64 n)

set_option maxRecDepth 100000 in
set_option maxHeartbeats 1000000 in
theorem snew_any (w : World) : Calls Tryz.prog 64 #[] w (fun e w' => ∃ b, e = .returned (.pointer (some ⟨b, 0, none⟩)) ∧ w.heap.size ≤ b ∧ PressAt w' b iv .empty 0 ∧ Chg (fun _ => False) w w') := by
  have hb := begun_any w
  rw [iv_row] at hb
  go_enter Tryz.func64, Tryz.ntmps64
  go_wp2_with (go_at_call 104; refine hb.mono ?_; rintro e w1 ⟨rfl, hc1⟩)
  go_ret
  refine ⟨w1.heap.size, rfl, hc1.size, ⟨_, ⟨heap_alloc_new w1 _, fun i hi => ?_⟩, rfl, rfl⟩, hc1.alloc _⟩
  match i, hi with
  | 0, _ => rfl
  | 1, _ => rfl
  | 2, _ => rfl
  | 3, _ => rfl
  | 4, _ => rfl
  | 5, _ => rfl
  | 6, _ => rfl
  | 7, _ => rfl

/-- A row of n bytes. -/
def rowB (n : Nat) (f : Nat → UInt8) : Array Value := ((List.range n).map fun i => Value.int .u8 ((f i).toNat : Nat)).toArray
theorem rowB_size (n : Nat) (f : Nat → UInt8) : (rowB n f).size = n := by simp [rowB]
theorem rowB_get (n : Nat) (f : Nat → UInt8) (i : Nat) (h : i < n) : (rowB n f)[i]? = some (.int .u8 ((f i).toNat : Nat)) := by simp [rowB, h]
theorem rowB_one (n : Nat) (f : Nat → UInt8) : (rowB n f).toList.all Value.oneCell' = true := by simp [rowB, List.all_eq_true]; intros; rfl
theorem rowB_congr {n : Nat} {f g : Nat → UInt8} (h : ∀ i, i < n → f i = g i) : rowB n f = rowB n g := by
  unfold rowB
  congr 1
  apply List.map_congr_left
  intro i hi
  rw [h i (List.mem_range.1 hi)]
theorem rowB_set (n : Nat) (f : Nat → UInt8) (t : Nat) (v : UInt8) : (rowB n f).setIfInBounds t (.int .u8 (v.toNat : Nat)) = rowB n (fun i => if i = t then v else f i) := by
  apply Array.ext_getElem?
  intro i
  rw [Array.getElem?_setIfInBounds]
  by_cases h : i < n
  · rw [rowB_get n _ i h, rowB_get n _ i h, rowB_size]
    by_cases e : t = i
    · subst e; simp [h]
    · rw [if_neg e, if_neg (fun h : i = t => e h.symm)]
  · have h1 : ∀ g, (rowB n g)[i]? = none := fun g => by rw [Array.getElem?_eq_none]; rw [rowB_size]; omega
    rw [h1, h1, rowB_size]
    by_cases e : t = i
    · subst e; simp [h]
    · simp [e]
theorem rowB_cell {w : World} {b n : Nat} {f : Nat → UInt8} {T : TypeId} {fz : Nat × Nat} (h : w.heap[b]? = some (.cells (rowB n f) T fz)) (i : Nat) (hi : i < n) : w.cell? ⟨b, i, none⟩ = some (.int .u8 ((f i).toNat : Nat)) := by
  rw [cell_of h, rowB_get n f i hi]
theorem alloc37 (w : World) : (Instr.alloc 57 true (.tuple #[])).run Tryz.prog w = .ok (.pointer (some ⟨w.heap.size, 0, none⟩)) (w.alloc (.cells (rowB 32 (fun _ => 0)) 57)) := by kernel_rfl
theorem size37 (w : World) : (sizeOf 57).run Tryz.prog w = .ok 32 w := by kernel_rfl

/-- A digest's byte. -/
def digB (f : Nat → Int) (i : Nat) : UInt8 := UInt8.ofNat ((f (i / 4) / 2 ^ (24 - i % 4 * 8)) % 256).toNat

theorem digB_val (f : Nat → Int) (k : Nat) : ((digB f k).toNat : Int) = f (k / 4) / 2 ^ (24 - k % 4 * 8) % 256 := by
  unfold digB
  generalize f (k / 4) / 2 ^ (24 - k % 4 * 8) = x
  rw [UInt8.toNat_ofNat']
  omega

set_option maxRecDepth 100000 in
set_option maxHeartbeats 2000000 in
theorem digest_any (w : World) (b : Nat) (T : TypeId) (cs : Array Value) (f : Nat → Int) (hS : StAt w b T cs f) :
    Calls Tryz.prog 106 #[.pointer (some ⟨b, 0, none⟩)] w (Rets (.agg (rowB 32 (digB f))) (Chg (fun _ => False) w)) := by
  have HS := hid hS
  have hbw := heap_lt hS.heap
  clear hS
  go_enter Tryz.func106, Tryz.ntmps106
  go_wp2_with (refine wpList_alloc0 rfl 57 rfl (rowB 32 (fun _ => 0)) (alloc37 _) ?_; intro w1 ha1 hs1 hc1)
  obtain ⟨d, hd⟩ : ∃ d, d = w.heap.size := ⟨_, rfl⟩
  rw [← hd] at ha1 hs1 ⊢
  have HD := hid hd
  have hbd : b ≠ d := by omega
  clear hd
  go_loopw [4] (fun i wr => ∃ k : Nat, k ≤ 32 ∧ i = .int .i64 k ∧ wr.heap[d]? = some (.cells (rowB 32 (fun i => if i < k then digB f i else 0)) 57 (0, 0)) ∧ Chg (fun k => k = d) w1 wr) (fun i _ => 32 - (intOf i).toNat)
  case atStart => exact ⟨0, Nat.zero_le _, rfl, by rw [ha1]; rfl, Chg.refl _ _⟩
  case round =>
    obtain ⟨k, hk, rfl, hblk, hch⟩ := hrel
    by_cases hkn : k < 32
    · have hkn' : (k : Int) < 32 := by omega
      have hq : IntKind.i64.wrap ((k : Int).tdiv 4) = ((k / 4 : Nat) : Int) := by rw [IntWalk.i64_quo _ _ (by omega)]; omega
      have hr : (k : Int).tmod 4 = ((k % 4 : Nat) : Int) := by rw [Int.tmod_eq_emod_of_nonneg (by omega)]; omega
      have hq8 : ((k / 4 : Nat) : Int) < 8 := by omega
      have c1 := ((hc1.mono (fun _ _ h => h.elim)).trans hch (fun _ _ h => h)).cell (HS.out.cell (k / 4) (by omega)) hbd
      have cd := rowB_cell hblk k hkn
      have fd := frozen_of hblk k
      have HB := hid hblk
      have HC := hid hch
      clear hblk hch
      go_wp2_with fail
      go_roundw
      case rel =>
        refine ⟨k + 1, by omega, by go_num, ?_, HC.out.setCell (p := ⟨d, k, none⟩) (fun _ => rfl) _⟩
        rw [← digB_val f k, heap_set_same HB.out, rowB_set]
        refine congrArg (fun x => some (Obj.cells x _ _)) (rowB_congr fun i hi => ?_)
        by_cases e : i = k
        · subst e; rw [if_pos rfl, if_pos (by omega)]
        · rw [if_neg e]
          by_cases e2 : i < k
          · rw [if_pos e2, if_pos (by omega)]
          · rw [if_neg e2, if_neg (by omega)]
      case measure => simp [intOf]; omega
    · obtain rfl : k = 32 := by omega
      have hfin : wr.heap[d]? = some (.cells (rowB 32 (digB f)) 57 (0, 0)) := by
        rw [hblk]; exact congrArg (fun x => some (Obj.cells x _ _)) (rowB_congr fun i hi => if_pos hi)
      have HFI := hid hfin
      have HCX := hid hch
      clear hblk hch hfin
      go_wp2_with (first | (refine wpList_load0 rfl 57 _ rfl d (rowB 32 (digB f)) (.array 32 5) rfl HFI.out Tryz.underlying57 rfl (by rw [rowB_size]; kernel_rfl) ?_) | (refine wpList_store0 rfl 57 _ _ rfl d (rowB 32 (digB f)) (rowB 32 (digB f)) rfl rfl HFI.out (by rw [rowB_size]; exact size37) rfl (rowB_one _ _) ?_; intro w5 hb5 hs5 hc5))
      refine bodyPost_ret (v := .agg (rowB 32 (digB f))) ?_ rfl ⟨rfl, ?_⟩
      · exact results_row Tryz.results106 _ _ d rfl _ (run_loadVar_row _ d 57 57 _ (0, 0) (.array 32 5) hb5 Tryz.underlying57 rfl (by rw [rowB_size]; kernel_rfl))
      · have h1 : Chg (fun k => k = d) w1 w5 := (HCX.out.trans hc5 (fun _ _ h => h))
        exact hc1.trans h1 (fun i hi h => by have := HD.out; omega)
end Go.Proofs.YthglfmacjoecgaaGreatDoor
namespace Go.Proofs.YthglfmacjoecgaaGreatDoor
open Go.RowKit

theorem or128 : ∀ k : Fin 9, bits .or .i64 128 ((k.1 : Nat) : Int) = ((128 + k.1 : Nat) : Int) := by decide +kernel
theorem or0 : ∀ k : Fin 9, bits .or .i64 0 ((k.1 : Nat) : Int) = ((k.1 : Nat) : Int) := by decide +kernel
theorem not_neg (n : Int) (h1 : -9223372036854775808 ≤ n) (h0 : n < 0) : bits .xor .i64 (-1) n = -1 - n := by
  show IntKind.i64.wrap ((BitVec.ofInt 64 (-1) ^^^ BitVec.ofInt 64 n).toNat : Int) = _
  have h2 : BitVec.ofInt 64 (-1) = BitVec.allOnes 64 := by decide
  rw [h2, BitVec.allOnes_xor, BitVec.toNat_not, BitVec.toNat_ofInt]
  simp [IntKind.wrap, IntKind.bits, IntKind.signed]
  omega
theorem low_next (m k : Nat) : m / 256 ^ (k + 1) = m / 256 ^ k / 256 := by rw [Nat.div_div_eq_div_mul, Nat.pow_succ]
/-- The digits that have been written, from place t on. -/
structure DigAt (w : World) (b t k m : Nat) : Prop where
  ex : ∃ f : Nat → UInt8, w.heap[b]? = some (.cells (rowB 8 f) 167 (0, 0)) ∧ ∀ i (h : i < (lowL k m).length), f (t + i) = (lowL k m)[i]
theorem DigAt.bytes {w : World} {b t k m : Nat} (h : DigAt w b t k m) (hk : t + k = 8) : Lib.Bytes w b t (bs (lowL k m)) := by
  obtain ⟨f, h1, h2⟩ := h.ex
  intro i hi
  rw [bs_size, lowL_len] at hi
  rw [rowB_cell h1 _ (by omega)]
  have := h2 i (by rw [lowL_len]; exact hi)
  rw [this]
  rfl
theorem DigAt.put {w : World} {b t k m : Nat} (h : DigAt w b (t + 1) k m) : DigAt (w.setCell ⟨b, t, none⟩ (.int .u8 (((UInt8.ofNat (m / 256 ^ k % 256)).toNat : Nat) : Int))) b t (k + 1) m := by
  obtain ⟨f, h1, h2⟩ := h.ex
  refine ⟨fun i => if i = t then UInt8.ofNat (m / 256 ^ k % 256) else f i, ?_, fun i hi => ?_⟩
  · have := heap_set_same h1 t (.int .u8 (((UInt8.ofNat (m / 256 ^ k % 256)).toNat : Nat) : Int))
    rw [rowB_set] at this
    exact this
  · rcases Nat.eq_zero_or_pos i with h0 | h0
    · subst h0
      simp [lowL_cons]
    · obtain ⟨j, rfl⟩ : ∃ j, i = j + 1 := ⟨i - 1, by omega⟩
      have hj : j < (lowL k m).length := by rw [lowL_len] at hi ⊢; omega
      have := h2 j hj
      simp only [show ¬ t + (j + 1) = t by omega, if_false]
      rw [show t + (j + 1) = t + 1 + j by omega, this]
      simp [lowL_cons]
theorem magN_le {n : Int} (h1 : -9223372036854775808 ≤ n) (h2 : n ≤ 9223372036854775807) : magN n ≤ 9223372036854775807 := by
  unfold magN
  split <;> omega

set_option maxRecDepth 100000 in
set_option maxHeartbeats 2000000 in
theorem num_any (n : Int) (h1 : -9223372036854775808 ≤ n) (h2 : n ≤ 9223372036854775807) (w : World) :
    Calls Tryz.prog 62 #[.int .i64 n] w (Rets (.string (bs (numL n))) (Chg (fun _ => False) w)) := by
  go_enter Tryz.func62, Tryz.ntmps62
  obtain ⟨sg, hsg⟩ : ∃ sg : Nat, sg = if n < 0 then 128 else 0 := ⟨_, rfl⟩
  have hnum : numL n = UInt8.ofNat (sg + (beL 8 (magN n)).length) :: beL 8 (magN n) := by rw [hsg]; rfl
  have hsg2 : sg = 0 ∨ sg = 128 := by rw [hsg]; split <;> simp
  have hml := magN_lt h1 h2
  obtain ⟨m, hm⟩ : ∃ m, m = magN n := ⟨_, rfl⟩
  rw [← hm] at hnum hml
  have HN := hid hnum
  have HSG := hid hsg
  have HSG2 := hid hsg2
  have HM := hid hm
  clear hnum hsg hsg2 hm
  go_upto_if 7 with fail
  go_cut [0, 3] from 6 (fun a s wx => a = .int .i64 (m : Int) ∧ s = .int .i64 (sg : Int) ∧ w = wx)
  case first =>
    by_cases h0 : n < 0
    · have hx := not_neg n h1 h0
      go_wp2_with fail
      go_meet
      refine ⟨?_, ?_, rfl⟩
      · rw [show (m : Int) = -1 - n by rw [HM.out]; unfold magN; rw [if_pos h0]; omega]
      · rw [HSG.out, if_pos h0]; rfl
    · go_wp2_with fail
      go_meet
      refine ⟨?_, ?_, rfl⟩
      · rw [show (m : Int) = n by rw [HM.out]; unfold magN; rw [if_neg (by omega)]; omega]
      · rw [HSG.out, if_neg (by omega)]; rfl
  case rest =>
    obtain ⟨rfl, rfl, rfl⟩ := hcut
    go_wp2_with fail
    have hb0 : (w.alloc (.cells #[.int .u8 0, .int .u8 0, .int .u8 0, .int .u8 0, .int .u8 0, .int .u8 0, .int .u8 0, .int .u8 0] 167)).heap[w.heap.size]? = some (.cells (rowB 8 (fun _ => 0)) 167 (0, 0)) := heap_alloc_new' w _
    have HB0 := hid hb0
    have HC0 := hid ((Chg.refl (fun _ => False) w).alloc (.cells #[.int .u8 0, .int .u8 0, .int .u8 0, .int .u8 0, .int .u8 0, .int .u8 0, .int .u8 0, .int .u8 0] 167))
    clear hb0
    generalize w.alloc (.cells #[.int .u8 0, .int .u8 0, .int .u8 0, .int .u8 0, .int .u8 0, .int .u8 0, .int .u8 0, .int .u8 0] 167) = W1 at *
    obtain ⟨b, hb⟩ : ∃ b, b = w.heap.size := ⟨_, rfl⟩
    rw [← hb] at HB0 ⊢
    have HB := hid hb
    clear hb
    go_loopw [0, 5] (fun x a wr => ∃ k t : Nat, t + k = 8 ∧ x = .int .i64 ((m / 256 ^ k : Nat) : Int) ∧ a = .int .i64 (t : Int) ∧ Chg (fun _ => False) w wr ∧ DigAt wr b t k m ∧ ∀ j, j < k → m / 256 ^ j ≠ 0) (fun _ a _ => (intOf a).toNat)
    case atStart => exact ⟨0, 8, rfl, by simp, rfl, HC0.out, ⟨⟨_, HB0.out, fun i hi => by simp [lowL] at hi⟩⟩, fun j hj => by omega⟩
    case round =>
      obtain ⟨k, t, htk, rfl, rfl, hch, hd, hj⟩ := hrel
      have HCH := hid hch
      have HD := hid hd
      have HJ := hid hj
      have HTK := hid htk
      clear hch hj
      by_cases hz : m / 256 ^ k = 0
      · rw [hz]
        have hsz := bs_size (lowL k m)
        rw [lowL_len] at hsz
        have hby := hd.bytes htk
        have hcv : ∀ W, Chg (fun _ => False) wr W → (convert 125 9 (.slice (some ⟨b, t, none⟩) k k)).run Tryz.prog W = .ok (.string (bs (lowL k m))) W := fun W hW => by
          have h3 : Lib.Bytes W b t (bs (lowL k m)) := fun i hi => hW.cell (hby i hi) (fun h => h)
          have := Lib.run_convert_whole (P := Tryz.prog) W 125 5 9 Tryz.underlying125 Tryz.underlying5 Tryz.underlying9 b t (bs (lowL k m)) h3 k
          rwa [hsz] at this
        have hcc : ∃ c : Nat, c = sg + k ∧ c < 256 := ⟨_, rfl, by rcases HSG2.out with h | h <;> omega⟩
        obtain ⟨c, hc, hc256⟩ := hcc
        have hor : bits .or .i64 (sg : Int) (k : Int) = (c : Int) := by
          rcases HSG2.out with h | h
          · have := or0 ⟨k, by omega⟩
            rw [h] at hc ⊢
            rw [hc, Nat.zero_add]
            exact this
          · have := or128 ⟨k, by omega⟩
            rw [h] at hc ⊢
            rw [hc]
            exact this
        have hw8 : IntKind.u8.wrap (c : Int) = (c : Int) := by rw [IntKind.wrap_u8]; omega
        have h8 : (8 : Int) - (t : Int) = (k : Int) := by omega
        have hw9 : IntKind.i64.wrap (k : Int) = (k : Int) := by rw [IntKind.wrap_i64]; omega
        have h8n : 8 - t = k := by omega
        have ht0 : (0 : Int) ≤ (t : Int) := by omega
        have ht8 : (t : Int) ≤ 8 := by omega
        have hone : ∀ W, Lib.Bytes W wr.heap.size 0 ⟨#[UInt8.ofNat c]⟩ → (convert 125 9 (.slice (some ⟨wr.heap.size, 0, none⟩) 1 1)).run Tryz.prog W = .ok (.string ⟨#[UInt8.ofNat c]⟩) W := fun W hW =>
          Lib.run_convert_whole (P := Tryz.prog) W 125 5 9 Tryz.underlying125 Tryz.underlying5 Tryz.underlying9 wr.heap.size 0 ⟨#[UInt8.ofNat c]⟩ hW 1
        have hcb : (((UInt8.ofNat c).toNat : Nat) : Int) = (c : Int) := by rw [UInt8.toNat_ofNat', Nat.mod_eq_of_lt hc256]
        have hone1 := hone (wr.alloc (.cells #[.int .u8 (c : Int)] 5)).drew (fun i hi => by
          obtain rfl : i = 0 := by
            have : (⟨#[UInt8.ofNat c]⟩ : ByteArray).size = 1 := rfl
            omega
          have := cell_of (heap_alloc_new' wr (.cells #[.int .u8 (c : Int)] 5)) 0
          refine this.trans ?_
          show some (Value.int .u8 (c : Int)) = some (Value.int .u8 (((UInt8.ofNat c).toNat : Nat) : Int))
          rw [hcb])
        have hcv0 := hcv wr.drew ((Chg.refl _ wr).drew)
        have hcv1 := hcv (wr.alloc (.cells #[.int .u8 (c : Int)] 5)).drew (((Chg.refl _ wr).alloc _).drew)
        have HC := hid hc
        have HK : Hid (beL 8 m = lowL k m) := hid (beL_low k 8 m (by omega) hz HJ.out)
        obtain ⟨dg, hdg⟩ : ∃ dg, dg = bs (lowL k m) := ⟨_, rfl⟩
        rw [← hdg] at hcv0 hcv1 hsz
        have HDG := hid hdg
        have hadd : ¬ 9223372036854775807 < (⟨#[UInt8.ofNat c]⟩ : ByteArray).size + dg.size := by
          show ¬ 9223372036854775807 < 1 + dg.size
          omega
        have hadd2 : ¬ 9223372036854775807 < 1 + dg.size := hadd
        have HC1 : Hid (bs (numL n) = (⟨#[UInt8.ofNat c]⟩ : ByteArray) ++ dg) := hid (by
          rw [HN.out, HK.out, lowL_len, ← hc, hdg]
          rw [show UInt8.ofNat c :: lowL k m = [UInt8.ofNat c] ++ lowL k m from rfl, bs_append]
          rfl)
        clear hdg hc hd hcb hz
        rcases (by omega : k = 0 ∧ t = 8 ∨ k ≠ 0 ∧ ¬ 8 = t) with ⟨rfl, rfl⟩ | ⟨hk0, ht8n⟩
        · have hd0 : dg.size = 0 := hsz
          have hde : dg = ⟨#[]⟩ := HDG.out
          have hor0 : bits .or .i64 (sg : Int) 0 = (c : Int) := by simpa using hor
          have hw0 : IntKind.i64.wrap 0 = 0 := by rw [IntKind.wrap_i64]; omega
          have hcx : ∀ W, (convert 125 9 (.slice (some ⟨b, 0, none⟩) 0 0)).run Tryz.prog W = .ok (.string dg) W := fun W => by
            have := Lib.run_convert_whole (P := Tryz.prog) W 125 5 9 Tryz.underlying125 Tryz.underlying5 Tryz.underlying9 b 0 dg (fun i hi => by omega) 0
            rwa [hd0] at this
          clear hcv0 hcv1 hor hde
          go_wp2_with fail
          go_region
          all_goals go_wp2_with fail
          all_goals go_ret
          all_goals exact ⟨by rw [HC1.out]; rfl, (HCH.out.alloc _).drew⟩
        · go_wp2_with fail
          go_region
          all_goals go_wp2_with fail
          all_goals go_ret
          all_goals exact ⟨by rw [HC1.out]; rfl, (HCH.out.alloc _).drew⟩
      · have ht : t ≠ 0 := fun h => by
          obtain rfl : k = 8 := by omega
          exact absurd (Nat.div_eq_of_lt hml) hz
        obtain ⟨t', rfl⟩ : ∃ t', t = t' + 1 := ⟨t - 1, by omega⟩
        have HNX := hid (low_next m k)
        have hlt : m / 256 ^ k < 9223372036854775808 := Nat.lt_of_le_of_lt (Nat.div_le_self m (256 ^ k)) (by have := magN_le h1 h2; rw [HM.out]; omega)
        have HPUT := hid hd.put
        obtain ⟨f, hf1, hf2⟩ := HD.out.ex
        have c1 := (cell_of hf1 t').trans (rowB_get 8 f t' (by omega))
        have f1 := frozen_of hf1 t'
        have HF1 := hid hf1
        obtain ⟨q, hq⟩ : ∃ q, q = m / 256 ^ k := ⟨_, rfl⟩
        have hby : IntKind.u8.wrap (q : Int) = (((UInt8.ofNat (m / 256 ^ k % 256)).toNat : Nat) : Int) := by
          rw [← hq, UInt8.toNat_ofNat', Nat.mod_mod, IntKind.wrap_u8]
          omega
        rw [← hq] at hz hlt ⊢
        have HQ := hid hq
        have HBY := hid hby
        have HNZ := hid hz
        clear hq hf1 hf2 hby
        have hq0 : (0 : Int) < (q : Int) := by omega
        have hw1 : IntKind.i64.wrap (((t' + 1 : Nat) : Int) - 1) = (t' : Int) := by rw [IntKind.wrap_i64]; omega
        have ht8 : (t' : Int) < 8 := by omega
        go_wp2_with fail
        go_roundw
        case rel =>
          refine ⟨k + 1, t', by omega, ?_, rfl, HCH.out.setCell (p := ⟨b, t', none⟩) (fun h => absurd h (by have := HB.out; simp; omega)) _, ?_, fun j hj => ?_⟩
          · rw [HNX.out, ← HQ.out]
            rfl
          · have h3 := HPUT.out
            rw [← HBY.out, IntKind.wrap_u8] at h3
            exact h3
          · by_cases e : j = k
            · rw [e, ← HQ.out]; exact HNZ.out
            · exact HJ.out j (by omega)
        case measure => simp [intOf]
end Go.Proofs.YthglfmacjoecgaaGreatDoor
namespace Go.Proofs.YthglfmacjoecgaaGreatDoor
open Go.RowKit

theorem ba_eq (a b : ByteArray) : (a == b) = decide (a = b) := by
  rcases a with ⟨a⟩; rcases b with ⟨b⟩
  show (a == b) = _
  by_cases h : a = b <;> simp [h]
theorem ba_isEmpty (s : ByteArray) : s.toList.isEmpty = decide (s.size = 0) := by
  rw [Lib.toList_data]
  have := Lib.size_eq s
  cases h : s.data.toList with
  | nil => rw [h] at this; simp [this]
  | cons a b =>
    rw [h] at this
    have h2 : s.size ≠ 0 := by rw [this]; simp
    simp [h2]

def lettersL : List UInt8 := [97, 98, 99, 100, 101, 102, 103, 104, 105, 106, 107, 108, 109, 110, 111, 112, 113, 114, 115, 116, 117, 118, 119, 120, 121, 122, 48, 49, 50, 51, 52, 53, 54, 55, 56, 57]
theorem letters_let (b : UInt8) : lettersL.contains b = letB b := by
  have key : ∀ n : Fin 256, lettersL.contains (UInt8.ofNat n.1) = letB (UInt8.ofNat n.1) := by decide +kernel
  have := key ⟨b.toNat, b.toNat_lt⟩
  simpa using this
theorem mem_dropWhile {p : UInt8 → Bool} {x : UInt8} : ∀ {l : List UInt8}, x ∈ l → p x = false → x ∈ l.dropWhile p
  | y :: r, h, hp => by
    unfold List.dropWhile
    cases hy : p y with
    | true =>
      simp only
      rcases List.mem_cons.1 h with rfl | h
      · rw [hy] at hp; cases hp
      · exact mem_dropWhile h hp
    | false => simpa using h
theorem dropWhile_all {p : UInt8 → Bool} : ∀ {l : List UInt8}, l.all p = true → l.dropWhile p = []
  | [], _ => rfl
  | y :: r, h => by
    simp only [List.all_cons, Bool.and_eq_true] at h
    unfold List.dropWhile
    rw [h.1]
    exact dropWhile_all h.2
theorem trim_nil (l : List UInt8) : (Lib.trimS l lettersL = []) ↔ l.all letB = true := by
  unfold Lib.trimS Lib.trimLeftS Lib.trimRightS
  have hp : (fun b => lettersL.contains b) = letB := funext letters_let
  rw [hp]
  constructor
  · intro h
    rw [List.all_eq_true]
    intro x hx
    cases hl : letB x with
    | true => rfl
    | false =>
      have h1 : x ∈ l.reverse.dropWhile letB := mem_dropWhile (List.mem_reverse.2 hx) hl
      have h2 : x ∈ (l.reverse.dropWhile letB).reverse.dropWhile letB := mem_dropWhile (List.mem_reverse.2 h1) hl
      rw [h] at h2
      exact absurd h2 (by simp)
  · intro h
    have h1 : l.reverse.all letB = true := by rw [List.all_reverse]; exact h
    rw [dropWhile_all h1]
    rfl

set_option maxRecDepth 100000 in
theorem trim_any (s : ByteArray) (hs : s.size ≤ maxLen) (w : World) :
    Calls Tryz.prog 185 #[.string s, .string { data := #[97, 98, 99, 100, 101, 102, 103, 104, 105, 106, 107, 108, 109, 110, 111, 112, 113, 114, 115, 116, 117, 118, 119, 120, 121, 122, 48, 49, 50, 51, 52, 53, 54, 55, 56, 57] }] w
      (fun e w' => ∃ r : ByteArray, e = .returned (.string r) ∧ r.toList.isEmpty = s.data.toList.all letB ∧ Chg (fun _ => False) w w') := by
  unfold maxLen at hs
  have h := Any.strings_Trim_laid Tryz.lays160 (by kernel_rfl) s ⟨lettersL.toArray⟩ w (by omega) (by decide +kernel) (ascii_of_all (by decide +kernel))
  refine Calls.mono h ?_
  rintro e w' ⟨rfl, hb⟩
  refine ⟨_, rfl, ?_, (Chg.of_below hb).mono (fun i hi h => by omega)⟩
  rw [ba_isEmpty]
  have e1 := trim_nil s.data.toList
  have e2 : (ByteArray.mk (Lib.trimS s.data.toList lettersL).toArray).size = (Lib.trimS s.data.toList lettersL).length := by simp [ByteArray.size]
  show decide ((ByteArray.mk (Lib.trimS s.data.toList lettersL).toArray).size = 0) = _
  rw [e2, Bool.eq_iff_iff, decide_eq_true_eq, ← e1, List.length_eq_zero_iff]

theorem isName_any (s : ByteArray) (hs : s.size ≤ maxLen) (w : World) : Calls Tryz.prog 179 #[.string s] w (Rets (.bool (nameL s.data.toList)) (Chg (fun _ => False) w)) := by
  have ht := trim_any s hs
  unfold maxLen at hs
  have hsl : s.data.toList.length = s.size := (Lib.size_eq s).symm
  by_cases h0 : s.size = 0
  · have e0 : s.toList.isEmpty = true := by rw [ba_isEmpty]; simp [h0]
    have hr : nameL s.data.toList = false := by unfold nameL; rw [hsl, h0]; rfl
    rw [hr]
    clear ht hsl hr
    go_enter Tryz.func179, Tryz.ntmps179
    go_wp2
    go_ret
    exact ⟨rfl, Chg.refl _ _⟩
  · have e0 : s.toList.isEmpty = false := by rw [ba_isEmpty]; simp [h0]
    by_cases h8 : s.size ≤ 8
    · have h8' : (s.size : Int) ≤ 8 := by omega
      have hr : nameL s.data.toList = s.data.toList.all letB := by unfold nameL; rw [hsl]; simp [h8]; omega
      rw [hr]
      generalize s.data.toList.all letB = B at ht
      clear hsl hr
      go_enter Tryz.func179, Tryz.ntmps179
      go_wp2_with (go_at_call 185; refine (ht _).mono ?_; rintro e w' ⟨r, rfl, hr, hc⟩)
      go_ret
      exact ⟨by first | rfl | rw [hr], hc⟩
    · have h8' : ¬ (s.size : Int) ≤ 8 := by omega
      have hr : nameL s.data.toList = false := by unfold nameL; rw [hsl]; simp [h8]
      rw [hr]
      clear ht hsl hr
      go_enter Tryz.func179, Tryz.ntmps179
      go_wp2
      go_ret
      exact ⟨rfl, Chg.refl _ _⟩
theorem isNameL_any (l : List UInt8) (hl : l.length ≤ maxLen) (w : World) : Calls Tryz.prog 179 #[.string (bs l)] w (Rets (.bool (nameL l)) (Chg (fun _ => False) w)) := by
  have := isName_any (bs l) (by rw [bs_size]; exact hl) w
  rwa [bs_data] at this

theorem notName_any (s : ByteArray) (hs : s.size ≤ maxLen) (w : World) : Calls Tryz.prog 180 #[.string s] w (Rets (.bool (!nameL s.data.toList)) (Chg (fun _ => False) w)) := by
  have h := isName_any s hs
  clear hs
  go_enter Tryz.func180, Tryz.ntmps180
  go_wp2_with (go_at_call 179; refine (h _).mono ?_; rintro e w' ⟨rfl, hc⟩)
  go_ret
  exact ⟨rfl, hc⟩

set_option maxHeartbeats 1000000 in
theorem ixn_any (v : Value) (ss : List ByteArray) (w : World) (hin : StrsAt w v ss) :
    Calls Tryz.prog 92 #[v, .func (.func 180) #[] #[]] w (fun e w' => ∃ r : Int, e = .returned (.int .i64 r) ∧ (r < 0 ↔ ∀ s ∈ ss, nameL s.data.toList = true) ∧ Chg (fun _ => False) w w') := by
  have hlenI := fun W ty => hin.len (P := Tryz.prog) Tryz.underlying22 W ty
  have hmx := hin.2.1
  unfold maxLen at hmx
  have H := hid hin
  clear hin
  go_enter Tryz.func92, Tryz.ntmps92
  go_wp2_with fail
  go_loopw [8] (fun i wr => ∃ k : Nat, k ≤ ss.length ∧ i = .int .i64 k ∧ Chg (fun _ => False) w wr ∧ ∀ j (h : j < ss.length), j < k → nameL ss[j].data.toList = true) (fun i _ => ss.length - (intOf i).toNat)
  case atStart => exact ⟨0, Nat.zero_le _, rfl, Chg.refl _ _, fun j _ h => absurd h (Nat.not_lt_zero _)⟩
  case round =>
    obtain ⟨k, hk, rfl, hch, hall⟩ := hrel
    have HA := hid hall
    have HC := hid hch
    have S2 := H.out.chg hch (fun _ _ h => h)
    clear hall hch
    by_cases hkn : k < ss.length
    · have hkn' : (k : Int) < ss.length := by omega
      obtain ⟨ad, hix, hadc, hadb⟩ := S2.ix (P := Tryz.prog) Tryz.underlying22 Tryz.sizeOf9 k hkn
      have hsk := S2.2.2 _ (List.getElem_mem hkn)
      clear S2
      cases hw : nameL ss[k].data.toList with
      | false =>
        have hn := notName_any ss[k] hsk
        rw [hw] at hn
        go_wp2_with (go_at_call 180; refine (hn _).mono ?_; rintro e w' ⟨rfl, hc⟩)
        go_ret
        refine ⟨k, rfl, ⟨fun h => by omega, fun h => ?_⟩, HC.out.trans hc (fun _ _ h => h)⟩
        have := h _ (List.getElem_mem hkn)
        rw [hw] at this; cases this
      | true =>
        have hn := notName_any ss[k] hsk
        rw [hw] at hn
        go_wp2_with (go_at_call 180; refine (hn _).mono ?_; rintro e w' ⟨rfl, hc⟩)
        go_roundw
        case rel =>
          refine ⟨k + 1, by omega, by go_num, HC.out.trans hc (fun _ _ h => h), fun j hj hjk => ?_⟩
          by_cases e : j = k
          · subst e; exact hw
          · exact HA.out j hj (by omega)
        case measure => simp [intOf]; omega
    · obtain rfl : k = ss.length := by omega
      go_wp2_with fail
      go_ret
      refine ⟨_, rfl, ⟨fun _ s hs => ?_, fun _ => by decide⟩, HC.out⟩
      obtain ⟨j, hj, rfl⟩ := List.mem_iff_getElem.1 hs
      exact HA.out j hj hj
theorem cfn_any (v : Value) (ss : List ByteArray) (w : World) (hin : StrsAt w v ss) :
    Calls Tryz.prog 57 #[v, .func (.func 180) #[] #[]] w (Rets (.bool (!ss.all fun s => nameL s.data.toList)) (Chg (fun _ => False) w)) := by
  have hix := ixn_any v ss w hin
  clear hin
  go_enter Tryz.func57, Tryz.ntmps57
  go_wp2_with (go_at_call 92; refine hix.mono ?_; rintro e w' ⟨r, rfl, hr, hc⟩)
  go_ret
  refine ⟨?_, hc⟩
  have e1 : (ss.all fun s => nameL s.data.toList) = decide (r < 0) := by
    rw [Bool.eq_iff_iff, List.all_eq_true, decide_eq_true_eq, hr]
  rw [e1]
  by_cases h : r < 0
  · simp [h]
  · simp [h]; omega
theorem areNames_any (v : Value) (ss : List ByteArray) (w : World) (hin : StrsAt w v ss) :
    Calls Tryz.prog 166 #[v] w (Rets (.bool (ss.all fun s => nameL s.data.toList)) (Chg (fun _ => False) w)) := by
  have h := cfn_any v ss w hin
  clear hin
  go_enter Tryz.func166, Tryz.ntmps166
  go_wp2_with (go_at_call 57; refine h.mono ?_; rintro e w' ⟨rfl, hc⟩)
  go_ret
  exact ⟨by simp, hc⟩
theorem areNamesL_any (v : Value) (ss : List (List UInt8)) (w : World) (hin : NamesAt w v ss) :
    Calls Tryz.prog 166 #[v] w (Rets (.bool (ss.all nameL)) (Chg (fun _ => False) w)) := by
  have := areNames_any v (ss.map bs) w hin
  have e : ((ss.map bs).all fun s => nameL s.data.toList) = ss.all nameL := by
    rw [List.all_map]
    congr 1
  rwa [e] at this
end Go.Proofs.YthglfmacjoecgaaGreatDoor
