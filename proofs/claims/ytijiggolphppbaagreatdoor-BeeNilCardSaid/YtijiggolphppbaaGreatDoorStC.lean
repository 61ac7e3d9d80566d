/- (*stamp.state).mix walked: the state behind a block. -/
import Derived.Test.YtijiggolphppbaaGreatDoorStB
import Derived.BigQuiet
import Derived.Lib.LaidTab
namespace Go.Proofs.YtijiggolphppbaaGreatDoor
open Go.RowKit

/-- A block whose first eight cells are a state's words. -/
structure StAt (w : World) (b : Nat) (T : TypeId) (cs : Array Value) (f : Nat → Int) : Prop where
  heap : w.heap[b]? = some (.cells cs T (0, 0))
  word : ∀ i, i < 8 → cs[i]? = some (.int .u32 (f i))
theorem StAt.cell {w : World} {b : Nat} {T : TypeId} {cs : Array Value} {f : Nat → Int} (h : StAt w b T cs f) (i : Nat) (hi : i < 8) : w.cell? ⟨b, i, none⟩ = some (.int .u32 (f i)) := by rw [cell_of h.heap, h.word i hi]
theorem StAt.row {w : World} {b : Nat} {T : TypeId} {f : Nat → Int} (h : w.heap[b]? = some (.cells (rowF 8 f) T (0, 0))) : StAt w b T (rowF 8 f) f := ⟨h, fun i hi => rowF_get 8 f i hi⟩
theorem StAt.set {w : World} {b : Nat} {T : TypeId} {cs : Array Value} {f : Nat → Int} (h : StAt w b T cs f) (t : Nat) (v : Int) : StAt (w.setCell ⟨b, t, none⟩ (.int .u32 v)) b T (cs.setIfInBounds t (.int .u32 v)) (updF f t v) := by
  refine ⟨heap_set_same h.heap t _, fun i hi => ?_⟩
  rw [Array.getElem?_setIfInBounds]
  unfold updF
  have hs : i < cs.size := (Array.getElem?_eq_some_iff.1 (h.word i hi)).1
  by_cases e : t = i
  · subst e; rw [if_pos rfl, if_pos hs, if_pos rfl]
  · rw [if_neg e, if_neg (fun h => e h.symm)]; exact h.word i hi

theorem StAt.drew {w : World} {b : Nat} {T : TypeId} {cs : Array Value} {f : Nat → Int} (h : StAt w b T cs f) : StAt w.drew b T cs f := ⟨h.heap, h.word⟩
theorem StAt.congr {w : World} {b : Nat} {T : TypeId} {cs : Array Value} {f g : Nat → Int} (h : StAt w b T cs f) (hfg : ∀ i, i < 8 → f i = g i) : StAt w b T cs g := ⟨h.heap, fun i hi => by rw [h.word i hi, hfg i hi]⟩
def ch (e f g : Int) : Int := bits .xor .u32 (bits .and .u32 e f) (bits .and .u32 (bits .xor .u32 IntKind.u32.max e) g)
def maj (a b c : Int) : Int := bits .xor .u32 (bits .xor .u32 (bits .and .u32 a b) (bits .and .u32 a c)) (bits .and .u32 b c)
def t1R (g : Nat → Int) (k wt : Int) : Int := IntKind.u32.wrap (IntKind.u32.wrap (IntKind.u32.wrap (IntKind.u32.wrap (g 7 + turnedR (g 4) [6, 11, 25]) + ch (g 4) (g 5) (g 6)) + k) + wt)
def t2R (g : Nat → Int) : Int := IntKind.u32.wrap (turnedR (g 0) [2, 13, 22] + maj (g 0) (g 1) (g 2))
/-- A round. -/
def roundF (g : Nat → Int) (k wt : Int) : Nat → Int
  | 0 => IntKind.u32.wrap (t1R g k wt + t2R g)
  | 4 => IntKind.u32.wrap (g 3 + t1R g k wt)
  | n + 1 => g n
def wordsL : List Int := [1116352408, 1899447441, 3049323471, 3921009573, 961987163, 1508970993, 2453635748, 2870763221, 3624381080, 310598401, 607225278, 1426881987, 1925078388, 2162078206, 2614888103, 3248222580, 3835390401, 4022224774, 264347078, 604807628, 770255983, 1249150122, 1555081692, 1996064986, 2554220882, 2821834349, 2952996808, 3210313671, 3336571891, 3584528711, 113926993, 338241895, 666307205, 773529912, 1294757372, 1396182291, 1695183700, 1986661051, 2177026350, 2456956037, 2730485921, 2820302411, 3259730800, 3345764771, 3516065817, 3600352804, 4094571909, 275423344, 430227734, 506948616, 659060556, 883997877, 958139571, 1322822218, 1537002063, 1747873779, 1955562222, 2024104815, 2227730452, 2361852424, 2428436474, 2756734187, 3204031479, 3329325298]
def rounds (block : ByteArray) (f : Nat → Int) : Nat → Nat → Int
  | 0 => f
  | k + 1 => roundF (rounds block f k) (wordsL.getD k 0) (schW block k)
/-- The state behind a block. -/
def mixR (block : ByteArray) (f : Nat → Int) : Nat → Int := fun i => IntKind.u32.wrap (f i + rounds block f 64 i)

theorem alloc74 (w : World) : (Instr.alloc 347 true (.tuple #[])).run Tryz.prog w = .ok (.pointer (some ⟨w.heap.size, 0, none⟩)) (w.alloc (.cells (rowF 8 (fun _ => 0)) 347)) := by kernel_rfl
theorem size74 (w : World) : (sizeOf 347).run Tryz.prog w = .ok 8 w := by kernel_rfl
section
variable {P : Program} {w : World} {ops : Array Oper} {rest : List Oper} {o : Oper} {a : Act} {Q : Exit → Act → World → Prop}
theorem wpList_loadst (hgd : o.guard = none) (ty : TypeId) (x : Operand) (ho : o.op = .load ty x)
    (b : Nat) (hx : a.eval x = .pointer (some ⟨b, 0, none⟩)) (cs : Array Value) (d : TypeDesc) (hc : w.rangeAt b 0 cs.toList)
    (hu : P.underlying ty = some d) (hd : d.isRow = true) (hi : (P.info? ty).map (·.size) = some cs.size)
    (h : wpList P ops Q rest (a.put o.dst (.agg cs)) w) : wpList P ops Q (o :: rest) a w :=
  wpList_load_mid hgd ty x ho b 0 hx cs.toList d hc hu hd (by simpa using hi) (by simpa using h)
end
theorem StAt.range {w : World} {b : Nat} {T : TypeId} {cs : Array Value} {f : Nat → Int} (h : StAt w b T cs f) : w.rangeAt b 0 (rowF 8 f).toList := by
  intro j v hj
  have hj' : (rowF 8 f)[j]? = some v := by simpa using hj
  have h8 : j < 8 := by have := (Array.getElem?_eq_some_iff.1 hj').1; rwa [rowF_size] at this
  rw [Nat.zero_add, h.cell j h8, ← rowF_get 8 f j h8, hj']

theorem sturned3 (x a b c : Int) (g : Nat) (W : World) (a0 : W.cell? ⟨g, 0, none⟩ = some (.int .i64 a)) (a1 : W.cell? ⟨g, 1, none⟩ = some (.int .i64 b)) (a2 : W.cell? ⟨g, 2, none⟩ = some (.int .i64 c)) (h : (1 ≤ a ∧ a ≤ 31) ∧ (1 ≤ b ∧ b ≤ 31) ∧ 1 ≤ c ∧ c ≤ 31) :
    Calls Tryz.prog 302 #[.int .u32 x, .slice (some ⟨g, 0, none⟩) 3 3] W (Rets (.int .u32 (turnedR x [a.toNat, b.toNat, c.toNat])) (fun w' => W = w')) :=
  sturned_any _ [a.toNat, b.toNat, c.toNat] (by intro n hn; simp at hn; rcases hn with rfl | rfl | rfl <;> omega) g 3 3 rfl (by simp) W (fun i hi => match i, hi with
    | 0, _ => by rw [a0]; congr 2; simp; omega
    | 1, _ => by rw [a1]; congr 2; simp; omega
    | 2, _ => by rw [a2]; congr 2; simp; omega)
theorem index64 (f : Nat → Int) (k : Nat) (hk : k < 64) (W : World) : (Instr.index 422 (.agg (rowF 64 f)) (.int .i64 k)).run Tryz.prog W = .ok (.int .u32 (f k)) W := by
  have h := rowF_get 64 f k hk
  simp [Instr.index, asIntOf, run_underlying Tryz.underlying422, Tryz.sizeOf345, Tryz.isAgg345, part, h]
  intro h64; omega
theorem wp_gen {P : Program} {c : Code} {Q : Exit → Act → World → Prop} {a : Act} {w : World} (R : World → Prop) (h : R w) (k : ∀ W, R W → Code.wp P c Q a W) : Code.wp P c Q a w := k w h
theorem w_gen {X : World → Prop} {w : World} (R : World → Prop) (h : R w) (k : ∀ W, R W → X W) : X w := k w h
def updL (f : Nat → Int) : Nat → List Int → Nat → Int
  | _, [] => f
  | o, v :: r => updL (updF f o v) (o + 1) r
theorem setCells_row {b n : Nat} {T : TypeId} {fz : Nat × Nat} : ∀ {w : World} {f : Nat → Int} (_ : w.heap[b]? = some (.cells (rowF n f) T fz)) (o : Nat) (vs : List Int), (w.setCells b o (vs.map (Value.int .u32))).heap[b]? = some (.cells (rowF n (updL f o vs)) T fz)
  | _, _, h, _, [] => h
  | _, _, h, o, v :: r => setCells_row (row_set h o v) (o + 1) r
theorem setCells_chg (b : Nat) : ∀ (w : World) (o : Nat) (vs : List Value), Chg (fun k => k = b) w (w.setCells b o vs)
  | w, _, [] => Chg.refl _ w
  | w, o, v :: r => by
    have h1 : Chg (fun k => k = b) w (w.setCell ⟨b, o, none⟩ v) := (Chg.refl (fun k => k = b) w).setCell (p := ⟨b, o, none⟩) (fun _ => rfl) v
    exact h1.trans (setCells_chg b _ (o + 1) r) (fun _ _ h => h)
def gWd : Nat := 0
theorem wdG : Tryz.prog.globalNamed "apiary/stamp.words" = some gWd := by kernel_rfl
theorem words_cell {w : World} (h : Lib.TabIs Tryz.prog w "apiary/stamp.words" .u32 wordsL) (k : Nat) (hk : k < 64) : w.cell? ⟨0, k, none⟩ = some (.int .u32 (wordsL.getD k 0)) := h.cell wdG k (by exact hk)

set_option maxRecDepth 100000 in
set_option maxHeartbeats 4000000 in
theorem mix_any (block : ByteArray) (hs : block.size = 64) (w : World) (b : Nat) (T : TypeId) (cs : Array Value) (f : Nat → Int) (hS : StAt w b T cs f) (hT : Lib.TabIs Tryz.prog w "apiary/stamp.words" .u32 wordsL) (_ : gWd ≠ b) :
    Calls Tryz.prog 232 #[.pointer (some ⟨b, 0, none⟩), .string block] w (fun e w' => e = .returned (.tuple #[]) ∧ ∃ cs', StAt w' b T cs' (mixR block f) ∧ cs'.size = cs.size ∧ (∀ i, 8 ≤ i → cs'[i]? = cs[i]?) ∧ Chg (fun k => k = b) w w') := by
  have HS := hid hS
  have HT := hid hT
  have hbw := heap_lt hS.heap
  clear hS hT
  go_enter Tryz.func232, Tryz.ntmps232
  go_wp2_with (first | (refine wpList_loadst rfl 347 _ rfl b rfl (rowF 8 f) (.array 8 345) HS.out.range Tryz.underlying347 rfl (by rw [rowF_size]; kernel_rfl) ?_) | (refine wpList_alloc0 rfl 347 rfl (rowF 8 (fun _ => 0)) (alloc74 _) ?_; intro w1 ha1 hs1 hc1) | (refine wpList_store0 rfl 347 _ _ rfl w.heap.size (rowF 8 (fun _ => 0)) (rowF 8 f) rfl rfl ha1 (by rw [rowF_size]; exact size74) rfl (rowF_one _ _) ?_; intro w2 hb2 hs2 hc2) | (go_at_call 301; refine (schedule_any block hs _).mono ?_; rintro e w3 ⟨rfl, hc3⟩))
  obtain ⟨bv, hbv⟩ : ∃ bv, bv = w.heap.size := ⟨_, rfl⟩
  rw [← hbv] at hb2 hc2 ⊢
  have hb3 := hc3.obj hb2 (fun h => h)
  have hbb : b ≠ bv := by omega
  have hgw : gWd ≠ bv := by
    have := World.block_lt_of_cell? w _ (words_cell HT.out 0 (by decide))
    show 0 ≠ bv
    have e : (⟨0, 0, none⟩ : Addr).block = 0 := rfl
    omega
  have hch3 : Chg (fun k => k = bv) w w3 := ((hc1.trans hc2 (fun i hi h => by omega)).trans hc3 (fun _ _ h => h.elim)).mono (fun _ _ h => h.elim)
  have HB3 := hid hb3
  have HC3 := hid hch3
  have HBV := hid hbv
  clear ha1 hb2 hc1 hc2 hc3 hs1 hs2 hb3 hch3 hbv
  go_loopw [17] (fun i wr => ∃ k : Nat, k ≤ 64 ∧ i = .int .i64 k ∧ wr.heap[bv]? = some (.cells (rowF 8 (rounds block f k)) 347 (0, 0)) ∧ Chg (fun k => k = bv) w3 wr) (fun i _ => 64 - (intOf i).toNat)
  case atStart => exact ⟨0, Nat.zero_le _, rfl, HB3.out, Chg.refl _ _⟩
  case round =>
    obtain ⟨k, hk, rfl, hblk, hch⟩ := hrel
    by_cases hkn : k < 64
    · have hkn' : (k : Int) < 64 := by omega
      have hR : Hid (rounds block f (k + 1) = roundF (rounds block f k) (wordsL.getD k 0) (schW block k)) := hid rfl
      have hix : ∀ W, (Instr.index 422 (.agg (rowF 64 (schW block))) (.int .i64 k)).run Tryz.prog W = .ok (.int .u32 (schW block k)) W := fun W => index64 _ k hkn W
      have hcw0 : wr.cell? ⟨0, k, none⟩ = some (.int .u32 (wordsL.getD k 0)) := (HC3.out.trans hch (fun _ _ h => h)).cell (words_cell HT.out k hkn) hgw
      generalize rounds block f k = g at hblk hR
      generalize wordsL.getD k 0 = kw at hR hcw0
      generalize schW block k = wt at hR hix
      have c0 := row_cell hblk 0 (by decide)
      have c4 := row_cell hblk 4 (by decide)
      have HBL := hid hblk
      have HCH := hid hch
      have HCW := hid hcw0
      clear hblk hch hcw0
      go_wp2_with fail
      go_quiet (fail)
      go_wp2_with fail
      refine wp_gen (fun W => W.heap[bv]? = some (.cells (rowF 8 g) 347 (0, 0)) ∧ Chg (fun k => k = bv) w3 W ∧ W.cell? ⟨0, k, none⟩ = some (.int .u32 kw)) ⟨HBL.out, HCH.out.drewN _, HCW.out⟩ ?_
      rintro W ⟨hblk, hch, cw⟩
      have HBL2 := hid hblk
      have HCH2 := hid hch
      have d5 := row_cell hblk 5 (by decide)
      have d6 := row_cell hblk 6 (by decide)
      have d7 := row_cell hblk 7 (by decide)
      clear hblk hch c0 c4
      go_region_held3 (fun w' => w'.cell? ⟨bv, 5, none⟩ = some (.int .u32 (g 5)) ∧ w'.cell? ⟨bv, 6, none⟩ = some (.int .u32 (g 6)) ∧ w'.cell? ⟨bv, 7, none⟩ = some (.int .u32 (g 7)) ∧ w'.cell? ⟨0, k, none⟩ = some (.int .u32 kw)) (refine ⟨?_, ?_, ?_, ?_⟩ <;> (repeat' (first | with_reducible assumption | with_reducible (apply cell_alloc') | with_reducible (apply cell_drew')))) (first | (go_at_call 302; refine (sturned3 _ _ _ _ _ _ (by with_reducible exact newcellD W _ _ _ _ rfl) (by with_reducible exact newcellD W _ _ _ _ rfl) (by with_reducible exact newcellD W _ _ _ _ rfl) (by decide)).mono ?_; rintro e w' ⟨rfl, rfl⟩))
      go_wp2_with fail
      refine wp_gen (fun W => W.heap[bv]? = some (.cells (rowF 8 g) 347 (0, 0)) ∧ Chg (fun k => k = bv) w3 W) ⟨heap_alloc_old' HBL2.out _, (HCH2.out.alloc _).drew⟩ ?_
      clear HBL HCH HCW HBL2 HCH2 d5 d6 d7 cw
      rintro W2 ⟨hblk, hch⟩
      have HBL := hid hblk
      have HCH := hid hch
      have d1 := row_cell hblk 1 (by decide)
      have d2 := row_cell hblk 2 (by decide)
      clear hblk hch
      go_region_held3 (fun w' => w'.cell? ⟨bv, 1, none⟩ = some (.int .u32 (g 1)) ∧ w'.cell? ⟨bv, 2, none⟩ = some (.int .u32 (g 2))) (refine ⟨?_, ?_⟩ <;> (repeat' (first | with_reducible assumption | with_reducible (apply cell_alloc') | with_reducible (apply cell_drew')))) (first | (go_at_call 302; refine (sturned3 _ _ _ _ _ _ (by with_reducible exact newcellD W2 _ _ _ _ rfl) (by with_reducible exact newcellD W2 _ _ _ _ rfl) (by with_reducible exact newcellD W2 _ _ _ _ rfl) (by decide)).mono ?_; rintro e w' ⟨rfl, rfl⟩))
      go_wp2_with fail
      refine wp_gen (fun W => W.heap[bv]? = some (.cells (rowF 8 g) 347 (0, 0)) ∧ Chg (fun k => k = bv) w3 W) ⟨heap_alloc_old' HBL.out _, (HCH.out.alloc _).drew⟩ ?_
      clear HBL HCH d1 d2
      rintro W3 ⟨hblk, hch⟩
      have HBL := hid hblk
      have HCH := hid hch
      have hcopy := run_copy_cells (P := Tryz.prog) W3.drew 425 425 3 345 bv 1 7 7 ⟨bv, 0, none⟩ 7 8 [.int .u32 (g 0), .int .u32 (g 1), .int .u32 (g 2), .int .u32 (g 3), .int .u32 (g 4), .int .u32 (g 5), .int .u32 (g 6)] Tryz.underlying425 (by kernel_rfl) rfl
        (fun j v hj => by
          have hh := row_cell hblk
          match j, hj with
          | 0, hj => simp at hj; subst hj; exact hh 0 (by decide)
          | 1, hj => simp at hj; subst hj; exact hh 1 (by decide)
          | 2, hj => simp at hj; subst hj; exact hh 2 (by decide)
          | 3, hj => simp at hj; subst hj; exact hh 3 (by decide)
          | 4, hj => simp at hj; subst hj; exact hh 4 (by decide)
          | 5, hj => simp at hj; subst hj; exact hh 5 (by decide)
          | 6, hj => simp at hj; subst hj; exact hh 6 (by decide)
          | n + 7, hj => simp at hj)
        (fun j hj => by rw [show W3.drew.cell? ⟨bv, 1 + j, none⟩ = _ from row_cell hblk (1 + j) (by simp at hj; omega)]; rfl)
        (fun j hj => frozen_of hblk (1 + j)) (by simp [Value.oneCell'])
      clear hblk hch
      go_region
      refine w_gen (X := fun W => Exit.then _ _ Exit.normal _ W) (fun W => W.heap[bv]? = some (.cells (rowF 8 (updL g 1 [g 0, g 1, g 2, g 3, g 4, g 5, g 6])) 347 (0, 0)) ∧ Chg (fun k => k = bv) w3 W) ⟨setCells_row (w := W3.drew) HBL.out 1 [g 0, g 1, g 2, g 3, g 4, g 5, g 6], HCH.out.drew.trans (setCells_chg _ _ _ _) (fun _ _ h => h)⟩ ?_
      clear HBL HCH hcopy
      rintro W4 ⟨hblk, hch⟩
      have HBL := hid hblk
      have HCH := hid hch
      have x0 : W4.cell? ⟨bv, 0, none⟩ = some (.int .u32 (g 0)) := row_cell hblk 0 (by decide)
      have x4 : W4.cell? ⟨bv, 4, none⟩ = some (.int .u32 (g 3)) := row_cell hblk 4 (by decide)
      have f0 := frozen_of hblk 0
      have f4 := frozen_of hblk 4
      clear hblk hch
      go_wp2_with fail
      go_roundw
      case rel =>
        refine ⟨k + 1, by omega, by go_num, (row_set (row_set HBL.out 0 _) 4 _).trans ?_, (HCH.out.setCell (p := ⟨bv, 0, none⟩) (fun _ => rfl) _).setCell (p := ⟨bv, 4, none⟩) (fun _ => rfl) _⟩
        rw [hR.out]
        refine congrArg (fun x => some (Obj.cells x _ _)) (rowF_congr fun i hi => ?_)
        match i, hi with
        | 0, _ => simp only [updF, roundF, t1R, t2R, ch, maj, IntKind.wrap_u32]; simp
        | 1, _ => rfl
        | 2, _ => rfl
        | 3, _ => rfl
        | 4, _ => simp only [updF, roundF, t1R, ch, IntKind.wrap_u32]; simp
        | 5, _ => rfl
        | 6, _ => rfl
        | 7, _ => rfl
      case measure => simp [intOf]; omega
    · obtain rfl : k = 64 := by omega
      have hb0 : wr.heap[b]? = some (.cells cs T (0, 0)) := (HC3.out.trans hch (fun _ _ h => h)).obj HS.out.heap hbb
      have hS0 : StAt wr b T cs f := ⟨hb0, HS.out.word⟩
      have HB := hid hblk
      have HCH := hid hch
      have HS0 := hid hS0
      clear hblk hch hb0 hS0
      go_wp2_with fail
      obtain ⟨wo, hwo⟩ : ∃ wo : World, wo = wr := ⟨_, rfl⟩
      rw [← hwo] at HB HCH HS0 ⊢
      clear hwo
      obtain ⟨g, hg⟩ : ∃ g, g = rounds block f 64 := ⟨_, rfl⟩
      rw [← hg] at HB
      have HG := hid hg
      clear hg
      go_loopw [80] (fun i wr => ∃ k : Nat, ∃ cs', k ≤ 8 ∧ i = .int .i64 k ∧ StAt wr b T cs' (fun i => if i < k then IntKind.u32.wrap (f i + g i) else f i) ∧ cs'.size = cs.size ∧ (∀ i, 8 ≤ i → cs'[i]? = cs[i]?) ∧ Chg (fun k => k = b) wo wr) (fun i _ => 8 - (intOf i).toNat)
      case atStart => exact ⟨0, cs, Nat.zero_le _, rfl, HS0.out, rfl, fun _ _ => rfl, Chg.refl _ _⟩
      case round =>
        obtain ⟨k, cs', hk, rfl, hS1, hsz, hrest, hch⟩ := hrel
        by_cases hkn : k < 8
        · have hkn' : (k : Int) < 8 := by omega
          have c1 := hS1.cell k hkn
          rw [if_neg (Nat.lt_irrefl k)] at c1
          have fr := frozen_of hS1.heap k
          have c2 := row_cell (hch.obj HB.out (Ne.symm hbb)) k hkn
          have HS1 := hid hS1
          have HRR := hid hrest
          have HCC := hid hch
          clear hS1 hrest hch
          go_wp2_with fail
          go_region
          all_goals go_wp2_with fail
          all_goals go_roundw
          case rel =>
            refine ⟨k + 1, _, by omega, by go_num, (StAt.congr (HS1.out.set k _) fun i hi => ?_).drew, by rw [Array.size_setIfInBounds]; exact hsz, fun i hi => ?_, (HCC.out.setCell (p := ⟨b, k, none⟩) (fun _ => rfl) _).drew⟩
            · unfold updF
              by_cases e : i = k
              · subst e; rw [if_pos rfl, if_pos (by omega), IntKind.wrap_u32]
              · rw [if_neg e]
                by_cases e2 : i < k
                · show (if i < k then _ else _) = _
                  rw [if_pos e2, if_pos (by omega)]
                · show (if i < k then _ else _) = _
                  rw [if_neg e2, if_neg (by omega)]
            · rw [Array.getElem?_setIfInBounds, if_neg (by omega)]; exact HRR.out i hi
          case measure => simp [intOf]; omega
        · obtain rfl : k = 8 := by omega
          go_wp2_with fail
          go_end0
          refine ⟨rfl, cs', StAt.congr hS1 (fun i hi => by rw [if_pos hi, HG.out]; rfl), hsz, hrest, ?_⟩
          have hfin : Chg (fun k => k = b) w wr := (((HC3.out.mono (fun i hi h => by have := HBV.out; omega)).trans HCH.out (fun i hi h => by have := HBV.out; omega)).trans hch (fun _ _ h => h))
          exact hfin
end Go.Proofs.YtijiggolphppbaaGreatDoor
