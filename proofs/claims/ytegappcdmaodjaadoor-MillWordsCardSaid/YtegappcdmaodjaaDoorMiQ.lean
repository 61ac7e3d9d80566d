/- The law MillWords walked. -/
import Derived.Test.YtegappcdmaodjaaDoorMiP
import Derived.BigQuiet
import Derived.Lib.SlBytesRow
namespace Go.Proofs.YtegappcdmaodjaaDoor
open Go.RowKit

theorem rev_one (y : ByteArray) (h : y.size = 1) : revS y = y := by
  obtain ⟨x, hx⟩ := Array.size_eq_one_iff.1 (show y.data.size = 1 from h)
  apply ByteArray.ext
  show y.data.reverse = y.data
  rw [hx]
  rfl
theorem rev_append (x y : ByteArray) : revS (x ++ y) = revS y ++ revS x := by
  apply ByteArray.ext
  show (x ++ y).data.reverse = (revS y ++ revS x).data
  rw [ByteArray.data_append, ByteArray.data_append, Array.reverse_append]
  rfl
theorem rev_next (a : ByteArray) (k : Nat) (hk : k < a.size) : revS (a.extract 0 (k + 1)) = a.extract k (k + 1) ++ revS (a.extract 0 k) := by
  have h1 : a.extract 0 k ++ a.extract k (k + 1) = a.extract 0 (k + 1) := by
    rw [ByteArray.extract_append_extract]
    congr 1 <;> omega
  rw [← h1, rev_append, rev_one (a.extract k (k + 1)) (by rw [ByteArray.size_extract]; omega)]
theorem rev_all (a : ByteArray) : revS (a.extract 0 a.size) = revS a := by rw [ByteArray.extract_zero_size]

/-- The eight codes, the eight answers. -/
def codesL (n : UInt8) : List ByteArray := [{ data := #[105, 0, 105, 1, 99] }, { data := #[105, 0, 114] }, { data := #[105, 0, 116] } ++ { data := #[n] }, { data := #[105, 0, 107] } ++ { data := #[n] }, { data := #[105, 0, 105, 1, 61] }, { data := #[105, 0, 104] }, { data := #[105, 0, 105, 1, 115, 120] }, { data := #[105, 0, 100, 99] }]
def headS (a : ByteArray) (n : UInt8) : ByteArray := a.extract 0 (min (n.toNat : Int) (a.size : Int)).toNat
def tailS (a : ByteArray) (n : UInt8) : ByteArray := a.extract (min (n.toNat : Int) (a.size : Int)).toNat a.size
def wantL (a b : ByteArray) (n : UInt8) : List ByteArray := [a ++ b, revS a, headS a n, tailS a n, sameS a b, hashS a, b, a ++ a]
theorem words_pure (a b : ByteArray) (n : UInt8) (ha : a.size ≤ 200) (hb : b.size ≤ 200) (k : Nat) (hk : k < 8) : (runOut hashS ((codesL n).getD k .empty) [a, b]).1 = (0, (wantL a b n).getD k .empty) := by
  match k, hk with
  | 0, _ => exact word0 hashS a b ha hb
  | 1, _ => exact word1 hashS a b ha hb
  | 2, _ => exact word2 hashS a b n ha hb
  | 3, _ => exact word3 hashS a b n ha hb
  | 4, _ => exact word4 hashS a b ha hb
  | 5, _ => exact word5 hashS a b ha hb (by rw [hashS_size]; decide)
  | 6, _ => exact word6 hashS a b ha hb
  | 7, _ => exact word7 hashS a b ha hb
theorem codes_size (n : UInt8) (k : Nat) (hk : k < 8) : ((codesL n).getD k .empty).size ≤ 64 := by
  match k, hk with
  | 0, _ => exact (by decide : 5 ≤ 64)
  | 1, _ => exact (by decide : 3 ≤ 64)
  | 2, _ => show 4 ≤ 64; decide
  | 3, _ => show 4 ≤ 64; decide
  | 4, _ => exact (by decide : 5 ≤ 64)
  | 5, _ => exact (by decide : 3 ≤ 64)
  | 6, _ => exact (by decide : 6 ≤ 64)
  | 7, _ => exact (by decide : 4 ≤ 64)
theorem head_lt {a : ByteArray} {n : UInt8} (h : n.toNat < a.size) : headS a n = a.extract 0 n.toNat ∧ tailS a n = a.extract n.toNat a.size := by
  unfold headS tailS
  rw [show (min (n.toNat : Int) (a.size : Int)).toNat = n.toNat by omega]
  exact ⟨rfl, rfl⟩
theorem head_ge {a : ByteArray} {n : UInt8} (h : a.size ≤ n.toNat) : headS a n = a ∧ tailS a n = { data := #[] } := by
  unfold headS tailS
  rw [show (min (n.toNat : Int) (a.size : Int)).toNat = a.size by omega]
  refine ⟨ByteArray.extract_zero_size, ByteArray.ext (Array.eq_empty_of_size_eq_zero ?_)⟩
  have : (a.extract a.size a.size).size = 0 := by simp
  exact this

/-- The answers of the eight codes, said of any world. -/
def WordsRun (w : World) (a b : ByteArray) (cF wF : Nat → ByteArray) : Prop :=
  ∀ k, k < 8 → ∀ W, Chg (fun _ => False) w W → Calls Tryd.prog 11 #[.string (cF k), .slice (some ⟨W.heap.size, 0, none⟩) 2 2] (W.alloc (.cells #[.string a, .string b] 9))
    (fun e w' => ∃ m : Nat, e = .returned (.tuple #[.agg #[.int .i64 0, .string (wF k)], .int .i64 m]) ∧ Chg (fun _ => False) W w')
theorem wordsRun (w : World) (hT : TabsOK w.heap.size w) (a b : ByteArray) (n : UInt8) (ha : a.size ≤ 200) (hb : b.size ≤ 200) : WordsRun w a b (fun k => (codesL n).getD k .empty) (fun k => (wantL a b n).getD k .empty) := by
  intro k hk W hc
  have hin : StrsAt (W.alloc (.cells #[.string a, .string b] 9)) (.slice (some ⟨W.heap.size, 0, none⟩) 2 2) [a, b] :=
    ⟨.inr ⟨⟨W.heap.size, 0, none⟩, 2, rfl, fun i hi => by rw [show (⟨W.heap.size, 0, none⟩ : Addr).add i = ⟨W.heap.size, i, none⟩ by unfold Addr.add; split <;> simp_all, cell_of (heap_alloc_new W _)]; match i, hi with | 0, _ => rfl | 1, _ => rfl⟩, by show 2 ≤ maxLen; unfold maxLen; omega, by
      intro s hs; simp at hs; unfold maxLen; rcases hs with rfl | rfl <;> omega⟩
  refine (run_any hashS _ (by show ((codesL n).getD k .empty).size ≤ maxLen; have := codes_size n k hk; unfold maxLen; omega) _ [a, b] _ hin (hT.up (hc.alloc _)) (.inr step_h)).mono ?_
  rintro e w' ⟨rfl, h⟩
  have hw := words_pure a b n ha hb k hk
  dsimp only
  rw [hw]
  exact ⟨_, rfl, ((Chg.refl _ W).alloc _).trans h (fun _ _ h => h)⟩

set_option maxRecDepth 100000 in
set_option maxHeartbeats 4000000 in
theorem words_11 (a b : ByteArray) (n : UInt8) (w : World) (hT : TabsOK w.heap.size w) (ha : a.size ≤ 200) (hb : b.size ≤ 200) (hlt : n.toNat < a.size) (he : a = b) (cF wF : Nat → ByteArray) (hr : WordsRun w a b cF wF)
    (hs : ByteArray) (D : Nat → UInt8) (hps : hs.size = 32) (hpg : ∀ i (h : i < hs.size), hs[i] = D i)
    (hof : ∀ W, Chg (fun _ => False) w W → Calls Tryd.prog 16 #[.slice (some ⟨W.heap.size + 1, 0, none⟩) 1 1] ((W.alloc (.cells #[.int .u8 (n.toNat : Nat)] 5)).alloc (.cells #[.string a] 9)) (Rets (.agg (rowB 32 D)) (Chg (fun _ => False) ((W.alloc (.cells #[.int .u8 (n.toNat : Nat)] 5)).alloc (.cells #[.string a] 9)))))
    (hcA : ∀ i, i < 8 → (#[.string { data := #[105, 0, 105, 1, 99] }, .string { data := #[105, 0, 114] }, .string ({ data := #[105, 0, 116] } ++ { data := #[n] }), .string ({ data := #[105, 0, 107] } ++ { data := #[n] }), .string { data := #[105, 0, 105, 1, 61] }, .string { data := #[105, 0, 104] }, .string { data := #[105, 0, 105, 1, 115, 120] }, .string { data := #[105, 0, 100, 99] }] : Array Value)[i]? = some (.string (cF i)))
    (hwA : ∀ i, i < 8 → (#[.string (a ++ b), .string (revS a), .string (a.extract 0 n.toNat), .string (a.extract n.toNat a.size), .string { data := #[49] }, .string hs, .string b, .string (a ++ a)] : Array Value)[i]? = some (.string (wF i))) :
    Calls Tryd.prog 6 #[.string a, .string b, .int .u8 (n.toNat : Nat)] w (Rets (.bool true) (Chg (fun _ => False) w)) := by
  have haw := awake_any w hT
  have HR := hid hr
  have HOF := hid hof
  have HPG := hid hpg
  have HCA := hid hcA
  have HWA := hid hwA
  have hn := n.toNat_lt
  have d1 : decide ((200 : Int) < (a.size : Int)) = false := by simp; omega
  have d2 : decide ((200 : Int) < (b.size : Int)) = false := by simp; omega
  have hcx : IntKind.i64.wrap (n.toNat : Int) = (n.toNat : Int) := IntWalk.i64_in _ (by omega)
  have g1 : (n.toNat : Int) < (a.size : Int) := by omega
  have g2 : (n.toNat : Int) ≤ (a.size : Int) := by omega
  have g3 : (a.toList == b.toList) = true := by rw [← beq_toListBytes, ba_eq]; simp [he]
  have z1 : ¬ 9223372036854775807 < (ByteArray.mk #[105, 0, 116]).size + (ByteArray.mk #[n]).size := by show ¬ 9223372036854775807 < 3 + 1; omega
  have z2 : ¬ 9223372036854775807 < (ByteArray.mk #[105, 0, 107]).size + (ByteArray.mk #[n]).size := by show ¬ 9223372036854775807 < 3 + 1; omega
  have z3 : ¬ 9223372036854775807 < a.size + b.size := by omega
  have z4 : ¬ 9223372036854775807 < a.size + a.size := by omega
  have hrv := rev_all a
  have HCV : Hid (∀ W : World, (convert 35 9 (.slice (some ⟨W.heap.size, 0, none⟩) 1 1)).run Tryd.prog (W.alloc (.cells #[.int .u8 (n.toNat : Nat)] 5)) = .ok (.string { data := #[n] }) (W.alloc (.cells #[.int .u8 (n.toNat : Nat)] 5))) := hid fun W => by
    refine Lib.run_convert_whole (P := Tryd.prog) _ 35 5 9 Tryd.underlying35 Tryd.underlying5 Tryd.underlying9 W.heap.size 0 { data := #[n] } (fun i hi => ?_) 1
    obtain rfl : i = 0 := by have : (ByteArray.mk #[n]).size = 1 := rfl; omega
    exact (cell_of (heap_alloc_new W _) 0).trans rfl
  clear hr hof hpg hcA hwA hT he
  go_enter Tryd.func6, Tryd.ntmps6
  go_wp2_with (go_at_call 10; refine haw.mono ?_; rintro e w1 ⟨rfl, hch1⟩; have hcv := HCV.out w1; have hof := HOF.out w1 hch1)
  go_loop [11, 12] (fun s i => ∃ k : Nat, k ≤ a.size ∧ i = .int .i64 k ∧ s = .string (revS (a.extract 0 k))) (fun _ i => a.size - (intOf i).toNat)
  case atStart => exact ⟨0, Nat.zero_le _, rfl, by simp [revS]⟩
  case round =>
    obtain ⟨k, hk, rfl, rfl⟩ := hrel
    by_cases hkn : k < a.size
    · have hkn' : (k : Int) < (a.size : Int) := by omega
      have hk1 : (k : Int) + 1 ≤ (a.size : Int) := by omega
      have hk2 : (k : Int) ≤ (k : Int) + 1 := by omega
      have hk3 : IntKind.i64.wrap ((k : Int) + 1) = (k : Int) + 1 := IntWalk.i64_in _ (by omega)
      have hk4 : ((k : Int) + 1).toNat = k + 1 := by omega
      have zk : ¬ 9223372036854775807 < (a.extract k (k + 1)).size + (revS (a.extract 0 k)).size := by rw [revS_size, ByteArray.size_extract, ByteArray.size_extract]; omega
      go_wp2_with fail
      go_round
      case rel => exact ⟨k + 1, by omega, by go_num, by rw [rev_next a k hkn]⟩
      case measure => simp [intOf]; omega
    · obtain rfl : k = a.size := by omega
      go_wp2_with (first | (go_at_call 16; refine hof.mono ?_; rintro e w3 ⟨rfl, hc3⟩; have HC3 := hid hc3; clear hc3) | (refine wpList_alloc0 rfl 37 rfl (rowB 32 (fun _ => 0)) (alloc37 _) ?_; intro w4 ha4 hs4 hc4; clear hs4) | (refine wpList_store0 rfl 37 _ _ rfl w3.heap.size (rowB 32 (fun _ => 0)) (rowB 32 D) rfl rfl ha4 (by rw [rowB_size]; exact size37) rfl (rowB_one _ _) ?_; intro w5 hb5 hs5 hc5; clear hs5; have hby : Lib.Bytes (w5.alloc (.cells #[.string { data := #[105, 0, 105, 1, 99] }, .string { data := #[105, 0, 114] }, .string ({ data := #[105, 0, 116] } ++ { data := #[n] }), .string ({ data := #[105, 0, 107] } ++ { data := #[n] }), .string { data := #[105, 0, 105, 1, 61] }, .string { data := #[105, 0, 104] }, .string { data := #[105, 0, 105, 1, 115, 120] }, .string { data := #[105, 0, 100, 99] }] 39)) w3.heap.size 0 hs := fun i hi => cell_alloc' (by rw [Nat.zero_add, rowB_cell hb5 i (by rw [hps] at hi; exact hi), HPG.out i hi]) _; have hcv2 := Lib.run_convert_whole (P := Tryd.prog) (w5.alloc (.cells #[.string { data := #[105, 0, 105, 1, 99] }, .string { data := #[105, 0, 114] }, .string ({ data := #[105, 0, 116] } ++ { data := #[n] }), .string ({ data := #[105, 0, 107] } ++ { data := #[n] }), .string { data := #[105, 0, 105, 1, 61] }, .string { data := #[105, 0, 104] }, .string { data := #[105, 0, 105, 1, 115, 120] }, .string { data := #[105, 0, 100, 99] }] 39)) 35 5 9 Tryd.underlying35 Tryd.underlying5 Tryd.underlying9 w3.heap.size 0 hs hby 32; rw [hps] at hcv2; clear hby))
      have hc15 : Chg (fun _ => False) w w5 := (((hch1.alloc _).alloc _).trans HC3.out (fun _ _ h => h)).trans (hc4.trans hc5 (fun i hi h => by omega) : Chg (fun _ => False) w3 w5) (fun _ _ h => h)
      refine wp_gen (fun W => (∀ i, i < 8 → W.cell? ⟨w5.heap.size, i, none⟩ = some (.string (cF i))) ∧ (∀ i, i < 8 → W.cell? ⟨w5.heap.size + 1, i, none⟩ = some (.string (wF i))) ∧ Chg (fun _ => False) w W) ⟨fun i hi => cell_alloc' ((cell_of (heap_alloc_new w5 _) i).trans (HCA.out i hi)) _, fun i hi => newcell1 w5 _ _ _ i _ (HWA.out i hi), (hc15.alloc _).alloc _⟩ ?_
      rintro W0 ⟨hcc, hcw, hcW⟩
      have HCC := hid hcc
      have HCW := hid hcw
      have HW0 := hid hcW
      clear hcc hcw hcW hcv2 hb5 hc5 ha4 hc4 hc15 HC3 hcv hof
      go_loopw [17] (fun i wr => ∃ k : Nat, k ≤ 8 ∧ i = .int .i64 k ∧ Chg (fun _ => False) W0 wr) (fun i _ => 8 - (intOf i).toNat)
      case atStart => exact ⟨0, Nat.zero_le _, rfl, Chg.refl _ _⟩
      case round =>
        obtain ⟨k, hk, rfl, hch⟩ := hrel
        by_cases hk8 : k < 8
        · have hk8' : (k : Int) < 8 := by omega
          have kc := hch.cell (HCC.out k hk8) (fun h => h)
          have kw := hch.cell (HCW.out k hk8) (fun h => h)
          have hrun := HR.out k hk8 wr (HW0.out.trans hch (fun _ _ h => h))
          go_wp2_with (go_at_call 11; refine hrun.mono ?_; rintro e w7 ⟨m, rfl, hch7⟩; have kw7 := cell_alloc' (hch7.cell kw (fun h => h)) (.cells #[.int .i64 0, .string (wF k)] 26))
          go_quiet (fail)
          go_wp2_with fail
          go_roundw
          case rel => exact ⟨k + 1, by omega, by go_num, ((hch.trans hch7 (fun _ _ h => h)).alloc _).drewN _⟩
          case measure => simp [intOf]; omega
        · obtain rfl : k = 8 := by omega
          go_wp2_with fail
          go_ret
          exact ⟨rfl, HW0.out.trans hch (fun _ _ h => h)⟩

set_option maxRecDepth 100000 in
set_option maxHeartbeats 4000000 in
theorem words_10 (a b : ByteArray) (n : UInt8) (w : World) (hT : TabsOK w.heap.size w) (ha : a.size ≤ 200) (hb : b.size ≤ 200) (hlt : n.toNat < a.size) (he : a ≠ b) (cF wF : Nat → ByteArray) (hr : WordsRun w a b cF wF)
    (hs : ByteArray) (D : Nat → UInt8) (hps : hs.size = 32) (hpg : ∀ i (h : i < hs.size), hs[i] = D i)
    (hof : ∀ W, Chg (fun _ => False) w W → Calls Tryd.prog 16 #[.slice (some ⟨W.heap.size + 1, 0, none⟩) 1 1] ((W.alloc (.cells #[.int .u8 (n.toNat : Nat)] 5)).alloc (.cells #[.string a] 9)) (Rets (.agg (rowB 32 D)) (Chg (fun _ => False) ((W.alloc (.cells #[.int .u8 (n.toNat : Nat)] 5)).alloc (.cells #[.string a] 9)))))
    (hcA : ∀ i, i < 8 → (#[.string { data := #[105, 0, 105, 1, 99] }, .string { data := #[105, 0, 114] }, .string ({ data := #[105, 0, 116] } ++ { data := #[n] }), .string ({ data := #[105, 0, 107] } ++ { data := #[n] }), .string { data := #[105, 0, 105, 1, 61] }, .string { data := #[105, 0, 104] }, .string { data := #[105, 0, 105, 1, 115, 120] }, .string { data := #[105, 0, 100, 99] }] : Array Value)[i]? = some (.string (cF i)))
    (hwA : ∀ i, i < 8 → (#[.string (a ++ b), .string (revS a), .string (a.extract 0 n.toNat), .string (a.extract n.toNat a.size), .string { data := #[] }, .string hs, .string b, .string (a ++ a)] : Array Value)[i]? = some (.string (wF i))) :
    Calls Tryd.prog 6 #[.string a, .string b, .int .u8 (n.toNat : Nat)] w (Rets (.bool true) (Chg (fun _ => False) w)) := by
  have haw := awake_any w hT
  have HR := hid hr
  have HOF := hid hof
  have HPG := hid hpg
  have HCA := hid hcA
  have HWA := hid hwA
  have hn := n.toNat_lt
  have d1 : decide ((200 : Int) < (a.size : Int)) = false := by simp; omega
  have d2 : decide ((200 : Int) < (b.size : Int)) = false := by simp; omega
  have hcx : IntKind.i64.wrap (n.toNat : Int) = (n.toNat : Int) := IntWalk.i64_in _ (by omega)
  have g1 : (n.toNat : Int) < (a.size : Int) := by omega
  have g2 : (n.toNat : Int) ≤ (a.size : Int) := by omega
  have g3 : (a.toList == b.toList) = false := by rw [← beq_toListBytes, ba_eq]; simp [he]
  have z1 : ¬ 9223372036854775807 < (ByteArray.mk #[105, 0, 116]).size + (ByteArray.mk #[n]).size := by show ¬ 9223372036854775807 < 3 + 1; omega
  have z2 : ¬ 9223372036854775807 < (ByteArray.mk #[105, 0, 107]).size + (ByteArray.mk #[n]).size := by show ¬ 9223372036854775807 < 3 + 1; omega
  have z3 : ¬ 9223372036854775807 < a.size + b.size := by omega
  have z4 : ¬ 9223372036854775807 < a.size + a.size := by omega
  have hrv := rev_all a
  have HCV : Hid (∀ W : World, (convert 35 9 (.slice (some ⟨W.heap.size, 0, none⟩) 1 1)).run Tryd.prog (W.alloc (.cells #[.int .u8 (n.toNat : Nat)] 5)) = .ok (.string { data := #[n] }) (W.alloc (.cells #[.int .u8 (n.toNat : Nat)] 5))) := hid fun W => by
    refine Lib.run_convert_whole (P := Tryd.prog) _ 35 5 9 Tryd.underlying35 Tryd.underlying5 Tryd.underlying9 W.heap.size 0 { data := #[n] } (fun i hi => ?_) 1
    obtain rfl : i = 0 := by have : (ByteArray.mk #[n]).size = 1 := rfl; omega
    exact (cell_of (heap_alloc_new W _) 0).trans rfl
  clear hr hof hpg hcA hwA hT he
  go_enter Tryd.func6, Tryd.ntmps6
  go_wp2_with (go_at_call 10; refine haw.mono ?_; rintro e w1 ⟨rfl, hch1⟩; have hcv := HCV.out w1; have hof := HOF.out w1 hch1)
  go_loop [11, 12] (fun s i => ∃ k : Nat, k ≤ a.size ∧ i = .int .i64 k ∧ s = .string (revS (a.extract 0 k))) (fun _ i => a.size - (intOf i).toNat)
  case atStart => exact ⟨0, Nat.zero_le _, rfl, by simp [revS]⟩
  case round =>
    obtain ⟨k, hk, rfl, rfl⟩ := hrel
    by_cases hkn : k < a.size
    · have hkn' : (k : Int) < (a.size : Int) := by omega
      have hk1 : (k : Int) + 1 ≤ (a.size : Int) := by omega
      have hk2 : (k : Int) ≤ (k : Int) + 1 := by omega
      have hk3 : IntKind.i64.wrap ((k : Int) + 1) = (k : Int) + 1 := IntWalk.i64_in _ (by omega)
      have hk4 : ((k : Int) + 1).toNat = k + 1 := by omega
      have zk : ¬ 9223372036854775807 < (a.extract k (k + 1)).size + (revS (a.extract 0 k)).size := by rw [revS_size, ByteArray.size_extract, ByteArray.size_extract]; omega
      go_wp2_with fail
      go_round
      case rel => exact ⟨k + 1, by omega, by go_num, by rw [rev_next a k hkn]⟩
      case measure => simp [intOf]; omega
    · obtain rfl : k = a.size := by omega
      go_wp2_with (first | (go_at_call 16; refine hof.mono ?_; rintro e w3 ⟨rfl, hc3⟩; have HC3 := hid hc3; clear hc3) | (refine wpList_alloc0 rfl 37 rfl (rowB 32 (fun _ => 0)) (alloc37 _) ?_; intro w4 ha4 hs4 hc4; clear hs4) | (refine wpList_store0 rfl 37 _ _ rfl w3.heap.size (rowB 32 (fun _ => 0)) (rowB 32 D) rfl rfl ha4 (by rw [rowB_size]; exact size37) rfl (rowB_one _ _) ?_; intro w5 hb5 hs5 hc5; clear hs5; have hby : Lib.Bytes (w5.alloc (.cells #[.string { data := #[105, 0, 105, 1, 99] }, .string { data := #[105, 0, 114] }, .string ({ data := #[105, 0, 116] } ++ { data := #[n] }), .string ({ data := #[105, 0, 107] } ++ { data := #[n] }), .string { data := #[105, 0, 105, 1, 61] }, .string { data := #[105, 0, 104] }, .string { data := #[105, 0, 105, 1, 115, 120] }, .string { data := #[105, 0, 100, 99] }] 39)) w3.heap.size 0 hs := fun i hi => cell_alloc' (by rw [Nat.zero_add, rowB_cell hb5 i (by rw [hps] at hi; exact hi), HPG.out i hi]) _; have hcv2 := Lib.run_convert_whole (P := Tryd.prog) (w5.alloc (.cells #[.string { data := #[105, 0, 105, 1, 99] }, .string { data := #[105, 0, 114] }, .string ({ data := #[105, 0, 116] } ++ { data := #[n] }), .string ({ data := #[105, 0, 107] } ++ { data := #[n] }), .string { data := #[105, 0, 105, 1, 61] }, .string { data := #[105, 0, 104] }, .string { data := #[105, 0, 105, 1, 115, 120] }, .string { data := #[105, 0, 100, 99] }] 39)) 35 5 9 Tryd.underlying35 Tryd.underlying5 Tryd.underlying9 w3.heap.size 0 hs hby 32; rw [hps] at hcv2; clear hby))
      have hc15 : Chg (fun _ => False) w w5 := (((hch1.alloc _).alloc _).trans HC3.out (fun _ _ h => h)).trans (hc4.trans hc5 (fun i hi h => by omega) : Chg (fun _ => False) w3 w5) (fun _ _ h => h)
      refine wp_gen (fun W => (∀ i, i < 8 → W.cell? ⟨w5.heap.size, i, none⟩ = some (.string (cF i))) ∧ (∀ i, i < 8 → W.cell? ⟨w5.heap.size + 1, i, none⟩ = some (.string (wF i))) ∧ Chg (fun _ => False) w W) ⟨fun i hi => cell_alloc' ((cell_of (heap_alloc_new w5 _) i).trans (HCA.out i hi)) _, fun i hi => newcell1 w5 _ _ _ i _ (HWA.out i hi), (hc15.alloc _).alloc _⟩ ?_
      rintro W0 ⟨hcc, hcw, hcW⟩
      have HCC := hid hcc
      have HCW := hid hcw
      have HW0 := hid hcW
      clear hcc hcw hcW hcv2 hb5 hc5 ha4 hc4 hc15 HC3 hcv hof
      go_loopw [17] (fun i wr => ∃ k : Nat, k ≤ 8 ∧ i = .int .i64 k ∧ Chg (fun _ => False) W0 wr) (fun i _ => 8 - (intOf i).toNat)
      case atStart => exact ⟨0, Nat.zero_le _, rfl, Chg.refl _ _⟩
      case round =>
        obtain ⟨k, hk, rfl, hch⟩ := hrel
        by_cases hk8 : k < 8
        · have hk8' : (k : Int) < 8 := by omega
          have kc := hch.cell (HCC.out k hk8) (fun h => h)
          have kw := hch.cell (HCW.out k hk8) (fun h => h)
          have hrun := HR.out k hk8 wr (HW0.out.trans hch (fun _ _ h => h))
          go_wp2_with (go_at_call 11; refine hrun.mono ?_; rintro e w7 ⟨m, rfl, hch7⟩; have kw7 := cell_alloc' (hch7.cell kw (fun h => h)) (.cells #[.int .i64 0, .string (wF k)] 26))
          go_quiet (fail)
          go_wp2_with fail
          go_roundw
          case rel => exact ⟨k + 1, by omega, by go_num, ((hch.trans hch7 (fun _ _ h => h)).alloc _).drewN _⟩
          case measure => simp [intOf]; omega
        · obtain rfl : k = 8 := by omega
          go_wp2_with fail
          go_ret
          exact ⟨rfl, HW0.out.trans hch (fun _ _ h => h)⟩

set_option maxRecDepth 100000 in
set_option maxHeartbeats 4000000 in
theorem words_01 (a b : ByteArray) (n : UInt8) (w : World) (hT : TabsOK w.heap.size w) (ha : a.size ≤ 200) (hb : b.size ≤ 200) (hlt : a.size ≤ n.toNat) (he : a = b) (cF wF : Nat → ByteArray) (hr : WordsRun w a b cF wF)
    (hs : ByteArray) (D : Nat → UInt8) (hps : hs.size = 32) (hpg : ∀ i (h : i < hs.size), hs[i] = D i)
    (hof : ∀ W, Chg (fun _ => False) w W → Calls Tryd.prog 16 #[.slice (some ⟨W.heap.size + 1, 0, none⟩) 1 1] ((W.alloc (.cells #[.int .u8 (n.toNat : Nat)] 5)).alloc (.cells #[.string a] 9)) (Rets (.agg (rowB 32 D)) (Chg (fun _ => False) ((W.alloc (.cells #[.int .u8 (n.toNat : Nat)] 5)).alloc (.cells #[.string a] 9)))))
    (hcA : ∀ i, i < 8 → (#[.string { data := #[105, 0, 105, 1, 99] }, .string { data := #[105, 0, 114] }, .string ({ data := #[105, 0, 116] } ++ { data := #[n] }), .string ({ data := #[105, 0, 107] } ++ { data := #[n] }), .string { data := #[105, 0, 105, 1, 61] }, .string { data := #[105, 0, 104] }, .string { data := #[105, 0, 105, 1, 115, 120] }, .string { data := #[105, 0, 100, 99] }] : Array Value)[i]? = some (.string (cF i)))
    (hwA : ∀ i, i < 8 → (#[.string (a ++ b), .string (revS a), .string (a), .string ({ data := #[] }), .string { data := #[49] }, .string hs, .string b, .string (a ++ a)] : Array Value)[i]? = some (.string (wF i))) :
    Calls Tryd.prog 6 #[.string a, .string b, .int .u8 (n.toNat : Nat)] w (Rets (.bool true) (Chg (fun _ => False) w)) := by
  have haw := awake_any w hT
  have HR := hid hr
  have HOF := hid hof
  have HPG := hid hpg
  have HCA := hid hcA
  have HWA := hid hwA
  have hn := n.toNat_lt
  have d1 : decide ((200 : Int) < (a.size : Int)) = false := by simp; omega
  have d2 : decide ((200 : Int) < (b.size : Int)) = false := by simp; omega
  have hcx : IntKind.i64.wrap (n.toNat : Int) = (n.toNat : Int) := IntWalk.i64_in _ (by omega)
  have g1 : ¬ (n.toNat : Int) < (a.size : Int) := by omega
  have g3 : (a.toList == b.toList) = true := by rw [← beq_toListBytes, ba_eq]; simp [he]
  have z1 : ¬ 9223372036854775807 < (ByteArray.mk #[105, 0, 116]).size + (ByteArray.mk #[n]).size := by show ¬ 9223372036854775807 < 3 + 1; omega
  have z2 : ¬ 9223372036854775807 < (ByteArray.mk #[105, 0, 107]).size + (ByteArray.mk #[n]).size := by show ¬ 9223372036854775807 < 3 + 1; omega
  have z3 : ¬ 9223372036854775807 < a.size + b.size := by omega
  have z4 : ¬ 9223372036854775807 < a.size + a.size := by omega
  have hrv := rev_all a
  have HCV : Hid (∀ W : World, (convert 35 9 (.slice (some ⟨W.heap.size, 0, none⟩) 1 1)).run Tryd.prog (W.alloc (.cells #[.int .u8 (n.toNat : Nat)] 5)) = .ok (.string { data := #[n] }) (W.alloc (.cells #[.int .u8 (n.toNat : Nat)] 5))) := hid fun W => by
    refine Lib.run_convert_whole (P := Tryd.prog) _ 35 5 9 Tryd.underlying35 Tryd.underlying5 Tryd.underlying9 W.heap.size 0 { data := #[n] } (fun i hi => ?_) 1
    obtain rfl : i = 0 := by have : (ByteArray.mk #[n]).size = 1 := rfl; omega
    exact (cell_of (heap_alloc_new W _) 0).trans rfl
  clear hr hof hpg hcA hwA hT he
  go_enter Tryd.func6, Tryd.ntmps6
  go_wp2_with (go_at_call 10; refine haw.mono ?_; rintro e w1 ⟨rfl, hch1⟩; have hcv := HCV.out w1; have hof := HOF.out w1 hch1)
  go_loop [11, 12] (fun s i => ∃ k : Nat, k ≤ a.size ∧ i = .int .i64 k ∧ s = .string (revS (a.extract 0 k))) (fun _ i => a.size - (intOf i).toNat)
  case atStart => exact ⟨0, Nat.zero_le _, rfl, by simp [revS]⟩
  case round =>
    obtain ⟨k, hk, rfl, rfl⟩ := hrel
    by_cases hkn : k < a.size
    · have hkn' : (k : Int) < (a.size : Int) := by omega
      have hk1 : (k : Int) + 1 ≤ (a.size : Int) := by omega
      have hk2 : (k : Int) ≤ (k : Int) + 1 := by omega
      have hk3 : IntKind.i64.wrap ((k : Int) + 1) = (k : Int) + 1 := IntWalk.i64_in _ (by omega)
      have hk4 : ((k : Int) + 1).toNat = k + 1 := by omega
      have zk : ¬ 9223372036854775807 < (a.extract k (k + 1)).size + (revS (a.extract 0 k)).size := by rw [revS_size, ByteArray.size_extract, ByteArray.size_extract]; omega
      go_wp2_with fail
      go_round
      case rel => exact ⟨k + 1, by omega, by go_num, by rw [rev_next a k hkn]⟩
      case measure => simp [intOf]; omega
    · obtain rfl : k = a.size := by omega
      go_wp2_with (first | (go_at_call 16; refine hof.mono ?_; rintro e w3 ⟨rfl, hc3⟩; have HC3 := hid hc3; clear hc3) | (refine wpList_alloc0 rfl 37 rfl (rowB 32 (fun _ => 0)) (alloc37 _) ?_; intro w4 ha4 hs4 hc4; clear hs4) | (refine wpList_store0 rfl 37 _ _ rfl w3.heap.size (rowB 32 (fun _ => 0)) (rowB 32 D) rfl rfl ha4 (by rw [rowB_size]; exact size37) rfl (rowB_one _ _) ?_; intro w5 hb5 hs5 hc5; clear hs5; have hby : Lib.Bytes (w5.alloc (.cells #[.string { data := #[105, 0, 105, 1, 99] }, .string { data := #[105, 0, 114] }, .string ({ data := #[105, 0, 116] } ++ { data := #[n] }), .string ({ data := #[105, 0, 107] } ++ { data := #[n] }), .string { data := #[105, 0, 105, 1, 61] }, .string { data := #[105, 0, 104] }, .string { data := #[105, 0, 105, 1, 115, 120] }, .string { data := #[105, 0, 100, 99] }] 39)) w3.heap.size 0 hs := fun i hi => cell_alloc' (by rw [Nat.zero_add, rowB_cell hb5 i (by rw [hps] at hi; exact hi), HPG.out i hi]) _; have hcv2 := Lib.run_convert_whole (P := Tryd.prog) (w5.alloc (.cells #[.string { data := #[105, 0, 105, 1, 99] }, .string { data := #[105, 0, 114] }, .string ({ data := #[105, 0, 116] } ++ { data := #[n] }), .string ({ data := #[105, 0, 107] } ++ { data := #[n] }), .string { data := #[105, 0, 105, 1, 61] }, .string { data := #[105, 0, 104] }, .string { data := #[105, 0, 105, 1, 115, 120] }, .string { data := #[105, 0, 100, 99] }] 39)) 35 5 9 Tryd.underlying35 Tryd.underlying5 Tryd.underlying9 w3.heap.size 0 hs hby 32; rw [hps] at hcv2; clear hby))
      have hc15 : Chg (fun _ => False) w w5 := (((hch1.alloc _).alloc _).trans HC3.out (fun _ _ h => h)).trans (hc4.trans hc5 (fun i hi h => by omega) : Chg (fun _ => False) w3 w5) (fun _ _ h => h)
      refine wp_gen (fun W => (∀ i, i < 8 → W.cell? ⟨w5.heap.size, i, none⟩ = some (.string (cF i))) ∧ (∀ i, i < 8 → W.cell? ⟨w5.heap.size + 1, i, none⟩ = some (.string (wF i))) ∧ Chg (fun _ => False) w W) ⟨fun i hi => cell_alloc' ((cell_of (heap_alloc_new w5 _) i).trans (HCA.out i hi)) _, fun i hi => newcell1 w5 _ _ _ i _ (HWA.out i hi), (hc15.alloc _).alloc _⟩ ?_
      rintro W0 ⟨hcc, hcw, hcW⟩
      have HCC := hid hcc
      have HCW := hid hcw
      have HW0 := hid hcW
      clear hcc hcw hcW hcv2 hb5 hc5 ha4 hc4 hc15 HC3 hcv hof
      go_loopw [17] (fun i wr => ∃ k : Nat, k ≤ 8 ∧ i = .int .i64 k ∧ Chg (fun _ => False) W0 wr) (fun i _ => 8 - (intOf i).toNat)
      case atStart => exact ⟨0, Nat.zero_le _, rfl, Chg.refl _ _⟩
      case round =>
        obtain ⟨k, hk, rfl, hch⟩ := hrel
        by_cases hk8 : k < 8
        · have hk8' : (k : Int) < 8 := by omega
          have kc := hch.cell (HCC.out k hk8) (fun h => h)
          have kw := hch.cell (HCW.out k hk8) (fun h => h)
          have hrun := HR.out k hk8 wr (HW0.out.trans hch (fun _ _ h => h))
          go_wp2_with (go_at_call 11; refine hrun.mono ?_; rintro e w7 ⟨m, rfl, hch7⟩; have kw7 := cell_alloc' (hch7.cell kw (fun h => h)) (.cells #[.int .i64 0, .string (wF k)] 26))
          go_quiet (fail)
          go_wp2_with fail
          go_roundw
          case rel => exact ⟨k + 1, by omega, by go_num, ((hch.trans hch7 (fun _ _ h => h)).alloc _).drewN _⟩
          case measure => simp [intOf]; omega
        · obtain rfl : k = 8 := by omega
          go_wp2_with fail
          go_ret
          exact ⟨rfl, HW0.out.trans hch (fun _ _ h => h)⟩

set_option maxRecDepth 100000 in
set_option maxHeartbeats 4000000 in
theorem words_00 (a b : ByteArray) (n : UInt8) (w : World) (hT : TabsOK w.heap.size w) (ha : a.size ≤ 200) (hb : b.size ≤ 200) (hlt : a.size ≤ n.toNat) (he : a ≠ b) (cF wF : Nat → ByteArray) (hr : WordsRun w a b cF wF)
    (hs : ByteArray) (D : Nat → UInt8) (hps : hs.size = 32) (hpg : ∀ i (h : i < hs.size), hs[i] = D i)
    (hof : ∀ W, Chg (fun _ => False) w W → Calls Tryd.prog 16 #[.slice (some ⟨W.heap.size + 1, 0, none⟩) 1 1] ((W.alloc (.cells #[.int .u8 (n.toNat : Nat)] 5)).alloc (.cells #[.string a] 9)) (Rets (.agg (rowB 32 D)) (Chg (fun _ => False) ((W.alloc (.cells #[.int .u8 (n.toNat : Nat)] 5)).alloc (.cells #[.string a] 9)))))
    (hcA : ∀ i, i < 8 → (#[.string { data := #[105, 0, 105, 1, 99] }, .string { data := #[105, 0, 114] }, .string ({ data := #[105, 0, 116] } ++ { data := #[n] }), .string ({ data := #[105, 0, 107] } ++ { data := #[n] }), .string { data := #[105, 0, 105, 1, 61] }, .string { data := #[105, 0, 104] }, .string { data := #[105, 0, 105, 1, 115, 120] }, .string { data := #[105, 0, 100, 99] }] : Array Value)[i]? = some (.string (cF i)))
    (hwA : ∀ i, i < 8 → (#[.string (a ++ b), .string (revS a), .string (a), .string ({ data := #[] }), .string { data := #[] }, .string hs, .string b, .string (a ++ a)] : Array Value)[i]? = some (.string (wF i))) :
    Calls Tryd.prog 6 #[.string a, .string b, .int .u8 (n.toNat : Nat)] w (Rets (.bool true) (Chg (fun _ => False) w)) := by
  have haw := awake_any w hT
  have HR := hid hr
  have HOF := hid hof
  have HPG := hid hpg
  have HCA := hid hcA
  have HWA := hid hwA
  have hn := n.toNat_lt
  have d1 : decide ((200 : Int) < (a.size : Int)) = false := by simp; omega
  have d2 : decide ((200 : Int) < (b.size : Int)) = false := by simp; omega
  have hcx : IntKind.i64.wrap (n.toNat : Int) = (n.toNat : Int) := IntWalk.i64_in _ (by omega)
  have g1 : ¬ (n.toNat : Int) < (a.size : Int) := by omega
  have g3 : (a.toList == b.toList) = false := by rw [← beq_toListBytes, ba_eq]; simp [he]
  have z1 : ¬ 9223372036854775807 < (ByteArray.mk #[105, 0, 116]).size + (ByteArray.mk #[n]).size := by show ¬ 9223372036854775807 < 3 + 1; omega
  have z2 : ¬ 9223372036854775807 < (ByteArray.mk #[105, 0, 107]).size + (ByteArray.mk #[n]).size := by show ¬ 9223372036854775807 < 3 + 1; omega
  have z3 : ¬ 9223372036854775807 < a.size + b.size := by omega
  have z4 : ¬ 9223372036854775807 < a.size + a.size := by omega
  have hrv := rev_all a
  have HCV : Hid (∀ W : World, (convert 35 9 (.slice (some ⟨W.heap.size, 0, none⟩) 1 1)).run Tryd.prog (W.alloc (.cells #[.int .u8 (n.toNat : Nat)] 5)) = .ok (.string { data := #[n] }) (W.alloc (.cells #[.int .u8 (n.toNat : Nat)] 5))) := hid fun W => by
    refine Lib.run_convert_whole (P := Tryd.prog) _ 35 5 9 Tryd.underlying35 Tryd.underlying5 Tryd.underlying9 W.heap.size 0 { data := #[n] } (fun i hi => ?_) 1
    obtain rfl : i = 0 := by have : (ByteArray.mk #[n]).size = 1 := rfl; omega
    exact (cell_of (heap_alloc_new W _) 0).trans rfl
  clear hr hof hpg hcA hwA hT he
  go_enter Tryd.func6, Tryd.ntmps6
  go_wp2_with (go_at_call 10; refine haw.mono ?_; rintro e w1 ⟨rfl, hch1⟩; have hcv := HCV.out w1; have hof := HOF.out w1 hch1)
  go_loop [11, 12] (fun s i => ∃ k : Nat, k ≤ a.size ∧ i = .int .i64 k ∧ s = .string (revS (a.extract 0 k))) (fun _ i => a.size - (intOf i).toNat)
  case atStart => exact ⟨0, Nat.zero_le _, rfl, by simp [revS]⟩
  case round =>
    obtain ⟨k, hk, rfl, rfl⟩ := hrel
    by_cases hkn : k < a.size
    · have hkn' : (k : Int) < (a.size : Int) := by omega
      have hk1 : (k : Int) + 1 ≤ (a.size : Int) := by omega
      have hk2 : (k : Int) ≤ (k : Int) + 1 := by omega
      have hk3 : IntKind.i64.wrap ((k : Int) + 1) = (k : Int) + 1 := IntWalk.i64_in _ (by omega)
      have hk4 : ((k : Int) + 1).toNat = k + 1 := by omega
      have zk : ¬ 9223372036854775807 < (a.extract k (k + 1)).size + (revS (a.extract 0 k)).size := by rw [revS_size, ByteArray.size_extract, ByteArray.size_extract]; omega
      go_wp2_with fail
      go_round
      case rel => exact ⟨k + 1, by omega, by go_num, by rw [rev_next a k hkn]⟩
      case measure => simp [intOf]; omega
    · obtain rfl : k = a.size := by omega
      go_wp2_with (first | (go_at_call 16; refine hof.mono ?_; rintro e w3 ⟨rfl, hc3⟩; have HC3 := hid hc3; clear hc3) | (refine wpList_alloc0 rfl 37 rfl (rowB 32 (fun _ => 0)) (alloc37 _) ?_; intro w4 ha4 hs4 hc4; clear hs4) | (refine wpList_store0 rfl 37 _ _ rfl w3.heap.size (rowB 32 (fun _ => 0)) (rowB 32 D) rfl rfl ha4 (by rw [rowB_size]; exact size37) rfl (rowB_one _ _) ?_; intro w5 hb5 hs5 hc5; clear hs5; have hby : Lib.Bytes (w5.alloc (.cells #[.string { data := #[105, 0, 105, 1, 99] }, .string { data := #[105, 0, 114] }, .string ({ data := #[105, 0, 116] } ++ { data := #[n] }), .string ({ data := #[105, 0, 107] } ++ { data := #[n] }), .string { data := #[105, 0, 105, 1, 61] }, .string { data := #[105, 0, 104] }, .string { data := #[105, 0, 105, 1, 115, 120] }, .string { data := #[105, 0, 100, 99] }] 39)) w3.heap.size 0 hs := fun i hi => cell_alloc' (by rw [Nat.zero_add, rowB_cell hb5 i (by rw [hps] at hi; exact hi), HPG.out i hi]) _; have hcv2 := Lib.run_convert_whole (P := Tryd.prog) (w5.alloc (.cells #[.string { data := #[105, 0, 105, 1, 99] }, .string { data := #[105, 0, 114] }, .string ({ data := #[105, 0, 116] } ++ { data := #[n] }), .string ({ data := #[105, 0, 107] } ++ { data := #[n] }), .string { data := #[105, 0, 105, 1, 61] }, .string { data := #[105, 0, 104] }, .string { data := #[105, 0, 105, 1, 115, 120] }, .string { data := #[105, 0, 100, 99] }] 39)) 35 5 9 Tryd.underlying35 Tryd.underlying5 Tryd.underlying9 w3.heap.size 0 hs hby 32; rw [hps] at hcv2; clear hby))
      have hc15 : Chg (fun _ => False) w w5 := (((hch1.alloc _).alloc _).trans HC3.out (fun _ _ h => h)).trans (hc4.trans hc5 (fun i hi h => by omega) : Chg (fun _ => False) w3 w5) (fun _ _ h => h)
      refine wp_gen (fun W => (∀ i, i < 8 → W.cell? ⟨w5.heap.size, i, none⟩ = some (.string (cF i))) ∧ (∀ i, i < 8 → W.cell? ⟨w5.heap.size + 1, i, none⟩ = some (.string (wF i))) ∧ Chg (fun _ => False) w W) ⟨fun i hi => cell_alloc' ((cell_of (heap_alloc_new w5 _) i).trans (HCA.out i hi)) _, fun i hi => newcell1 w5 _ _ _ i _ (HWA.out i hi), (hc15.alloc _).alloc _⟩ ?_
      rintro W0 ⟨hcc, hcw, hcW⟩
      have HCC := hid hcc
      have HCW := hid hcw
      have HW0 := hid hcW
      clear hcc hcw hcW hcv2 hb5 hc5 ha4 hc4 hc15 HC3 hcv hof
      go_loopw [17] (fun i wr => ∃ k : Nat, k ≤ 8 ∧ i = .int .i64 k ∧ Chg (fun _ => False) W0 wr) (fun i _ => 8 - (intOf i).toNat)
      case atStart => exact ⟨0, Nat.zero_le _, rfl, Chg.refl _ _⟩
      case round =>
        obtain ⟨k, hk, rfl, hch⟩ := hrel
        by_cases hk8 : k < 8
        · have hk8' : (k : Int) < 8 := by omega
          have kc := hch.cell (HCC.out k hk8) (fun h => h)
          have kw := hch.cell (HCW.out k hk8) (fun h => h)
          have hrun := HR.out k hk8 wr (HW0.out.trans hch (fun _ _ h => h))
          go_wp2_with (go_at_call 11; refine hrun.mono ?_; rintro e w7 ⟨m, rfl, hch7⟩; have kw7 := cell_alloc' (hch7.cell kw (fun h => h)) (.cells #[.int .i64 0, .string (wF k)] 26))
          go_quiet (fail)
          go_wp2_with fail
          go_roundw
          case rel => exact ⟨k + 1, by omega, by go_num, ((hch.trans hch7 (fun _ _ h => h)).alloc _).drewN _⟩
          case measure => simp [intOf]; omega
        · obtain rfl : k = 8 := by omega
          go_wp2_with fail
          go_ret
          exact ⟨rfl, HW0.out.trans hch (fun _ _ h => h)⟩

set_option maxRecDepth 100000 in
theorem millWords_any (a : ByteArray) (hsa : a.size ≤ maxLen) (b : ByteArray) (hsb : b.size ≤ maxLen) (x : Int) (wx : (Lit.int .u8 x).wf = true) (w : World) (hT : TabsOK w.heap.size w) :
    Calls Tryd.prog 6 #[.string a, .string b, .int .u8 x] w (Rets (.bool true) (Chg (fun _ => False) w)) := by
  unfold maxLen at hsa hsb
  have haw := awake_any w hT
  have hx : 0 ≤ x ∧ x < 256 := by
    simp only [Lit.wf, Bool.and_eq_true, decide_eq_true_eq] at wx
    obtain ⟨h1, h2⟩ := wx
    have e1 : IntKind.u8.min = 0 := rfl
    have e2 : IntKind.u8.max = 255 := rfl
    rw [e1] at h1
    rw [e2] at h2
    omega
  obtain ⟨n, rfl⟩ : ∃ n : UInt8, x = (n.toNat : Nat) := ⟨UInt8.ofNat x.toNat, by rw [UInt8.toNat_ofNat']; omega⟩
  by_cases c1 : 200 < a.size
  · have d1 : decide ((200 : Int) < (a.size : Int)) = true := by simp; omega
    clear hT
    go_enter Tryd.func6, Tryd.ntmps6
    go_wp2_with (go_at_call 10; refine haw.mono ?_; rintro e w1 ⟨rfl, hch1⟩)
    go_ret
    exact ⟨rfl, hch1⟩
  by_cases c2 : 200 < b.size
  · have d1 : decide ((200 : Int) < (a.size : Int)) = false := by simp; omega
    have d2 : decide ((200 : Int) < (b.size : Int)) = true := by simp; omega
    clear hT
    go_enter Tryd.func6, Tryd.ntmps6
    go_wp2_with (go_at_call 10; refine haw.mono ?_; rintro e w1 ⟨rfl, hch1⟩)
    go_ret
    exact ⟨rfl, hch1⟩
  have ha : a.size ≤ 200 := by omega
  have hb : b.size ≤ 200 := by omega
  have hof : ∀ W, Chg (fun _ => False) w W → Calls Tryd.prog 16 #[.slice (some ⟨W.heap.size + 1, 0, none⟩) 1 1] ((W.alloc (.cells #[.int .u8 (n.toNat : Nat)] 5)).alloc (.cells #[.string a] 9)) (Rets (.agg (rowB 32 (ofB [a]))) (Chg (fun _ => False) ((W.alloc (.cells #[.int .u8 (n.toNat : Nat)] 5)).alloc (.cells #[.string a] 9)))) := fun W hW => by
    have hT2 := hT.up ((hW.alloc (.cells #[.int .u8 (n.toNat : Nat)] 5)).alloc (.cells #[.string a] 9))
    refine of_any _ [a] _ 1 1 rfl (by simp) (by simp [sumSize]; omega) (fun i hi => ?_) (by simp) hT2.wds hT2.gw
    obtain rfl : i = 0 := by simpa using hi
    exact newcell1 W _ _ _ 0 _ rfl
  have hcA : ∀ i, i < 8 → (#[.string { data := #[105, 0, 105, 1, 99] }, .string { data := #[105, 0, 114] }, .string ({ data := #[105, 0, 116] } ++ { data := #[n] }), .string ({ data := #[105, 0, 107] } ++ { data := #[n] }), .string { data := #[105, 0, 105, 1, 61] }, .string { data := #[105, 0, 104] }, .string { data := #[105, 0, 105, 1, 115, 120] }, .string { data := #[105, 0, 100, 99] }] : Array Value)[i]? = some (.string ((codesL n).getD i .empty)) := fun i hi => match i, hi with
    | 0, _ => rfl
    | 1, _ => rfl
    | 2, _ => rfl
    | 3, _ => rfl
    | 4, _ => rfl
    | 5, _ => rfl
    | 6, _ => rfl
    | 7, _ => rfl
  by_cases hlt : n.toNat < a.size
  · by_cases he : a = b
    · exact words_11 a b n w hT ha hb hlt he _ _ (wordsRun w hT a b n ha hb) (hashS a) (ofB [a]) (hashS_size a) (hashS_get a) hof hcA (fun i hi => match i, hi with
      | 0, _ => rfl
      | 1, _ => rfl
      | 2, _ => by show some (Value.string (a.extract 0 n.toNat)) = some (Value.string (headS a n)); rw [(head_lt hlt).1]
      | 3, _ => by show some (Value.string (a.extract n.toNat a.size)) = some (Value.string (tailS a n)); rw [(head_lt hlt).2]
      | 4, _ => by show some (Value.string { data := #[49] }) = some (Value.string (sameS a b)); rw [show sameS a b = { data := #[49] } from if_pos he]
      | 5, _ => rfl
      | 6, _ => rfl
      | 7, _ => rfl)
    · exact words_10 a b n w hT ha hb hlt he _ _ (wordsRun w hT a b n ha hb) (hashS a) (ofB [a]) (hashS_size a) (hashS_get a) hof hcA (fun i hi => match i, hi with
      | 0, _ => rfl
      | 1, _ => rfl
      | 2, _ => by show some (Value.string (a.extract 0 n.toNat)) = some (Value.string (headS a n)); rw [(head_lt hlt).1]
      | 3, _ => by show some (Value.string (a.extract n.toNat a.size)) = some (Value.string (tailS a n)); rw [(head_lt hlt).2]
      | 4, _ => by show some (Value.string { data := #[] }) = some (Value.string (sameS a b)); rw [show sameS a b = { data := #[] } from if_neg he]
      | 5, _ => rfl
      | 6, _ => rfl
      | 7, _ => rfl)
  · have hlt : a.size ≤ n.toNat := by omega
    by_cases he : a = b
    · exact words_01 a b n w hT ha hb hlt he _ _ (wordsRun w hT a b n ha hb) (hashS a) (ofB [a]) (hashS_size a) (hashS_get a) hof hcA (fun i hi => match i, hi with
      | 0, _ => rfl
      | 1, _ => rfl
      | 2, _ => by show some (Value.string (a)) = some (Value.string (headS a n)); rw [(head_ge hlt).1]
      | 3, _ => by show some (Value.string ({ data := #[] })) = some (Value.string (tailS a n)); rw [(head_ge hlt).2]
      | 4, _ => by show some (Value.string { data := #[49] }) = some (Value.string (sameS a b)); rw [show sameS a b = { data := #[49] } from if_pos he]
      | 5, _ => rfl
      | 6, _ => rfl
      | 7, _ => rfl)
    · exact words_00 a b n w hT ha hb hlt he _ _ (wordsRun w hT a b n ha hb) (hashS a) (ofB [a]) (hashS_size a) (hashS_get a) hof hcA (fun i hi => match i, hi with
      | 0, _ => rfl
      | 1, _ => rfl
      | 2, _ => by show some (Value.string (a)) = some (Value.string (headS a n)); rw [(head_ge hlt).1]
      | 3, _ => by show some (Value.string ({ data := #[] })) = some (Value.string (tailS a n)); rw [(head_ge hlt).2]
      | 4, _ => by show some (Value.string { data := #[] }) = some (Value.string (sameS a b)); rw [show sameS a b = { data := #[] } from if_neg he]
      | 5, _ => rfl
      | 6, _ => rfl
      | 7, _ => rfl)
end Go.Proofs.YtegappcdmaodjaaDoor
