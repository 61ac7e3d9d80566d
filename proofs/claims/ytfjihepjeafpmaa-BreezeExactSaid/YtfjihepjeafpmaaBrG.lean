/- BreezeOrders: the walk. -/
import Derived.Test.YtfjihepjeafpmaaBrF
import Derived.Deep.QuietTactic
import Derived.BigQuiet
namespace Go.Proofs.Ytfjihepjeafpmaa
open Go.RowKit

/-- A Breeze whose blocks all lie from B on. -/
def BrIn (B : Nat) (w : World) (b mb : Nat) (ls : List Ld) (l : List ((Int × Int) × Bool)) : Prop :=
  ∃ v, BrAt w b mb v ls l ∧ B ≤ b ∧ B ≤ mb ∧ (∀ k, v.ownBlock = some k → B ≤ k) ∧ B ≤ w.heap.size
theorem BrIn.step {B : Nat} {w w' : World} {b mb : Nat} {v : Value} {ls ls' : List Ld} {l l' : List ((Int × Int) × Bool)} (h : BrAt w b mb v ls l) (hb : B ≤ b) (hm : B ≤ mb) (hv : ∀ k, v.ownBlock = some k → B ≤ k) (hB : B ≤ w.heap.size)
    (hp : BrPost w b mb v ls' l' w') : BrIn B w' b mb ls' l' ∧ Chg (fun k => B ≤ k) w w' := by
  obtain ⟨v', h', hc, hf⟩ := hp
  refine ⟨⟨v', h', hb, hm, fun k hk => ?_, Nat.le_trans hB hc.size⟩, hc.mono (fun k _ hk => ?_)⟩
  · rcases hf k hk with h | h
    · exact hv k h
    · omega
  · rcases hk with rfl | rfl | hk
    · exact hb
    · exact hm
    · exact hv k hk
theorem BrIn.chg {B : Nat} {w w' : World} {b mb : Nat} {ls : List Ld} {l : List ((Int × Int) × Bool)} (h : BrIn B w b mb ls l) (hc : Chg (fun _ => False) w w') : BrIn B w' b mb ls l := by
  obtain ⟨v, h1, h2, h3, h4, h5⟩ := h
  exact ⟨v, h1.chg hc (fun h => h) (fun h => h) (fun _ _ h => h), h2, h3, h4, Nat.le_trans h5 hc.size⟩
theorem Chg.upto {B : Nat} {F : Nat → Prop} {a w w' : World} (h : Chg (fun k => B ≤ k) a w) (hc : Chg F w w') (hF : ∀ k, F k → B ≤ k) : Chg (fun k => B ≤ k) a w' := h.trans hc (fun i _ hi => hF i hi)

section
variable {B : Nat} {w : World} {b mb : Nat} {ls : List Ld} {l : List ((Int × Int) × Bool)}
/-- What such a call leaves behind, said from block B on. -/
def InPost (B : Nat) (w : World) (b mb : Nat) (ls : List Ld) (l : List ((Int × Int) × Bool)) (w' : World) : Prop := BrIn B w' b mb ls l ∧ Chg (fun k => B ≤ k) w w'
theorem put_in (h : BrIn B w b mb ls l) (fr to : Int) (s : ByteArray) (hs64 : s.size ≤ 9223372036854775807) :
    Calls Try.prog 10 #[.pointer (some ⟨b, 0, none⟩), .int .i64 fr, .int .i64 to, .string s] w (Rets (.int .i64 (putRes ls fr to s)) (InPost B w b mb (putLs ls fr to s) l)) := by
  obtain ⟨v, h1, h2, h3, h4, h5⟩ := h
  exact (put_any fr to s h1 hs64).mono fun e w' ⟨he, hp⟩ => ⟨he, BrIn.step h1 h2 h3 h4 h5 hp⟩
theorem take_in (h : BrIn B w b mb ls l) (at_ : Int) :
    Calls Try.prog 11 #[.pointer (some ⟨b, 0, none⟩), .int .i64 at_] w (Rets (.tuple #[(takeLd ls at_).val, .bool (isB ls at_)]) (InPost B w b mb (takeLs ls at_) l)) := by
  obtain ⟨v, h1, h2, h3, h4, h5⟩ := h
  exact (take_any h1 at_).mono fun e w' ⟨he, hp⟩ => ⟨he, BrIn.step h1 h2 h3 h4 h5 hp⟩
theorem copy_in (h : BrIn B w b mb ls l) (at_ : Int) :
    Calls Try.prog 12 #[.pointer (some ⟨b, 0, none⟩), .int .i64 at_] w (Rets (.bool (copyB ls at_)) (InPost B w b mb (copyLs ls at_) l)) := by
  obtain ⟨v, h1, h2, h3, h4, h5⟩ := h
  exact (copy_any h1 at_).mono fun e w' ⟨he, hp⟩ => ⟨he, BrIn.step h1 h2 h3 h4 h5 hp⟩
theorem flip_in (h : BrIn B w b mb ls l) (at_ pl mk : Int) :
    Calls Try.prog 13 #[.pointer (some ⟨b, 0, none⟩), .int .i64 at_, .int .i64 pl, .int .i64 mk] w (Rets (.int .i64 (flipR ls at_ pl mk)) (InPost B w b mb (flipLs ls at_ pl mk) l)) := by
  obtain ⟨v, h1, h2, h3, h4, h5⟩ := h
  exact (flip_any h1 at_ pl mk).mono fun e w' ⟨he, hp⟩ => ⟨he, BrIn.step h1 h2 h3 h4 h5 hp⟩
theorem cut_in (h : BrIn B w b mb ls l) (x y : Int) :
    Calls Try.prog 19 #[.pointer (some ⟨b, 0, none⟩), .int .i64 x, .int .i64 y] w (Rets (.tuple #[]) (InPost B w b mb ls (cutL l x y))) := by
  obtain ⟨v, h1, h2, h3, h4, h5⟩ := h
  exact (cut_any h1 x y).mono fun e w' ⟨he, hp⟩ => ⟨he, BrIn.step h1 h2 h3 h4 h5 hp⟩
theorem heal_in (h : BrIn B w b mb ls l) (x y : Int) :
    Calls Try.prog 21 #[.pointer (some ⟨b, 0, none⟩), .int .i64 x, .int .i64 y] w (Rets (.tuple #[]) (InPost B w b mb ls (ldel (encK x y) l))) := by
  obtain ⟨v, h1, h2, h3, h4, h5⟩ := h
  exact (heal_any h1 x y).mono fun e w' ⟨he, hp⟩ => ⟨he, BrIn.step h1 h2 h3 h4 h5 hp⟩
theorem len_in (h : BrIn B w b mb ls l) : Calls Try.prog 22 #[.pointer (some ⟨b, 0, none⟩)] w (Rets (.int .i64 ls.length) (fun w' => w = w')) := by
  obtain ⟨v, h1, _⟩ := h
  exact len_any h1
theorem apart_in (h : BrIn B w b mb ls l) (x y : Int) :
    Calls Try.prog 23 #[.pointer (some ⟨b, 0, none⟩), .int .i64 x, .int .i64 y] w (Rets (.bool (apartB l x y)) (fun w' => w = w')) := by
  obtain ⟨v, h1, _⟩ := h
  exact apart_any h1 x y
end

theorem new_in (w : World) : Calls Try.prog 9 #[] w
    (Rets (.pointer (some ⟨w.heap.size + 1, 0, none⟩)) (fun w' => BrIn w.heap.size w' (w.heap.size + 1) w.heap.size [] [] ∧ Chg (fun _ => False) w w')) :=
  (new_any w).mono fun e w' ⟨he, h1, h2⟩ => ⟨he, ⟨_, h1, by omega, by omega, fun k hk => by simp [Value.ownBlock] at hk, h2.size⟩, h2⟩

def ordLs (ss : List ByteArray) (k : Nat) : List Ld := (List.range k).map fun (i : Nat) => ⟨1 + (i : Int) % 5, 6, ss.getD i ByteArray.empty, false⟩
theorem ordLs_len (ss : List ByteArray) (k : Nat) : (ordLs ss k).length = k := by simp [ordLs]
theorem ordLs_succ (ss : List ByteArray) (k : Nat) (h : k < ss.length) : ordLs ss (k + 1) = ordLs ss k ++ [⟨1 + (k : Int) % 5, 6, ss[k], false⟩] := by
  simp [ordLs, List.range_succ, List.getD_eq_getElem?_getD, h]
theorem ordLs_get (ss : List ByteArray) (n k : Nat) (h : k < n) (hs : k < ss.length) : (ordLs ss n)[k]? = some ⟨1 + (k : Int) % 5, 6, ss[k], false⟩ := by
  simp [ordLs, h, List.getD_eq_getElem?_getD, hs]

theorem sz9 (w : World) : (sizeOf 9).run Try.prog w = .ok 1 w := by kernel_rfl

set_option maxRecDepth 100000 in
set_option maxHeartbeats 2000000 in
theorem orders_walk (w : World) (v : Value) (ss : List ByteArray) (hS : StrsAt w v ss) :
    Calls Try.prog 3 #[v] w (Rets (.bool true) (fun w' => Chg (fun _ => False) w w')) := by
  have hlen := hS.len (P := Try.prog) Try.underlying22
  by_cases hn : ss.length ≤ 200
  · have hn' : (ss.length : Int) ≤ 200 := by omega
    go_enter Try.func3, Try.ntmps3
    go_wp2_with (first | (go_at_call 8; refine (awake_any _).mono ?_; rintro e w1 ⟨rfl, hc1⟩) | (go_at_call 9; refine (new_in _).mono ?_; rintro e w2 ⟨rfl, hB2, hc2⟩))
    have hst2 : InPost w1.heap.size w1 (w1.heap.size + 1) w1.heap.size (ordLs ss 0) [] w2 := ⟨hB2, hc2.mono (fun _ _ h => h.elim)⟩
    clear hB2 hc2
    go_loopw [4] (fun i wr => ∃ k : Nat, k ≤ ss.length ∧ i = .int .i64 k ∧ InPost w1.heap.size w1 (w1.heap.size + 1) w1.heap.size (ordLs ss k) [] wr) (fun i _ => ss.length - (intOf i).toNat)
    case atStart => exact ⟨0, Nat.zero_le _, rfl, hst2⟩
    case round =>
      obtain ⟨k, hk, rfl, hI, hC⟩ := hrel
      have hol := ordLs_len ss k
      by_cases hkn : k < ss.length
      · obtain ⟨a, hix, hca, hlt⟩ := hS.ix (P := Try.prog) Try.underlying22 sz9 k hkn
        have hca2 := hC.cell (hc1.cell hca (fun h => h)) (by simp; have := hc1.size; omega)
        have hsz := hS.2.2 ss[k] (List.getElem_mem _)
        unfold maxLen at hsz
        have hkn' : (k : Int) < ss.length := by omega
        by_cases hbig : ss[k].size ≤ 4096
        · have hbig' : (ss[k].size : Int) ≤ 4096 := by omega
          have hput : putRes (ordLs ss k) (1 + (k : Int) % 5) 6 ss[k] = 0 := by
            unfold putRes
            rw [if_neg (by simp [pairB]; omega), if_neg (by omega)]
          have hls : putLs (ordLs ss k) (1 + (k : Int) % 5) 6 ss[k] = ordLs ss (k + 1) := by
            unfold putLs; rw [if_pos hput, ordLs_succ ss k hkn]
          have HL := hid hls
          clear hls hol
          go_wp2_with (go_at_call 10; refine (put_in hI _ _ _ (by omega)).mono ?_; rintro e w3 ⟨rfl, hI3⟩)
          go_roundw
          case rel => exact ⟨k + 1, by omega, by go_num, by rw [← HL.out]; exact hI3.1, hC.upto hI3.2 (fun _ h => h)⟩
          case measure => simp [intOf]; omega
        · have hbig' : 4096 < (ss[k].size : Int) := by omega
          go_wp2_with fail
          go_ret
          exact ⟨rfl, hc1.trans hC (fun i hi h => by have := hc1.size; omega)⟩
      · obtain rfl : k = ss.length := by omega
        go_wp2_with fail
        have hst3 : InPost w1.heap.size w1 (w1.heap.size + 1) w1.heap.size ((ordLs ss ss.length).drop 0) [] wr := ⟨hI, hC⟩
        clear hI hC hst2 hol
        obtain ⟨w3, hw3⟩ : ∃ w3, w3 = wr := ⟨wr, rfl⟩
        rw [← hw3] at hst3 ⊢
        clear hw3
        go_loopw [5] (fun i wr => ∃ k : Nat, k ≤ ss.length ∧ i = .int .i64 k ∧ InPost w1.heap.size w1 (w1.heap.size + 1) w1.heap.size ((ordLs ss ss.length).drop k) [] wr) (fun i _ => ss.length - (intOf i).toNat)
        case atStart => exact ⟨0, Nat.zero_le _, rfl, hst3⟩
        case round =>
          obtain ⟨k, hk, rfl, hI, hC⟩ := hrel
          by_cases hkn : k < ss.length
          · obtain ⟨a, hix, hca, hlt⟩ := hS.ix (P := Try.prog) Try.underlying22 sz9 k hkn
            have hkn' : (k : Int) < ss.length := by omega
            have hg := ordLs_get ss ss.length k hkn hkn
            have hgd : (ordLs ss ss.length).drop k = ⟨1 + (k : Int) % 5, 6, ss[k], false⟩ :: (ordLs ss ss.length).drop (k + 1) := by
              rw [← List.getElem_cons_drop (h := by rw [ordLs_len]; exact hkn)]
              congr 1
              exact List.getElem_eq_iff _ |>.2 hg
            rw [hgd] at hI
            have hib : isB ((⟨1 + (k : Int) % 5, 6, ss[k], false⟩ : Ld) :: (ordLs ss ss.length).drop (k + 1)) 0 = true := by simp [isB]
            clear hg hgd
            go_wp2_with (go_at_call 11; refine (take_in hI 0).mono ?_; rintro e w4 ⟨rfl, hI4⟩; rw [hib]; rw [show takeLd ((⟨1 + (k : Int) % 5, 6, ss[k], false⟩ : Ld) :: (ordLs ss ss.length).drop (k + 1)) 0 = ⟨1 + (k : Int) % 5, 6, ss[k], false⟩ from by unfold takeLd; rw [if_pos hib]; rfl]; unfold Ld.val)
            have hC4 := hC.upto hI4.2 (fun _ h => h)
            have hca4 := hC4.cell (hc1.cell hca (fun h => h)) (by simp; have := hc1.size; omega)
            have hlt4 : a.block < w4.heap.size := by have := hC4.size; have := hc1.size; omega
            have hls : takeLs ((⟨1 + (k : Int) % 5, 6, ss[k], false⟩ : Ld) :: (ordLs ss ss.length).drop (k + 1)) 0 = (ordLs ss ss.length).drop (k + 1) := by unfold takeLs; rw [if_pos hib]; rfl
            rw [hls] at hI4
            clear hls hib
            have t1 : (k : Int).tmod 5 = (k : Int) % 5 := Int.tmod_eq_emod_of_nonneg (by omega)
            have t2 : IntKind.i64.wrap (1 + (k : Int) % 5) = 1 + (k : Int) % 5 := IntWalk.i64_in _ (by omega)
            have t3 : IntKind.i64.wrap ((k : Int) % 5) = (k : Int) % 5 := IntWalk.i64_in _ (by omega)
            go_quiet (fail)
            clear t1 t2 t3
            go_wp2_with fail
            go_roundw
            case rel => exact ⟨k + 1, by omega, by go_num, hI4.1.chg (((Chg.refl _ w4).alloc _).drewN nq), (hC4.alloc _).drewN nq⟩
            case measure => simp [intOf]; omega
          · obtain rfl : k = ss.length := by omega
            have hd : (ordLs ss ss.length).drop ss.length = [] := by rw [List.drop_eq_nil_iff, ordLs_len]; exact Nat.le_refl _
            rw [hd] at hI
            clear hd
            go_wp2_with (go_at_call 11; refine (take_in hI 0).mono ?_; rintro e w4 ⟨rfl, hI4⟩; rw [show isB ([] : List Ld) 0 = false from rfl, show takeLd [] 0 = Ld.none from rfl]; unfold Ld.val Ld.none)
            go_ret
            exact ⟨rfl, (hc1.trans (hC.upto hI4.2 (fun _ h => h)) (fun i hi h => by have := hc1.size; omega)).alloc _⟩
  · have hn' : 200 < (ss.length : Int) := by omega
    go_enter Try.func3, Try.ntmps3
    go_wp2_with (go_at_call 8; refine (awake_any _).mono ?_; rintro e w1 ⟨rfl, hc1⟩)
    go_ret
    exact ⟨rfl, hc1⟩
end Go.Proofs.Ytfjihepjeafpmaa
