/- The law MillBlind walked. -/
import Derived.Test.YtegappcdmaodjaaDoorMiU
namespace Go.Proofs.YtegappcdmaodjaaDoor
open Go.RowKit

theorem stepR_blind (H : ByteArray → ByteArray) (ins ins' : List ByteArray) (c : UInt8) (hc : c ≠ 105) (n : Nat) (s : ByteArray) (at_ : Nat) (l : List ByteArray) : stepR H ins c n s at_ l = stepR H ins' c n s at_ l := by
  have h1 : ¬ (c = 105 ∧ ins.length ≤ n) := fun h => hc h.1
  have h2 : ¬ (c = 105 ∧ ins'.length ≤ n) := fun h => hc h.1
  have hp : ∀ a b, putsR H ins c n s a b = putsR H ins' c n s a b := by
    intro a b
    unfold putsR
    rw [if_neg hc, if_neg hc]
  unfold stepR
  rw [if_neg h1, if_neg h2]
  simp only [hp]
theorem runR_blind (H : ByteArray → ByteArray) (code : ByteArray) (hno : ∀ i (h : i < code.size), code[i] ≠ 105) (ins ins' : List ByteArray) (f : Nat) : ∀ (at_ n : Nat) (l : List ByteArray), runR H code ins f at_ n l = runR H code ins' f at_ n l := by
  induction f with
  | zero => intro at_ n l; rfl
  | succ f ih =>
    intro at_ n l
    by_cases he : at_ = code.size
    · rw [runR_end _ _ he, runR_end _ _ he]
    · by_cases ho : code.size < at_ ∨ widN code at_ = 0
      · rw [runR_op _ _ he ho, runR_op _ _ he ho]
      · have hlt : at_ < code.size := by omega
        rw [runR_step f n he ho rfl rfl, runR_step f n he ho rfl rfl, byteN_eq hlt, stepR_blind H ins ins' _ (hno at_ hlt)]
        split
        · exact ih _ _ _
        · rfl
theorem runOut_blind (H : ByteArray → ByteArray) (code : ByteArray) (hno : ∀ i (h : i < code.size), code[i] ≠ 105) (a b : List ByteArray) (ha : a.length ≤ 4) (hb : b.length ≤ 4) (ha2 : ∀ x ∈ a, x.size ≤ 512) (hb2 : ∀ x ∈ b, x.size ≤ 512) : runOut H code a = runOut H code b := by
  unfold runOut
  have na : ¬ ∃ s ∈ a, 512 < s.size := fun ⟨s, hs, h⟩ => by have := ha2 s hs; omega
  have nb : ¬ ∃ s ∈ b, 512 < s.size := fun ⟨s, hs, h⟩ => by have := hb2 s hs; omega
  by_cases h64 : 64 < code.size
  · rw [if_pos (.inl h64), if_pos (.inl h64)]
  · rw [if_neg (by rintro (h | h | h); exact h64 h; omega; exact na h), if_neg (by rintro (h | h | h); exact h64 h; omega; exact nb h)]
    exact runR_blind H code hno a b 300 0 0 []
theorem all_of {a : List ByteArray} (h : ∀ j (h : j < a.length), a[j].size ≤ 512) : ∀ x ∈ a, x.size ≤ 512 := by
  intro x hx
  obtain ⟨j, hj, rfl⟩ := List.mem_iff_getElem.1 hx
  exact h j hj

set_option maxRecDepth 100000 in
set_option maxHeartbeats 4000000 in
theorem millBlind_any (code : ByteArray) (hs : code.size ≤ maxLen) (va vb : Value) (a b : List ByteArray) (w : World) (hia : StrsAt w va a) (hib : StrsAt w vb b) (hT : TabsOK w.heap.size w) : Calls Tryd.prog 9 #[.string code, va, vb] w (Rets (.bool true) (Chg (fun _ => False) w)) := by
  have haw := awake_any w hT
  have hla := fun W ty => hia.len (P := Tryd.prog) Tryd.underlying22 W ty
  have hlb := fun W ty => hib.len (P := Tryd.prog) Tryd.underlying22 W ty
  have HIA := hid hia
  have HIB := hid hib
  have HTT := hid hT
  unfold maxLen at hs
  clear hia hib hT
  by_cases c1 : 4 < a.length
  · have c1' : (4 : Int) < (a.length : Int) := by omega
    have d1 : decide ((4 : Int) < (a.length : Int)) = true := by simp; omega
    go_enter Tryd.func9, Tryd.ntmps9
    go_wp2_with (go_at_call 10; refine haw.mono ?_; rintro e w1 ⟨rfl, hch1⟩)
    go_ret
    exact ⟨rfl, hch1⟩
  have c1' : (a.length : Int) ≤ 4 := by omega
  have d1 : decide ((4 : Int) < (a.length : Int)) = false := by simp; omega
  by_cases c2 : 4 < b.length
  · have d2 : decide ((4 : Int) < (b.length : Int)) = true := by simp; omega
    go_enter Tryd.func9, Tryd.ntmps9
    go_wp2_with (go_at_call 10; refine haw.mono ?_; rintro e w1 ⟨rfl, hch1⟩)
    go_ret
    exact ⟨rfl, hch1⟩
  have d2 : decide ((4 : Int) < (b.length : Int)) = false := by simp; omega
  go_enter Tryd.func9, Tryd.ntmps9
  go_wp2_with (go_at_call 10; refine haw.mono ?_; rintro e w1 ⟨rfl, hch1⟩; have HA1 := hid (HIA.out.chg hch1 (fun _ _ h => h)); have HB1 := hid (HIB.out.chg hch1 (fun _ _ h => h)))
  go_loop [7] (fun i => ∃ k : Nat, k ≤ a.length ∧ i = .int .i64 k ∧ ∀ j (h : j < a.length), j < k → a[j].size ≤ 512) (fun i => a.length - (intOf i).toNat)
  case atStart => exact ⟨0, Nat.zero_le _, rfl, fun j _ h => absurd h (Nat.not_lt_zero _)⟩
  case round =>
    obtain ⟨k, hk, rfl, hall⟩ := hrel
    have HAL := hid hall
    clear hall
    by_cases hkn : k < a.length
    · have hkn' : (k : Int) < a.length := by omega
      obtain ⟨ad, hix, hadc, hadb⟩ := HA1.out.ix (P := Tryd.prog) Tryd.underlying22 Tryd.sizeOf9 k hkn
      by_cases hw : 512 < a[k].size
      · have hw' : (512 : Int) < (a[k].size : Int) := by omega
        go_wp2_with fail
        go_ret
        exact ⟨rfl, hch1⟩
      · have hw' : (a[k].size : Int) ≤ 512 := by omega
        go_wp2_with fail
        go_round
        case rel =>
          refine ⟨k + 1, by omega, by go_num, fun j hj hjk => ?_⟩
          by_cases e : j = k
          · subst e; omega
          · exact HAL.out j hj (by omega)
        case measure => simp [intOf]; omega
    · obtain rfl : k = a.length := by omega
      have ha2 := hid (all_of fun j hj => HAL.out j hj hj)
      clear HAL
      go_wp2_with fail
      go_loop [8] (fun i => ∃ k : Nat, k ≤ b.length ∧ i = .int .i64 k ∧ ∀ j (h : j < b.length), j < k → b[j].size ≤ 512) (fun i => b.length - (intOf i).toNat)
      case atStart => exact ⟨0, Nat.zero_le _, rfl, fun j _ h => absurd h (Nat.not_lt_zero _)⟩
      case round =>
        obtain ⟨k, hk, rfl, hall⟩ := hrel
        have HAL := hid hall
        clear hall
        by_cases hkn : k < b.length
        · have hkn' : (k : Int) < b.length := by omega
          obtain ⟨ad, hix, hadc, hadb⟩ := HB1.out.ix (P := Tryd.prog) Tryd.underlying22 Tryd.sizeOf9 k hkn
          by_cases hw : 512 < b[k].size
          · have hw' : (512 : Int) < (b[k].size : Int) := by omega
            go_wp2_with fail
            go_ret
            exact ⟨rfl, hch1⟩
          · have hw' : (b[k].size : Int) ≤ 512 := by omega
            go_wp2_with fail
            go_round
            case rel =>
              refine ⟨k + 1, by omega, by go_num, fun j hj hjk => ?_⟩
              by_cases e : j = k
              · subst e; omega
              · exact HAL.out j hj (by omega)
            case measure => simp [intOf]; omega
        · obtain rfl : k = b.length := by omega
          have hb2 := hid (all_of fun j hj => HAL.out j hj hj)
          clear HAL
          go_wp2_with fail
          go_loop [9] (fun i => ∃ k : Nat, k ≤ code.size ∧ i = .int .i64 k ∧ ∀ j (h : j < code.size), j < k → code[j] ≠ 105) (fun i => code.size - (intOf i).toNat)
          case atStart => exact ⟨0, Nat.zero_le _, rfl, fun j _ h => absurd h (Nat.not_lt_zero _)⟩
          case round =>
            obtain ⟨k, hk, rfl, hall⟩ := hrel
            have HAL := hid hall
            clear hall
            by_cases hkn : k < code.size
            · have hkn' : (k : Int) < code.size := by omega
              by_cases hw : code[k] = 105
              · have hw' : ((code[k].toNat : Int) == 105) = true := by rw [hw]; rfl
                go_wp2_with fail
                go_ret
                exact ⟨rfl, hch1⟩
              · have hw' : ((code[k].toNat : Int) == 105) = false := by
                  simp
                  intro e
                  exact hw (UInt8.toNat_inj.1 (by have : (105 : UInt8).toNat = 105 := rfl; omega))
                go_wp2_with fail
                go_round
                case rel =>
                  refine ⟨k + 1, by omega, by go_num, fun j hj hjk => ?_⟩
                  by_cases e : j = k
                  · subst e; exact hw
                  · exact HAL.out j hj (by omega)
                case measure => simp [intOf]; omega
            · obtain rfl : k = code.size := by omega
              have heq := runOut_blind hashS code (fun i hi => HAL.out i hi hi) a b (by omega) (by omega) ha2.out hb2.out
              have hra := run_h code (by unfold maxLen; omega) va a w w1 HIA.out HTT.out hch1
              have hrb : ∀ W, Chg (fun _ => False) w W → Calls Tryd.prog 11 #[.string code, vb] W (Rets (.tuple #[.agg #[.int .i64 (runOut hashS code a).1.1, .string (runOut hashS code a).1.2], .int .i64 (runOut hashS code a).2]) (Chg (fun _ => False) W)) := fun W hc => by
                rw [heq]; exact run_h code (by unfold maxLen; omega) vb b w W HIB.out HTT.out hc
              generalize runOut hashS code a = q at hra hrb
              have HRB := hid hrb
              clear hrb heq HAL
              go_wp2_with (first | (go_at_call 11; refine hra.mono ?_; rintro e w2 ⟨rfl, hch2⟩; clear hra; have hr2 := HRB.out _ ((hch1.trans hch2 (fun _ _ h => h)).alloc (.cells #[.int .i64 q.1.1, .string q.1.2] 26))) | (go_at_call 11; refine hr2.mono ?_; rintro e w3 ⟨rfl, hch3⟩; clear hr2; have b1 := heap_alloc_old' (hch3.obj (heap_alloc_new w2 _) (fun h => h)) (.cells #[.int .i64 q.1.1, .string q.1.2] 26); have b1c0 := cell_of b1 0; have b1c1 := cell_of b1 1))
              go_ret
              exact ⟨rfl, ((hch1.trans hch2 (fun _ _ h => h)).alloc _ |>.trans hch3 (fun _ _ h => h)).alloc _⟩
end Go.Proofs.YtegappcdmaodjaaDoor
