/- The law MillStands walked. -/
import Derived.Test.YtegappcdmaodjaaDoorMiY
namespace Go.Proofs.YtegappcdmaodjaaDoor
open Go.RowKit

set_option maxRecDepth 100000 in
set_option maxHeartbeats 4000000 in
theorem millStands_any (code : ByteArray) (hs : code.size ≤ maxLen) (v : Value) (ins : List ByteArray) (junk : ByteArray) (hsj : junk.size ≤ maxLen) (w : World) (hin : StrsAt w v ins) (hT : TabsOK w.heap.size w) :
    Calls Tryd.prog 7 #[.string code, v, .string junk] w (Rets (.bool true) (Chg (fun _ => False) w)) := by
  have ha := awake_any w hT
  have hlenI := fun W ty => hin.len (P := Tryd.prog) Tryd.underlying22 W ty
  have HIN := hid hin
  have HTT := hid hT
  unfold maxLen at hs hsj
  clear hin hT
  by_cases c1 : 40 < ins.length
  · have d1 : decide ((40 : Int) < (ins.length : Int)) = true := by simp; omega
    go_enter Tryd.func7, Tryd.ntmps7
    go_wp2_with (go_at_call 10; refine ha.mono ?_; rintro e w1 ⟨rfl, hch1⟩)
    go_ret
    exact ⟨rfl, hch1⟩
  have d1 : decide ((40 : Int) < (ins.length : Int)) = false := by simp; omega
  by_cases c2 : 30 < junk.size
  · have d2 : decide ((30 : Int) < (junk.size : Int)) = true := by simp; omega
    go_enter Tryd.func7, Tryd.ntmps7
    go_wp2_with (go_at_call 10; refine ha.mono ?_; rintro e w1 ⟨rfl, hch1⟩)
    go_ret
    exact ⟨rfl, hch1⟩
  have d2 : decide ((30 : Int) < (junk.size : Int)) = false := by simp; omega
  have hw62 : IntKind.i64.wrap (62 - (junk.size : Int)) = 62 - (junk.size : Int) := IntWalk.i64_in _ (by omega)
  by_cases c3 : 62 < code.size + junk.size
  · have d3 : decide (62 - (junk.size : Int) < (code.size : Int)) = true := by simp; omega
    go_enter Tryd.func7, Tryd.ntmps7
    go_wp2_with (go_at_call 10; refine ha.mono ?_; rintro e w1 ⟨rfl, hch1⟩)
    go_ret
    exact ⟨rfl, hch1⟩
  have d3 : decide (62 - (junk.size : Int) < (code.size : Int)) = false := by simp; omega
  have hst := steps_to code (by unfold maxLen; omega)
  have hlen := stepsR_len code
  unfold StepsTo at hst
  rcases hq : stepsR code with ⟨l, c⟩
  rw [hq] at hst hlen
  by_cases h0 : c = 0
  · subst h0
    obtain ⟨hj, hne⟩ := stepsR_ok hq
    have HN := hid hne
    have HQ := hid hq
    clear hj hne hq
    go_enter Tryd.func7, Tryd.ntmps7
    go_wp2_with (first | (go_at_call 10; refine ha.mono ?_; rintro e w1 ⟨rfl, hch1⟩) | (go_at_call 13; refine (hst _).mono ?_; rintro e w2 ⟨v1, rfl, ho1, hch2⟩; have hlenV := fun W ty => run_len_own (P := Tryd.prog) Tryd.underlying22 ho1 W ty))
    go_loop [9] (fun i => ∃ k : Nat, k ≤ l.length ∧ i = .int .i64 k ∧ ∀ j (h : j < l.length), j < k → ∀ (h : 0 < l[j].size), l[j][0] ≠ 106 ∧ l[j][0] ≠ 103) (fun i => l.length - (intOf i).toNat)
    case atStart => exact ⟨0, Nat.zero_le _, rfl, fun j _ h => absurd h (Nat.not_lt_zero _)⟩
    case round =>
      obtain ⟨k, hk, rfl, hall⟩ := hrel
      have HAL := hid hall
      clear hall
      by_cases hkn : k < l.length
      · have hkn' : (k : Int) < l.length := by omega
        obtain ⟨g1, cap1, rfl, hc1, hg1⟩ := owns_some ho1 (by omega)
        have k1 : w2.cell? ⟨g1, k, none⟩ = some (.string l[k]) := by have := ho1.cellAt k (by simpa using hkn); simpa [List.getElem?_eq_getElem hkn] using this
        have hpos : 0 < l[k].size := Nat.pos_of_ne_zero (HN.out _ (List.getElem_mem hkn))
        have hpos' : (0 : Int) < (l[k].size : Int) := by omega
        by_cases e1 : l[k][0] = 106
        · have e1' : ((l[k][0].toNat : Int) == 106) = true := by rw [e1]; rfl
          go_wp2_with fail
          go_ret
          exact ⟨rfl, hch1.trans hch2 (fun _ _ h => h)⟩
        · have e1' : ((l[k][0].toNat : Int) == 106) = false := by
            simp
            intro e
            exact e1 (UInt8.toNat_inj.1 (by have : (106 : UInt8).toNat = 106 := rfl; omega))
          by_cases e2 : l[k][0] = 103
          · have e2' : ((l[k][0].toNat : Int) == 103) = true := by rw [e2]; rfl
            go_wp2_with fail
            go_ret
            exact ⟨rfl, hch1.trans hch2 (fun _ _ h => h)⟩
          · have e2' : ((l[k][0].toNat : Int) == 103) = false := by
              simp
              intro e
              exact e2 (UInt8.toNat_inj.1 (by have : (103 : UInt8).toNat = 103 := rfl; omega))
            go_wp2_with fail
            go_round
            case rel =>
              refine ⟨k + 1, by omega, by go_num, fun j hj hjk hp => ?_⟩
              by_cases e : j = k
              · subst e; exact ⟨e1, e2⟩
              · exact HAL.out j hj (by omega) hp
            case measure => simp [intOf]; omega
      · obtain rfl : k = l.length := by omega
        have hJ : ∀ x ∈ l, ∀ (h : 0 < x.size), x[0] ≠ 106 ∧ x[0] ≠ 103 := by
          intro x hx hp
          obtain ⟨j, hj, rfl⟩ := List.mem_iff_getElem.1 hx
          exact HAL.out j hj hj hp
        have hpure := stands_pure hashS ins junk code (by omega) (by omega) l HQ.out hJ
        have hnf := (runOut_facts hashS code ins).n
        have hc12 := hch1.trans hch2 (fun _ _ h => h)
        have hr1 := run_h code (by unfold maxLen; omega) v ins w w2 HIN.out HTT.out hc12
        have hr2 : ∀ W, Chg (fun _ => False) w W → _ := fun W hc => run_h (preJ junk ++ code) (by rw [ByteArray.size_append, preJ_size]; unfold maxLen; omega) v ins w W HIN.out HTT.out hc
        generalize runOut hashS code ins = q at hpure hr1 hnf
        generalize runOut hashS (preJ junk ++ code) ins = q' at hpure hr2
        obtain ⟨⟨c, bl⟩, n⟩ := q
        obtain ⟨⟨c', bl'⟩, n'⟩ := q'
        simp only at hpure hr1 hr2 hnf
        have hk8 : IntKind.u8.wrap (2 + (junk.size : Int)) = 2 + (junk.size : Int) := by rw [IntKind.wrap_u8]; omega
        have hk9 : (2 + (junk.size : Int)) % 256 = 2 + (junk.size : Int) := by omega
        have hw2 : IntKind.i64.wrap (2 + (junk.size : Int)) = 2 + (junk.size : Int) := IntWalk.i64_in _ (by omega)
        have hwn : IntKind.i64.wrap ((n : Int) + 1) = (n : Int) + 1 := IntWalk.i64_in _ (by omega)
        obtain ⟨K8, hK8⟩ : ∃ K8 : UInt8, K8 = UInt8.ofNat (2 + junk.size) := ⟨_, rfl⟩
        unfold preJ at hr2
        rw [← hK8] at hr2
        have HR2 := hid hr2
        have HCV : Hid (∀ W : World, (convert 35 9 (.slice (some ⟨W.heap.size + 1, 0, none⟩) 1 1)).run Tryd.prog ((W.alloc (.cells #[.int .i64 c, .string bl] 26)).alloc (.cells #[.int .u8 (2 + (junk.size : Int))] 5)) = .ok (.string { data := #[K8] }) ((W.alloc (.cells #[.int .i64 c, .string bl] 26)).alloc (.cells #[.int .u8 (2 + (junk.size : Int))] 5))) := hid fun W => by
          refine Lib.run_convert_whole (P := Tryd.prog) _ 35 5 9 Tryd.underlying35 Tryd.underlying5 Tryd.underlying9 (W.heap.size + 1) 0 { data := #[K8] } (fun i hi => ?_) 1
          obtain rfl : i = 0 := by have : (ByteArray.mk #[K8]).size = 1 := rfl; omega
          refine (newcell1 W _ _ _ 0 _ rfl).trans ?_
          show some (Value.int .u8 (2 + (junk.size : Int))) = some (Value.int .u8 ((K8).toNat : Int))
          rw [hK8, UInt8.toNat_ofNat']
          congr 2
          omega
        have z1 : ¬ 9223372036854775807 < (ByteArray.mk #[103]).size + (ByteArray.mk #[K8]).size := by show ¬ 9223372036854775807 < 1 + 1; omega
        have z2 : ¬ 9223372036854775807 < (ByteArray.mk #[103] ++ ByteArray.mk #[K8]).size + junk.size := by rw [ByteArray.size_append]; show ¬ 9223372036854775807 < 1 + 1 + junk.size; omega
        have z3 : ¬ 9223372036854775807 < (ByteArray.mk #[103] ++ ByteArray.mk #[K8] ++ junk).size + code.size := by rw [ByteArray.size_append, ByteArray.size_append]; show ¬ 9223372036854775807 < 1 + 1 + junk.size + code.size; omega
        clear hr2 HAL HQ hJ hlen hK8
        rcases hpure with ⟨p1, p2⟩ | ⟨p1, p2, p3⟩
        · have q1 : ((c : Int) == 4) = true := by simp; omega
          have q2 : ((c' : Int) == 4) = true := by simp; omega
          clear p1 p2
          go_wp2_with (first | (go_at_call 11; refine hr1.mono ?_; rintro e w3 ⟨rfl, hch3⟩; clear hr1; have hcv := HCV.out w3; have hr3 := HR2.out _ (((hc12.trans hch3 (fun _ _ h => h)).alloc (.cells #[.int .i64 c, .string bl] 26)).alloc (.cells #[.int .u8 (2 + (junk.size : Int))] 5))) | (go_at_call 11; refine hr3.mono ?_; rintro e w4 ⟨rfl, hch4⟩; clear hr3; have b1 := heap_alloc_old' (hch4.obj (heap_alloc_old' (heap_alloc_new w3 _) _) (fun h => h)) (.cells #[.int .i64 c', .string bl'] 26); have b1c0 := cell_of b1 0; have b1c1 := cell_of b1 1))
          go_ret
          exact ⟨rfl, ((((hc12.trans hch3 (fun _ _ h => h)).alloc _).alloc _).trans hch4 (fun _ _ h => h)).alloc _⟩
        · have q1 : ((c : Int) == 4) = false := by simp; omega
          obtain ⟨h1, h2⟩ : c = c' ∧ bl = bl' := by cases p2; exact ⟨rfl, rfl⟩
          subst h1 h2
          subst p3
          clear p1 p2
          go_wp2_with (first | (go_at_call 11; refine hr1.mono ?_; rintro e w3 ⟨rfl, hch3⟩; clear hr1; have hcv := HCV.out w3; have hr3 := HR2.out _ (((hc12.trans hch3 (fun _ _ h => h)).alloc (.cells #[.int .i64 c, .string bl] 26)).alloc (.cells #[.int .u8 (2 + (junk.size : Int))] 5))) | (go_at_call 11; refine hr3.mono ?_; rintro e w4 ⟨rfl, hch4⟩; clear hr3; have b1 := heap_alloc_old' (hch4.obj (heap_alloc_old' (heap_alloc_new w3 _) _) (fun h => h)) (.cells #[.int .i64 c, .string bl] 26); have b1c0 := cell_of b1 0; have b1c1 := cell_of b1 1))
          go_ret
          exact ⟨rfl, ((((hc12.trans hch3 (fun _ _ h => h)).alloc _).alloc _).trans hch4 (fun _ _ h => h)).alloc _⟩
  · have hc0 : ((c : Int) == 0) = false := by simp; omega
    obtain ⟨hl0, hcc⟩ := stepsR_no hq h0
    clear hl0 hcc hq
    go_enter Tryd.func7, Tryd.ntmps7
    go_wp2_with (first | (go_at_call 10; refine ha.mono ?_; rintro e w1 ⟨rfl, hch1⟩) | (go_at_call 13; refine (hst _).mono ?_; rintro e w2 ⟨v1, rfl, ho1, hch2⟩))
    go_ret
    exact ⟨rfl, hch1.trans hch2 (fun _ _ h => h)⟩
end Go.Proofs.YtegappcdmaodjaaDoor
