/- Texts of the proof, one behind the other: apiaryref06.Run walked: runR. -/
import Derived.Test.YthglfmacjoecgaaGreatDoorMg33
import Derived.Test.YthglfmacjoecgaaGreatDoorMg35
namespace Go.Proofs.YthglfmacjoecgaaGreatDoor
open Go.RowKit

theorem plain_wid {code : ByteArray} {i : Nat} (h : i < code.size) (hz : widN code i ≠ 0) : (plainB code[i] = true → widN code i = 1) ∧ (plainB code[i] = false → 1 < widN code i) := by
  have hok := wid_ok h hz
  unfold widN at hz hok ⊢
  rw [dif_pos h] at hz hok ⊢
  split at hz
  · exact absurd rfl hz
  rename_i hle
  rw [if_neg hle] at hok ⊢
  unfold wid0 at hz hok ⊢
  refine ⟨fun hp => by rw [if_pos hp], fun hp => ?_⟩
  rw [if_neg (by rw [hp]; decide)] at hz ⊢
  split
  · omega
  · split
    · omega
    · rename_i h1 h2
      rw [if_neg h1, dif_neg h2] at hz
      exact absurd rfl hz

set_option maxRecDepth 100000 in
set_option maxHeartbeats 2000000 in
theorem rrun_long (code : ByteArray) (hs : code.size ≤ maxLen) (v : Value) (ins : List ByteArray) (w : World) (hin : StrsAt w v ins) (hbig : 64 < code.size ∨ 4 < ins.length) :
    Calls Tryz.prog 72 #[.string code, v] w (Rets (.tuple #[resV 4 .empty, .int .i64 0]) (Chg (fun _ => False) w)) := by
  unfold maxLen at hs
  have hlenI := fun W ty => hin.len (P := Tryz.prog) Tryz.underlying22 W ty
  have hmx := hin.2.1
  unfold maxLen at hmx
  by_cases c1 : 64 < code.size
  · have d1 : decide ((64 : Int) < (code.size : Int)) = true := by simp; omega
    clear hbig
    by_cases c3 : 0 < ins.length
    · have d3 : decide ((0 : Int) < (ins.length : Int)) = true := by simp; omega
      clear hin
      go_enter Tryz.func72, Tryz.ntmps72
      go_wp2_with fail
      go_loop [6, 7] (fun b i => b = .bool true ∧ i = .int .i64 0) (fun _ _ => 0)
      case atStart => exact ⟨rfl, rfl⟩
      case round =>
        obtain ⟨rfl, rfl⟩ := hrel
        go_wp2_with fail
        refine bodyPost_ret (v := .tuple #[resV 4 .empty, .int .i64 0]) (by simp [results, Tryz.results72, go_sem]; rfl) rfl ⟨rfl, (Chg.refl _ w).alloc _⟩
    · have d3 : ins.length = 0 := by omega
      clear hin
      go_enter Tryz.func72, Tryz.ntmps72
      go_wp2_with fail
      go_loop [6, 7] (fun b i => b = .bool true ∧ i = .int .i64 0) (fun _ _ => 0)
      case atStart => exact ⟨rfl, rfl⟩
      case round =>
        obtain ⟨rfl, rfl⟩ := hrel
        go_wp2_with fail
        refine bodyPost_ret (v := .tuple #[resV 4 .empty, .int .i64 0]) (by simp [results, Tryz.results72, go_sem]; rfl) rfl ⟨rfl, (Chg.refl _ w).alloc _⟩
  · have d1 : decide ((64 : Int) < (code.size : Int)) = false := by simp; omega
    have c2 : 4 < ins.length := hbig.resolve_left c1
    have d2 : decide ((4 : Int) < (ins.length : Int)) = true := by simp; omega
    have d3 : decide ((0 : Int) < (ins.length : Int)) = true := by simp; omega
    clear hin hbig
    go_enter Tryz.func72, Tryz.ntmps72
    go_wp2_with fail
    go_loop [6, 7] (fun b i => b = .bool true ∧ i = .int .i64 0) (fun _ _ => 0)
    case atStart => exact ⟨rfl, rfl⟩
    case round =>
      obtain ⟨rfl, rfl⟩ := hrel
      go_wp2_with fail
      refine bodyPost_ret (v := .tuple #[resV 4 .empty, .int .i64 0]) (by simp [results, Tryz.results72, go_sem]; rfl) rfl ⟨rfl, (Chg.refl _ w).alloc _⟩

set_option maxRecDepth 100000 in
set_option maxHeartbeats 2000000 in
theorem rrun_wide (code : ByteArray) (hs : ¬ 64 < code.size) (v : Value) (ins : List ByteArray) (w : World) (hin : StrsAt w v ins) (h4 : ¬ 4 < ins.length) (hwide : ∃ s ∈ ins, 512 < s.size) :
    Calls Tryz.prog 72 #[.string code, v] w (Rets (.tuple #[resV 4 .empty, .int .i64 0]) (Chg (fun _ => False) w)) := by
  have hlenI := fun W ty => hin.len (P := Tryz.prog) Tryz.underlying22 W ty
  have d1 : decide ((64 : Int) < (code.size : Int)) = false := by simp; omega
  have d2 : decide ((4 : Int) < (ins.length : Int)) = false := by simp; omega
  have HI := hid hin
  have hsI := hin.2.2
  have HW := hid hwide
  have HS := hid hsI
  clear hin hwide hsI
  go_enter Tryz.func72, Tryz.ntmps72
  go_wp2_with fail
  go_loop [6, 7] (fun b i => ∃ k : Nat, k ≤ ins.length ∧ i = .int .i64 k ∧ ((b = .bool false ∧ ∀ j (h : j < ins.length), j < k → ins[j].size ≤ 512) ∨ b = .bool true)) (fun _ i => ins.length - (intOf i).toNat)
  case atStart => exact ⟨0, Nat.zero_le _, rfl, .inl ⟨rfl, fun _ _ h => absurd h (Nat.not_lt_zero _)⟩⟩
  case round =>
    obtain ⟨k, hk, rfl, hb⟩ := hrel
    rcases hb with ⟨rfl, hsm⟩ | rfl
    · have hkn : k < ins.length := by
        apply Nat.lt_of_not_le
        intro hge
        obtain ⟨s, h1, h2⟩ := HW.out
        obtain ⟨j, hj, rfl⟩ := List.getElem_of_mem h1
        have := hsm j hj (by omega)
        omega
      have hkn' : (k : Int) < (ins.length : Int) := by omega
      obtain ⟨ad, hix, hadc0, hadb⟩ := HI.out.ix (P := Tryz.prog) Tryz.underlying22 Tryz.sizeOf9 k hkn
      have hadc := fun o => cell_alloc hadc0 o
      have hsk : ins[k].size ≤ 9223372036854775807 := by have := HS.out _ (List.getElem_mem hkn); unfold maxLen at this; omega
      have HSM := hid hsm
      clear hsm hadb hadc0
      by_cases hw : 512 < ins[k].size
      · have d5 : decide ((512 : Int) < (ins[k].size : Int)) = true := by simp; omega
        go_wp2_with fail
        go_round
        case rel => exact ⟨k + 1, by omega, by go_num, .inr rfl⟩
        case measure => simp [intOf]; omega
      · have d5 : decide ((512 : Int) < (ins[k].size : Int)) = false := by simp; omega
        go_wp2_with fail
        go_round
        case rel =>
          refine ⟨k + 1, by omega, by go_num, .inl ⟨rfl, fun j hj hjk => ?_⟩⟩
          rcases Nat.lt_succ_iff_lt_or_eq.1 hjk with h | h
          · exact HSM.out j hj h
          · subst h; omega
        case measure => simp [intOf]; omega
    · by_cases hkn : k < ins.length
      · have d3 : decide ((k : Int) < (ins.length : Int)) = true := by simp; omega
        go_wp2_with fail
        refine bodyPost_ret (v := .tuple #[resV 4 .empty, .int .i64 0]) (by simp [results, Tryz.results72, go_sem]; rfl) rfl ⟨rfl, (Chg.refl _ w).alloc _⟩
      · have d3 : decide ((k : Int) < (ins.length : Int)) = false := by simp; omega
        go_wp2_with fail
        refine bodyPost_ret (v := .tuple #[resV 4 .empty, .int .i64 0]) (by simp [results, Tryz.results72, go_sem]; rfl) rfl ⟨rfl, (Chg.refl _ w).alloc _⟩

set_option maxRecDepth 100000 in
set_option maxHeartbeats 4000000 in
theorem rrun_good (code : ByteArray) (hs : ¬ 64 < code.size) (oa : Option Addr) (cap : Nat) (ins : List ByteArray) (w : World) (hin : StrsAt w (.slice oa ins.length cap) ins) (h4 : ¬ 4 < ins.length) (hins : ∀ x ∈ ins, x.size ≤ 512) :
    Calls Tryz.prog 72 #[.string code, .slice oa ins.length cap] w (Rets (.tuple #[resV (runR hashS code ins 300 0 0 []).1.1 (runR hashS code ins 300 0 0 []).1.2, .int .i64 (runR hashS code ins 300 0 0 []).2]) (Chg (fun _ => False) w)) := by
  have h1' : (code.size : Int) ≤ 64 := by omega
  have d1 : decide ((64 : Int) < (code.size : Int)) = false := by simp; omega
  have d2 : decide ((4 : Int) < (ins.length : Int)) = false := by simp; omega
  have HIN := hid hin
  have HINS := hid hins
  obtain ⟨OUT, hOUT⟩ : ∃ O, O = runR hashS code ins 300 0 0 [] := ⟨_, rfl⟩
  rw [← hOUT]
  have HOUT := hid hOUT
  clear hin hins hOUT
  go_enter Tryz.func72, Tryz.ntmps72
  go_wp2_with fail
  go_loop [6, 7] (fun b i => ∃ k : Nat, k ≤ ins.length ∧ i = .int .i64 k ∧ b = .bool false) (fun _ i => ins.length - (intOf i).toNat)
  case atStart => exact ⟨0, Nat.zero_le _, rfl, rfl⟩
  case round =>
    obtain ⟨k, hk, rfl, rfl⟩ := hrel
    by_cases hkn : k < ins.length
    · have hkn' : (k : Int) < (ins.length : Int) := by omega
      obtain ⟨ad, hix, hadc0, hadb⟩ := HIN.out.ix (P := Tryz.prog) Tryz.underlying22 Tryz.sizeOf9 k hkn
      have hadc := fun o => cell_alloc hadc0 o
      have hsk : ins[k].size ≤ 512 := HINS.out _ (List.getElem_mem hkn)
      have d5 : decide ((512 : Int) < (ins[k].size : Int)) = false := by simp; omega
      clear hadb hadc0
      go_wp2_with fail
      go_round
      case rel => exact ⟨k + 1, by omega, by go_num, rfl⟩
      case measure => simp [intOf]; omega
    · obtain rfl : k = ins.length := by omega
      go_wp2_with fail
      have hRow0 : RowT ((w.alloc (.cells #[.int .i64 0, .string { data := #[] }] 47)).alloc (.cells #[] 9)) (w.heap.size + 1) 0 0 [] := by
        have := owns_emptyM (w.alloc (.cells #[.int .i64 0, .string { data := #[] }] 47)) 9 1
        simpa [RowT] using this
      have hW2 : Chg (fun _ => False) w ((w.alloc (.cells #[.int .i64 0, .string { data := #[] }] 47)).alloc (.cells #[] 9)) := ((Chg.refl _ w).alloc _).alloc _
      have hR0 : ((w.alloc (.cells #[.int .i64 0, .string { data := #[] }] 47)).alloc (.cells #[] 9)).heap[w.heap.size]? = some (.cells #[.int .i64 0, .string { data := #[] }] 47 (0, 0)) := heap_alloc_old' (heap_alloc_new _ _) _
      have hS0 : w.heap.size + 1 ≤ ((w.alloc (.cells #[.int .i64 0, .string { data := #[] }] 47)).alloc (.cells #[] 9)).heap.size := by simp
      generalize hW2e : ((w.alloc (.cells #[.int .i64 0, .string { data := #[] }] 47)).alloc (.cells #[] 9)) = W2 at hRow0 hW2 hR0 hS0 ⊢
      clear hW2e
      have HRow0 := hid hRow0
      have HW2 := hid hW2
      have HR0 := hid hR0
      clear hRow0 hW2 hR0
      go_loopw [8, 9, 10] (fun lv av nv wr => ∃ n at_ l g c, n ≤ 300 ∧ nv = .int .i64 (n : Nat) ∧ av = .int .i64 (at_ : Nat) ∧ lv = .slice (some ⟨g, 0, none⟩) l.length c ∧ RowT wr g c l.length l ∧ l.length ≤ 8 ∧ (∀ x ∈ l, x.size ≤ 512) ∧ at_ ≤ 1000 ∧ OUT = runR hashS code ins (300 - n) at_ n l ∧ Chg (fun k => w.heap.size + 1 ≤ k) W2 wr) (fun _ _ nv _ => 301 - (intOf nv).toNat)
      case atStart => exact ⟨0, 0, [], w.heap.size + 1, 0, by decide, rfl, rfl, rfl, HRow0.out, by decide, by simp, by decide, HOUT.out, Chg.refl _ _⟩
      case round =>
        obtain ⟨n, at_, l, g, c, hn, rfl, rfl, rfl, hrow, hl, hall, hat, hrun, hch⟩ := hrel
        have hR := hch.obj HR0.out (by omega)
        have r0 := cell_of hR 0
        have r1 := cell_of hR 1
        have g0 := frozen_of hR 0
        have g1 := frozen_of hR 1
        simp at r0 r1
        have HC := hid hch
        have HROW := hid hrow
        have HR := hid hrun
        have HRB := hid hR
        have HAL := hid hall
        obtain ⟨N, hNl⟩ : ∃ N, N = l.length := ⟨_, rfl⟩
        have HN := hid hNl
        rw [← hNl] at hl ⊢
        clear hch hrun hR hall hrow hNl
        by_cases he : at_ = code.size
        · have he' : ((at_ : Int) == (code.size : Int)) = true := by simp [he]
          have HQ := hid (show OUT = (endR l, n) from HR.out.trans (runR_end _ _ he))
          clear HR HOUT
          by_cases h0 : N = 0
          · have hl0 : l = [] := List.eq_nil_of_length_eq_zero (by have := HN.out; omega)
            have z0 : ((N : Int) == 0) = true := by simp [h0]
            have XS := hid (res_stored HRB.out (.int .i64 31) (.string { data := #[] }))
            clear h0
            go_wp2_with fail
            refine bodyPost_ret (v := .tuple #[resV 31 .empty, .int .i64 n]) (by simp [results, Tryz.results72, go_sem, XS.out.1, XS.out.2.1]; rfl) rfl ⟨by rw [HQ.out, hl0] <;> rfl, res_chg (own_chg HW2.out HC.out) _ _⟩
          · have z0 : ((N : Int) == 0) = false := by simp [h0]
            obtain ⟨i, hi⟩ : ∃ i, i = N - 1 := ⟨_, rfl⟩
            have z1 : IntKind.i64.wrap ((N : Int) - 1) = (i : Int) := by rw [IntWalk.i64_in _ (by omega)]; omega
            have z2 : (i : Int) < (N : Int) := by omega
            obtain ⟨b, hb⟩ : ∃ b, l[i]? = some b := ⟨_, List.getElem?_eq_getElem (by have := HN.out; omega)⟩
            have z3 := RowT.cellAt HROW.out i b hb
            have hlast : endR l = (0, b) := by
              unfold endR
              rw [List.getLast?_eq_getElem?, ← HN.out, ← hi, hb]
            have HLA := hid hlast
            have XS := hid (res_stored HRB.out (.int .i64 0) (.string b))
            clear h0 hi hb hlast
            go_wp2_with fail
            refine bodyPost_ret (v := .tuple #[resV 0 b, .int .i64 n]) (by simp [results, Tryz.results72, go_sem, XS.out.1, XS.out.2.1]; rfl) rfl ⟨by rw [HQ.out, HLA.out] <;> rfl, res_chg (own_chg HW2.out HC.out) _ _⟩
        · have he' : ((at_ : Int) == (code.size : Int)) = false := by simp; omega
          by_cases ho : code.size < at_
          · have ho' : (code.size : Int) < (at_ : Int) := by omega
            have XS := hid (res_stored HRB.out (.int .i64 32) (.string { data := #[] }))
            have HQ := hid (show OUT = ((32, .empty), n) from HR.out.trans (runR_op _ _ he (.inl ho)))
            clear HR HOUT
            go_wp2_with fail
            refine bodyPost_ret (v := .tuple #[resV 32 .empty, .int .i64 n]) (by simp [results, Tryz.results72, go_sem, XS.out.1, XS.out.2.1]; rfl) rfl ⟨by rw [HQ.out] <;> rfl, res_chg (own_chg HW2.out HC.out) _ _⟩
          · have ho' : ¬ (code.size : Int) < (at_ : Int) := by omega
            have hlt : at_ < code.size := by omega
            have hwa : ∀ w : World, Calls Tryz.prog 111 #[.string code, .int .i64 at_] w (Rets (.int .i64 (widN code at_)) (fun w' => w = w')) := fun w =>
              rwidth_any code at_ w hlt (by unfold maxLen; omega)
            by_cases hz : widN code at_ = 0
            · have hz' : ((widN code at_ : Int) == 0) = true := by simp [hz]
              have XS := hid (res_stored HRB.out (.int .i64 32) (.string { data := #[] }))
              have HQ := hid (show OUT = ((32, .empty), n) from HR.out.trans (runR_op _ _ he (.inr hz)))
              clear HR HOUT
              go_wp2_with (go_at_call 111; refine (hwa _).mono ?_; rintro e w' ⟨rfl, rfl⟩)
              refine bodyPost_ret (v := .tuple #[resV 32 .empty, .int .i64 n]) (by simp [results, Tryz.results72, go_sem, XS.out.1, XS.out.2.1]; rfl) rfl ⟨by rw [HQ.out] <;> rfl, res_chg (own_chg HW2.out HC.out) _ _⟩
            · have hz' : ((widN code at_ : Int) == 0) = false := by simp [hz]
              by_cases hf : n = 300
              · subst hf
                have XS := hid (res_stored HRB.out (.int .i64 30) (.string { data := #[] }))
                have HQ := hid (show OUT = ((30, .empty), 300) from HR.out.trans (runR_fuel _ he (fun h => h.elim (fun h => ho h) (fun h => hz h))))
                clear HR HOUT
                go_wp2_with (go_at_call 111; refine (hwa _).mono ?_; rintro e w' ⟨rfl, rfl⟩)
                refine bodyPost_ret (v := .tuple #[resV 30 .empty, .int .i64 300]) (by simp [results, Tryz.results72, go_sem, XS.out.1, XS.out.2.1]; rfl) rfl ⟨by rw [HQ.out] <;> rfl, res_chg (own_chg HW2.out HC.out) _ _⟩
              · have hf' : ((n : Int) == 300) = false := by simp; omega
                obtain ⟨k1, k2, k3, k4⟩ := wid_ok hlt hz
                obtain ⟨q1, q2⟩ := plain_wid hlt hz
                have hss : (code.extract at_ (at_ + widN code at_)).size = widN code at_ := by simp; omega
                have hs0 : (code.extract at_ (at_ + widN code at_))[0]'(by omega) = code[at_] := by simp [ByteArray.getElem_extract]
                have hwle : widN code at_ ≤ 64 := by omega
                have hstep := rstep_any (g := g) (cap := c) (N := N) (l := l) (by rw [HN.out]; exact HROW.out) (by have := HN.out; omega) HAL.out (HIN.out.chg (own_chg HW2.out HC.out) (fun _ _ h => h)) HINS.out (code.extract at_ (at_ + widN code at_)) (by omega) (by omega) (by rw [hs0]; exact k1) (by rw [hs0, hss]; exact q1) (by rw [hs0, hss]; exact q2) at_
                have hQ := runR_step (H := hashS) (ins := ins) (l := l) (300 - (n + 1)) n he (fun h => h.elim (fun h => ho h) (fun h => hz h)) rfl rfl
                rw [show (300 - (n + 1)) + 1 = 300 - n by omega] at hQ
                have hok := stepR_ok hashS ins code[at_] (numN (code.extract at_ (at_ + widN code at_))) (code.extract at_ (at_ + widN code at_)) at_ l (by have := HN.out; omega) HAL.out (by rw [hss]; omega) (by have := numN_lt (code.extract at_ (at_ + widN code at_)); omega)
                have hcd := stepR_code hashS ins code[at_] (numN (code.extract at_ (at_ + widN code at_))) (code.extract at_ (at_ + widN code at_)) at_ l
                rw [byteN_eq hlt] at hQ
                rw [hs0, hss] at hstep
                obtain ⟨W, hWe⟩ : ∃ W, W = widN code at_ := ⟨_, rfl⟩
                rw [← hWe] at hQ hok hcd hstep hwa hz' k2 k3 hwle
                have hle' : (at_ : Int) + (W : Int) ≤ (code.size : Int) := by omega
                have hle2 : (at_ : Int) ≤ (at_ : Int) + (W : Int) := by omega
                have hle3 : (0 : Int) ≤ (at_ : Int) + (W : Int) := by omega
                have hwr : IntKind.i64.wrap ((at_ : Int) + (W : Int)) = (at_ : Int) + (W : Int) := IntWalk.i64_in _ (by omega)
                have hle4 : ((at_ : Int) + (W : Int)).toNat = at_ + W := by omega
                have hnw : IntKind.i64.wrap ((n : Int) + 1) = (n : Int) + 1 := IntWalk.i64_in _ (by omega)
                generalize stepRM hashS ins code[at_] (numN (code.extract at_ (at_ + W))) (code.extract at_ (at_ + W)) at_ l = q at hQ hok hcd hstep
                have HQ := hid (HR.out.trans hQ)
                have HK := hid hok
                clear HR HOUT hok hQ q1 q2 hss hs0 k1 k4 hz hWe
                by_cases hq : q.1 = 0
                · go_wp2_with (first | (go_at_call 111; refine (hwa _).mono ?_; rintro e w' ⟨rfl, rfl⟩) | (go_at_call 112; refine hstep.mono ?_; rintro e w1 ⟨hch1, hres⟩; obtain ⟨g2, c2, to2, rfl, hrow2, hto⟩ := (hres.resolve_left (fun h => h.1 hq)).2; clear hres))
                  all_goals go_roundw
                  all_goals first
                    | (refine ⟨n + 1, q.2.1, q.2.2, g2, c2, by omega, by go_num, congrArg (Value.int .i64) (by rcases hto with ⟨h1, h2⟩ | h2 <;> omega), rfl, hrow2, HK.out.1, HK.out.2.1, HK.out.2.2, ?_, HC.out.trans hch1 (fun _ _ h => h.elim)⟩; rw [HQ.out, if_pos hq]; done)
                    | (simp [intOf]; omega)
                · go_wp2_with (first | (go_at_call 111; refine (hwa _).mono ?_; rintro e w' ⟨rfl, rfl⟩) | (go_at_call 112; refine hstep.mono ?_; rintro e w1 ⟨hch1, hres⟩; obtain ⟨hq1, rfl⟩ := hres.resolve_right (fun h => hq h.1); clear hres; have hR1 := hch1.obj HRB.out (fun h => h); have r0' := cell_of hR1 0; have r1' := cell_of hR1 1; have g0' := frozen_of hR1 0; have g1' := frozen_of hR1 1))
                  have XS := hid (res_stored hR1 (.int .i64 q.1) (.string { data := #[] }))
                  refine bodyPost_ret (v := .tuple #[resV q.1 .empty, .int .i64 (n + 1 : Nat)]) (by simp [results, Tryz.results72, go_sem, XS.out.1, XS.out.2.1]; rfl) rfl ⟨by rw [HQ.out, if_neg hq] <;> rfl, res_chg (own_chg HW2.out (HC.out.trans hch1 (fun _ _ h => h.elim))) _ _⟩
end Go.Proofs.YthglfmacjoecgaaGreatDoor
