/- Texts of the proof, one behind the other: apiaryref06.Run walked: runR; The law MillExact walked; oven.Make walked; What a build with sources is: whether it can be made; how wide what it makes is; its keys. No program in sight; What '==' says of digests, results and records; What comes in: sources, results, digests, records; Rows of the call's own, read; a slice made by its length; Results of actions with their names; what '==' says of them; A build that is made: its cells, what it is made to be; what Build and Keys answer; apiaryref09.Make walked; oven.Record, apiaryref09.Record walked. -/
import Derived.Test.YthglfmacjoecgaaGreatDoorMg16
import Derived.Test.YthglfmacjoecgaaGreatDoorMg17
import Derived.Test.YthglfmacjoecgaaGreatDoorMg14
import Derived.DeepKeys
import Derived.Laws.OwnMore
import Derived.Test.YthglfmacjoecgaaGreatDoorMg12
namespace Go.Proofs.YthglfmacjoecgaaGreatDoor
open Go.RowKit

theorem plain_wid {code : ByteArray} {i : Nat} (h : i < code.size) (hz : widN code i ≠ 0) : (plainB code[i] = true → widN code i = 1) ∧ (plainB code[i] = false → 1 < widN code i) := by
  have hok := wid_ok h hz
  unfold widN at hz hok ⊢
  rw [dif_pos h] at hz hok ⊢
  split at hz
  · exact absurd rfl hz
  rename_i hle
  rw [if_neg hle] at hok ⊢
  unfold wid0 at hz hok ⊢
  refine ⟨fun hp => by rw [if_pos hp], fun hp => ?_⟩
  rw [if_neg (by rw [hp]; decide)] at hz ⊢
  split
  · omega
  · split
    · omega
    · rename_i h1 h2
      rw [if_neg h1, dif_neg h2] at hz
      exact absurd rfl hz

set_option maxRecDepth 100000 in
set_option maxHeartbeats 2000000 in
theorem rrun_long (code : ByteArray) (hs : code.size ≤ maxLen) (v : Value) (ins : List ByteArray) (w : World) (hin : StrsAt w v ins) (hbig : 64 < code.size ∨ 4 < ins.length) :
    Calls Tryz.prog 72 #[.string code, v] w (Rets (.tuple #[resV 4 .empty, .int .i64 0]) (Chg (fun _ => False) w)) := by
  unfold maxLen at hs
  have hlenI := fun W ty => hin.len (P := Tryz.prog) Tryz.underlying22 W ty
  have hmx := hin.2.1
  unfold maxLen at hmx
  by_cases c1 : 64 < code.size
  · have d1 : decide ((64 : Int) < (code.size : Int)) = true := by simp; omega
    clear hbig
    by_cases c3 : 0 < ins.length
    · have d3 : decide ((0 : Int) < (ins.length : Int)) = true := by simp; omega
      clear hin
      go_enter Tryz.func72, Tryz.ntmps72
      go_wp2_with fail
      go_loop [6, 7] (fun b i => b = .bool true ∧ i = .int .i64 0) (fun _ _ => 0)
      case atStart => exact ⟨rfl, rfl⟩
      case round =>
        obtain ⟨rfl, rfl⟩ := hrel
        go_wp2_with fail
        refine bodyPost_ret (v := .tuple #[resV 4 .empty, .int .i64 0]) (by simp [results, Tryz.results72, go_sem]; rfl) rfl ⟨rfl, (Chg.refl _ w).alloc _⟩
    · have d3 : ins.length = 0 := by omega
      clear hin
      go_enter Tryz.func72, Tryz.ntmps72
      go_wp2_with fail
      go_loop [6, 7] (fun b i => b = .bool true ∧ i = .int .i64 0) (fun _ _ => 0)
      case atStart => exact ⟨rfl, rfl⟩
      case round =>
        obtain ⟨rfl, rfl⟩ := hrel
        go_wp2_with fail
        refine bodyPost_ret (v := .tuple #[resV 4 .empty, .int .i64 0]) (by simp [results, Tryz.results72, go_sem]; rfl) rfl ⟨rfl, (Chg.refl _ w).alloc _⟩
  · have d1 : decide ((64 : Int) < (code.size : Int)) = false := by simp; omega
    have c2 : 4 < ins.length := hbig.resolve_left c1
    have d2 : decide ((4 : Int) < (ins.length : Int)) = true := by simp; omega
    have d3 : decide ((0 : Int) < (ins.length : Int)) = true := by simp; omega
    clear hin hbig
    go_enter Tryz.func72, Tryz.ntmps72
    go_wp2_with fail
    go_loop [6, 7] (fun b i => b = .bool true ∧ i = .int .i64 0) (fun _ _ => 0)
    case atStart => exact ⟨rfl, rfl⟩
    case round =>
      obtain ⟨rfl, rfl⟩ := hrel
      go_wp2_with fail
      refine bodyPost_ret (v := .tuple #[resV 4 .empty, .int .i64 0]) (by simp [results, Tryz.results72, go_sem]; rfl) rfl ⟨rfl, (Chg.refl _ w).alloc _⟩

set_option maxRecDepth 100000 in
set_option maxHeartbeats 2000000 in
theorem rrun_wide (code : ByteArray) (hs : ¬ 64 < code.size) (v : Value) (ins : List ByteArray) (w : World) (hin : StrsAt w v ins) (h4 : ¬ 4 < ins.length) (hwide : ∃ s ∈ ins, 512 < s.size) :
    Calls Tryz.prog 72 #[.string code, v] w (Rets (.tuple #[resV 4 .empty, .int .i64 0]) (Chg (fun _ => False) w)) := by
  have hlenI := fun W ty => hin.len (P := Tryz.prog) Tryz.underlying22 W ty
  have d1 : decide ((64 : Int) < (code.size : Int)) = false := by simp; omega
  have d2 : decide ((4 : Int) < (ins.length : Int)) = false := by simp; omega
  have HI := hid hin
  have hsI := hin.2.2
  have HW := hid hwide
  have HS := hid hsI
  clear hin hwide hsI
  go_enter Tryz.func72, Tryz.ntmps72
  go_wp2_with fail
  go_loop [6, 7] (fun b i => ∃ k : Nat, k ≤ ins.length ∧ i = .int .i64 k ∧ ((b = .bool false ∧ ∀ j (h : j < ins.length), j < k → ins[j].size ≤ 512) ∨ b = .bool true)) (fun _ i => ins.length - (intOf i).toNat)
  case atStart => exact ⟨0, Nat.zero_le _, rfl, .inl ⟨rfl, fun _ _ h => absurd h (Nat.not_lt_zero _)⟩⟩
  case round =>
    obtain ⟨k, hk, rfl, hb⟩ := hrel
    rcases hb with ⟨rfl, hsm⟩ | rfl
    · have hkn : k < ins.length := by
        apply Nat.lt_of_not_le
        intro hge
        obtain ⟨s, h1, h2⟩ := HW.out
        obtain ⟨j, hj, rfl⟩ := List.getElem_of_mem h1
        have := hsm j hj (by omega)
        omega
      have hkn' : (k : Int) < (ins.length : Int) := by omega
      obtain ⟨ad, hix, hadc0, hadb⟩ := HI.out.ix (P := Tryz.prog) Tryz.underlying22 Tryz.sizeOf9 k hkn
      have hadc := fun o => cell_alloc hadc0 o
      have hsk : ins[k].size ≤ 9223372036854775807 := by have := HS.out _ (List.getElem_mem hkn); unfold maxLen at this; omega
      have HSM := hid hsm
      clear hsm hadb hadc0
      by_cases hw : 512 < ins[k].size
      · have d5 : decide ((512 : Int) < (ins[k].size : Int)) = true := by simp; omega
        go_wp2_with fail
        go_round
        case rel => exact ⟨k + 1, by omega, by go_num, .inr rfl⟩
        case measure => simp [intOf]; omega
      · have d5 : decide ((512 : Int) < (ins[k].size : Int)) = false := by simp; omega
        go_wp2_with fail
        go_round
        case rel =>
          refine ⟨k + 1, by omega, by go_num, .inl ⟨rfl, fun j hj hjk => ?_⟩⟩
          rcases Nat.lt_succ_iff_lt_or_eq.1 hjk with h | h
          · exact HSM.out j hj h
          · subst h; omega
        case measure => simp [intOf]; omega
    · by_cases hkn : k < ins.length
      · have d3 : decide ((k : Int) < (ins.length : Int)) = true := by simp; omega
        go_wp2_with fail
        refine bodyPost_ret (v := .tuple #[resV 4 .empty, .int .i64 0]) (by simp [results, Tryz.results72, go_sem]; rfl) rfl ⟨rfl, (Chg.refl _ w).alloc _⟩
      · have d3 : decide ((k : Int) < (ins.length : Int)) = false := by simp; omega
        go_wp2_with fail
        refine bodyPost_ret (v := .tuple #[resV 4 .empty, .int .i64 0]) (by simp [results, Tryz.results72, go_sem]; rfl) rfl ⟨rfl, (Chg.refl _ w).alloc _⟩

set_option maxRecDepth 100000 in
set_option maxHeartbeats 4000000 in
theorem rrun_good (code : ByteArray) (hs : ¬ 64 < code.size) (oa : Option Addr) (cap : Nat) (ins : List ByteArray) (w : World) (hin : StrsAt w (.slice oa ins.length cap) ins) (h4 : ¬ 4 < ins.length) (hins : ∀ x ∈ ins, x.size ≤ 512) :
    Calls Tryz.prog 72 #[.string code, .slice oa ins.length cap] w (Rets (.tuple #[resV (runR hashS code ins 300 0 0 []).1.1 (runR hashS code ins 300 0 0 []).1.2, .int .i64 (runR hashS code ins 300 0 0 []).2]) (Chg (fun _ => False) w)) := by
  have h1' : (code.size : Int) ≤ 64 := by omega
  have d1 : decide ((64 : Int) < (code.size : Int)) = false := by simp; omega
  have d2 : decide ((4 : Int) < (ins.length : Int)) = false := by simp; omega
  have HIN := hid hin
  have HINS := hid hins
  obtain ⟨OUT, hOUT⟩ : ∃ O, O = runR hashS code ins 300 0 0 [] := ⟨_, rfl⟩
  rw [← hOUT]
  have HOUT := hid hOUT
  clear hin hins hOUT
  go_enter Tryz.func72, Tryz.ntmps72
  go_wp2_with fail
  go_loop [6, 7] (fun b i => ∃ k : Nat, k ≤ ins.length ∧ i = .int .i64 k ∧ b = .bool false) (fun _ i => ins.length - (intOf i).toNat)
  case atStart => exact ⟨0, Nat.zero_le _, rfl, rfl⟩
  case round =>
    obtain ⟨k, hk, rfl, rfl⟩ := hrel
    by_cases hkn : k < ins.length
    · have hkn' : (k : Int) < (ins.length : Int) := by omega
      obtain ⟨ad, hix, hadc0, hadb⟩ := HIN.out.ix (P := Tryz.prog) Tryz.underlying22 Tryz.sizeOf9 k hkn
      have hadc := fun o => cell_alloc hadc0 o
      have hsk : ins[k].size ≤ 512 := HINS.out _ (List.getElem_mem hkn)
      have d5 : decide ((512 : Int) < (ins[k].size : Int)) = false := by simp; omega
      clear hadb hadc0
      go_wp2_with fail
      go_round
      case rel => exact ⟨k + 1, by omega, by go_num, rfl⟩
      case measure => simp [intOf]; omega
    · obtain rfl : k = ins.length := by omega
      go_wp2_with fail
      have hRow0 : RowT ((w.alloc (.cells #[.int .i64 0, .string { data := #[] }] 47)).alloc (.cells #[] 9)) (w.heap.size + 1) 0 0 [] := by
        have := owns_emptyM (w.alloc (.cells #[.int .i64 0, .string { data := #[] }] 47)) 9 1
        simpa [RowT] using this
      have hW2 : Chg (fun _ => False) w ((w.alloc (.cells #[.int .i64 0, .string { data := #[] }] 47)).alloc (.cells #[] 9)) := ((Chg.refl _ w).alloc _).alloc _
      have hR0 : ((w.alloc (.cells #[.int .i64 0, .string { data := #[] }] 47)).alloc (.cells #[] 9)).heap[w.heap.size]? = some (.cells #[.int .i64 0, .string { data := #[] }] 47 (0, 0)) := heap_alloc_old' (heap_alloc_new _ _) _
      have hS0 : w.heap.size + 1 ≤ ((w.alloc (.cells #[.int .i64 0, .string { data := #[] }] 47)).alloc (.cells #[] 9)).heap.size := by simp
      generalize hW2e : ((w.alloc (.cells #[.int .i64 0, .string { data := #[] }] 47)).alloc (.cells #[] 9)) = W2 at hRow0 hW2 hR0 hS0 ⊢
      clear hW2e
      have HRow0 := hid hRow0
      have HW2 := hid hW2
      have HR0 := hid hR0
      clear hRow0 hW2 hR0
      go_loopw [8, 9, 10] (fun lv av nv wr => ∃ n at_ l g c, n ≤ 300 ∧ nv = .int .i64 (n : Nat) ∧ av = .int .i64 (at_ : Nat) ∧ lv = .slice (some ⟨g, 0, none⟩) l.length c ∧ RowT wr g c l.length l ∧ l.length ≤ 8 ∧ (∀ x ∈ l, x.size ≤ 512) ∧ at_ ≤ 1000 ∧ OUT = runR hashS code ins (300 - n) at_ n l ∧ Chg (fun k => w.heap.size + 1 ≤ k) W2 wr) (fun _ _ nv _ => 301 - (intOf nv).toNat)
      case atStart => exact ⟨0, 0, [], w.heap.size + 1, 0, by decide, rfl, rfl, rfl, HRow0.out, by decide, by simp, by decide, HOUT.out, Chg.refl _ _⟩
      case round =>
        obtain ⟨n, at_, l, g, c, hn, rfl, rfl, rfl, hrow, hl, hall, hat, hrun, hch⟩ := hrel
        have hR := hch.obj HR0.out (by omega)
        have r0 := cell_of hR 0
        have r1 := cell_of hR 1
        have g0 := frozen_of hR 0
        have g1 := frozen_of hR 1
        simp at r0 r1
        have HC := hid hch
        have HROW := hid hrow
        have HR := hid hrun
        have HRB := hid hR
        have HAL := hid hall
        obtain ⟨N, hNl⟩ : ∃ N, N = l.length := ⟨_, rfl⟩
        have HN := hid hNl
        rw [← hNl] at hl ⊢
        clear hch hrun hR hall hrow hNl
        by_cases he : at_ = code.size
        · have he' : ((at_ : Int) == (code.size : Int)) = true := by simp [he]
          have HQ := hid (show OUT = (endR l, n) from HR.out.trans (runR_end _ _ he))
          clear HR HOUT
          by_cases h0 : N = 0
          · have hl0 : l = [] := List.eq_nil_of_length_eq_zero (by have := HN.out; omega)
            have z0 : ((N : Int) == 0) = true := by simp [h0]
            have XS := hid (res_stored HRB.out (.int .i64 31) (.string { data := #[] }))
            clear h0
            go_wp2_with fail
            refine bodyPost_ret (v := .tuple #[resV 31 .empty, .int .i64 n]) (by simp [results, Tryz.results72, go_sem, XS.out.1, XS.out.2.1]; rfl) rfl ⟨by rw [HQ.out, hl0] <;> rfl, res_chg (own_chg HW2.out HC.out) _ _⟩
          · have z0 : ((N : Int) == 0) = false := by simp [h0]
            obtain ⟨i, hi⟩ : ∃ i, i = N - 1 := ⟨_, rfl⟩
            have z1 : IntKind.i64.wrap ((N : Int) - 1) = (i : Int) := by rw [IntWalk.i64_in _ (by omega)]; omega
            have z2 : (i : Int) < (N : Int) := by omega
            obtain ⟨b, hb⟩ : ∃ b, l[i]? = some b := ⟨_, List.getElem?_eq_getElem (by have := HN.out; omega)⟩
            have z3 := RowT.cellAt HROW.out i b hb
            have hlast : endR l = (0, b) := by
              unfold endR
              rw [List.getLast?_eq_getElem?, ← HN.out, ← hi, hb]
            have HLA := hid hlast
            have XS := hid (res_stored HRB.out (.int .i64 0) (.string b))
            clear h0 hi hb hlast
            go_wp2_with fail
            refine bodyPost_ret (v := .tuple #[resV 0 b, .int .i64 n]) (by simp [results, Tryz.results72, go_sem, XS.out.1, XS.out.2.1]; rfl) rfl ⟨by rw [HQ.out, HLA.out] <;> rfl, res_chg (own_chg HW2.out HC.out) _ _⟩
        · have he' : ((at_ : Int) == (code.size : Int)) = false := by simp; omega
          by_cases ho : code.size < at_
          · have ho' : (code.size : Int) < (at_ : Int) := by omega
            have XS := hid (res_stored HRB.out (.int .i64 32) (.string { data := #[] }))
            have HQ := hid (show OUT = ((32, .empty), n) from HR.out.trans (runR_op _ _ he (.inl ho)))
            clear HR HOUT
            go_wp2_with fail
            refine bodyPost_ret (v := .tuple #[resV 32 .empty, .int .i64 n]) (by simp [results, Tryz.results72, go_sem, XS.out.1, XS.out.2.1]; rfl) rfl ⟨by rw [HQ.out] <;> rfl, res_chg (own_chg HW2.out HC.out) _ _⟩
          · have ho' : ¬ (code.size : Int) < (at_ : Int) := by omega
            have hlt : at_ < code.size := by omega
            have hwa : ∀ w : World, Calls Tryz.prog 111 #[.string code, .int .i64 at_] w (Rets (.int .i64 (widN code at_)) (fun w' => w = w')) := fun w =>
              rwidth_any code at_ w hlt (by unfold maxLen; omega)
            by_cases hz : widN code at_ = 0
            · have hz' : ((widN code at_ : Int) == 0) = true := by simp [hz]
              have XS := hid (res_stored HRB.out (.int .i64 32) (.string { data := #[] }))
              have HQ := hid (show OUT = ((32, .empty), n) from HR.out.trans (runR_op _ _ he (.inr hz)))
              clear HR HOUT
              go_wp2_with (go_at_call 111; refine (hwa _).mono ?_; rintro e w' ⟨rfl, rfl⟩)
              refine bodyPost_ret (v := .tuple #[resV 32 .empty, .int .i64 n]) (by simp [results, Tryz.results72, go_sem, XS.out.1, XS.out.2.1]; rfl) rfl ⟨by rw [HQ.out] <;> rfl, res_chg (own_chg HW2.out HC.out) _ _⟩
            · have hz' : ((widN code at_ : Int) == 0) = false := by simp [hz]
              by_cases hf : n = 300
              · subst hf
                have XS := hid (res_stored HRB.out (.int .i64 30) (.string { data := #[] }))
                have HQ := hid (show OUT = ((30, .empty), 300) from HR.out.trans (runR_fuel _ he (fun h => h.elim (fun h => ho h) (fun h => hz h))))
                clear HR HOUT
                go_wp2_with (go_at_call 111; refine (hwa _).mono ?_; rintro e w' ⟨rfl, rfl⟩)
                refine bodyPost_ret (v := .tuple #[resV 30 .empty, .int .i64 300]) (by simp [results, Tryz.results72, go_sem, XS.out.1, XS.out.2.1]; rfl) rfl ⟨by rw [HQ.out] <;> rfl, res_chg (own_chg HW2.out HC.out) _ _⟩
              · have hf' : ((n : Int) == 300) = false := by simp; omega
                obtain ⟨k1, k2, k3, k4⟩ := wid_ok hlt hz
                obtain ⟨q1, q2⟩ := plain_wid hlt hz
                have hss : (code.extract at_ (at_ + widN code at_)).size = widN code at_ := by simp; omega
                have hs0 : (code.extract at_ (at_ + widN code at_))[0]'(by omega) = code[at_] := by simp [ByteArray.getElem_extract]
                have hwle : widN code at_ ≤ 64 := by omega
                have hstep := rstep_any (g := g) (cap := c) (N := N) (l := l) (by rw [HN.out]; exact HROW.out) (by have := HN.out; omega) HAL.out (HIN.out.chg (own_chg HW2.out HC.out) (fun _ _ h => h)) HINS.out (code.extract at_ (at_ + widN code at_)) (by omega) (by omega) (by rw [hs0]; exact k1) (by rw [hs0, hss]; exact q1) (by rw [hs0, hss]; exact q2) at_
                have hQ := runR_step (H := hashS) (ins := ins) (l := l) (300 - (n + 1)) n he (fun h => h.elim (fun h => ho h) (fun h => hz h)) rfl rfl
                rw [show (300 - (n + 1)) + 1 = 300 - n by omega] at hQ
                have hok := stepR_ok hashS ins code[at_] (numN (code.extract at_ (at_ + widN code at_))) (code.extract at_ (at_ + widN code at_)) at_ l (by have := HN.out; omega) HAL.out (by rw [hss]; omega) (by have := numN_lt (code.extract at_ (at_ + widN code at_)); omega)
                have hcd := stepR_code hashS ins code[at_] (numN (code.extract at_ (at_ + widN code at_))) (code.extract at_ (at_ + widN code at_)) at_ l
                rw [byteN_eq hlt] at hQ
                rw [hs0, hss] at hstep
                obtain ⟨W, hWe⟩ : ∃ W, W = widN code at_ := ⟨_, rfl⟩
                rw [← hWe] at hQ hok hcd hstep hwa hz' k2 k3 hwle
                have hle' : (at_ : Int) + (W : Int) ≤ (code.size : Int) := by omega
                have hle2 : (at_ : Int) ≤ (at_ : Int) + (W : Int) := by omega
                have hle3 : (0 : Int) ≤ (at_ : Int) + (W : Int) := by omega
                have hwr : IntKind.i64.wrap ((at_ : Int) + (W : Int)) = (at_ : Int) + (W : Int) := IntWalk.i64_in _ (by omega)
                have hle4 : ((at_ : Int) + (W : Int)).toNat = at_ + W := by omega
                have hnw : IntKind.i64.wrap ((n : Int) + 1) = (n : Int) + 1 := IntWalk.i64_in _ (by omega)
                generalize stepRM hashS ins code[at_] (numN (code.extract at_ (at_ + W))) (code.extract at_ (at_ + W)) at_ l = q at hQ hok hcd hstep
                have HQ := hid (HR.out.trans hQ)
                have HK := hid hok
                clear HR HOUT hok hQ q1 q2 hss hs0 k1 k4 hz hWe
                by_cases hq : q.1 = 0
                · go_wp2_with (first | (go_at_call 111; refine (hwa _).mono ?_; rintro e w' ⟨rfl, rfl⟩) | (go_at_call 112; refine hstep.mono ?_; rintro e w1 ⟨hch1, hres⟩; obtain ⟨g2, c2, to2, rfl, hrow2, hto⟩ := (hres.resolve_left (fun h => h.1 hq)).2; clear hres))
                  all_goals go_roundw
                  all_goals first
                    | (refine ⟨n + 1, q.2.1, q.2.2, g2, c2, by omega, by go_num, congrArg (Value.int .i64) (by rcases hto with ⟨h1, h2⟩ | h2 <;> omega), rfl, hrow2, HK.out.1, HK.out.2.1, HK.out.2.2, ?_, HC.out.trans hch1 (fun _ _ h => h.elim)⟩; rw [HQ.out, if_pos hq]; done)
                    | (simp [intOf]; omega)
                · go_wp2_with (first | (go_at_call 111; refine (hwa _).mono ?_; rintro e w' ⟨rfl, rfl⟩) | (go_at_call 112; refine hstep.mono ?_; rintro e w1 ⟨hch1, hres⟩; obtain ⟨hq1, rfl⟩ := hres.resolve_right (fun h => hq h.1); clear hres; have hR1 := hch1.obj HRB.out (fun h => h); have r0' := cell_of hR1 0; have r1' := cell_of hR1 1; have g0' := frozen_of hR1 0; have g1' := frozen_of hR1 1))
                  have XS := hid (res_stored hR1 (.int .i64 q.1) (.string { data := #[] }))
                  refine bodyPost_ret (v := .tuple #[resV q.1 .empty, .int .i64 (n + 1 : Nat)]) (by simp [results, Tryz.results72, go_sem, XS.out.1, XS.out.2.1]; rfl) rfl ⟨by rw [HQ.out, if_neg hq] <;> rfl, res_chg (own_chg HW2.out (HC.out.trans hch1 (fun _ _ h => h.elim))) _ _⟩
end Go.Proofs.YthglfmacjoecgaaGreatDoor
namespace Go.Proofs.YthglfmacjoecgaaGreatDoor
open Go.RowKit

theorem rrun_any (code : ByteArray) (hs : code.size ≤ maxLen) (v : Value) (ins : List ByteArray) (w : World) (hin : StrsAt w v ins) :
    Calls Tryz.prog 72 #[.string code, v] w (Rets (.tuple #[.agg #[.int .i64 (runOut hashS code ins).1.1, .string (runOut hashS code ins).1.2], .int .i64 (runOut hashS code ins).2]) (Chg (fun _ => False) w)) := by
  by_cases h1 : 64 < code.size ∨ 4 < ins.length
  · have e : runOut hashS code ins = ((4, .empty), 0) := by unfold runOut; rw [if_pos (h1.elim .inl (fun h => .inr (.inl h)))]
    rw [e]
    exact rrun_long code hs v ins w hin h1
  have h1a : ¬ 64 < code.size := fun h => h1 (.inl h)
  have h1b : ¬ 4 < ins.length := fun h => h1 (.inr h)
  by_cases h2 : ∃ s ∈ ins, 512 < s.size
  · have e : runOut hashS code ins = ((4, .empty), 0) := by unfold runOut; rw [if_pos (.inr (.inr h2))]
    rw [e]
    exact rrun_wide code h1a v ins w hin h1b h2
  · have e : runOut hashS code ins = runR hashS code ins 300 0 0 [] := by
      unfold runOut
      rw [if_neg]
      rintro (h | h | h)
      · exact h1a h
      · exact h1b h
      · exact h2 h
    have hall : ∀ x ∈ ins, x.size ≤ 512 := fun x hx => Nat.le_of_not_lt fun h => h2 ⟨x, hx, h⟩
    rw [e]
    obtain ⟨oa, cap, rfl⟩ : ∃ oa cap, v = .slice oa ins.length cap := by
      rcases hin.1 with ⟨rfl, rfl⟩ | ⟨a, cap, rfl, _⟩
      · exact ⟨none, 0, rfl⟩
      · exact ⟨some a, cap, rfl⟩
    exact rrun_good code h1a oa cap ins w hin h1b hall

end Go.Proofs.YthglfmacjoecgaaGreatDoor
namespace Go.Proofs.YthglfmacjoecgaaGreatDoor
open Go.RowKit

/-- What an action comes to. -/
def makeF (code : ByteArray) (rs : List ResR) : ResR := if ∃ r ∈ rs, r.1 ≠ 0 then (34, ByteArray.empty) else (((runOut hashS code (rs.map Prod.snd)).1.1 : Int), (runOut hashS code (rs.map Prod.snd)).1.2)
def resW (r : ResR) : Value := .agg #[.int .i64 r.1, .string r.2]
theorem run_h {B : Nat} (code : ByteArray) (hs : code.size ≤ maxLen) (v : Value) (ins : List ByteArray) (w : World) (hin : StrsAt w v ins) (hT : TabsOK B w) (hB : B ≤ w.heap.size) :
    Calls Tryz.prog 25 #[.string code, v] w (Rets (.tuple #[resV (runOut hashS code ins).1.1 (runOut hashS code ins).1.2, .int .i64 (runOut hashS code ins).2]) (Chg (fun _ => False) w)) :=
  run_any hashS code hs v ins w hin (hT.mono hB) (.inr step_h)
theorem strs_own {w : World} {v : Value} {l : List ByteArray} {n : Nat} (h : w.ownsRow 0 9 1 v n (l.map Value.string)) (hn : n = l.length) (h1 : l.length ≤ 1000) (h2 : ∀ s ∈ l, s.size ≤ 100000) : StrsAt w v l := by
  subst hn
  have e : l.map Value.string = (l.map bl).map nmV := by
    rw [List.map_map]
    exact List.map_congr_left (fun s _ => by show Value.string s = Value.string (bs (bl s)); rw [bs_bl])
  rw [e, ← List.length_map (f := bl)] at h
  have h3 := NamesAt.of_owns h (by simp; unfold maxLen; omega) (fun s hs => by
    obtain ⟨x, hx, rfl⟩ := List.mem_map.1 hs
    have := h2 x hx
    rw [bl_len]; unfold maxLen; omega)
  have e2 : (l.map bl).map bs = l := by
    rw [List.map_map]
    calc l.map (bs ∘ bl) = l.map id := List.map_congr_left (fun s _ => bs_bl s)
      _ = l := List.map_id l
  unfold NamesAt at h3
  rwa [e2] at h3

set_option maxRecDepth 100000 in
set_option maxHeartbeats 4000000 in
theorem make_any {B : Nat} (code : ByteArray) (hc : code.size ≤ 1000) (rs : List ResR) (hn : rs.length ≤ 32) (hb : ∀ r ∈ rs, r.2.size ≤ 100000) (v : Value) (w : World) (hin : ResAt w v rs) (hT : TabsOK B w) (hB : B ≤ w.heap.size) :
    Calls Tryz.prog 30 #[.string code, v] w (Rets (resW (makeF code rs)) (Chg (fun _ => False) w)) := by
  have hlen := hin.len
  have HIN := hid hin
  have HT := hid hT
  have HBB := hid hB
  have HBZ := hid hb
  have ha1 := heap_alloc_new' w (.cells #[.int .i64 0, .string { data := #[] }] 47)
  have hc1 := al_chg w (.cells #[.int .i64 0, .string { data := #[] }] 47)
  have hs1 : (w.alloc (.cells #[.int .i64 0, .string { data := #[] }] 47)).heap.size = w.heap.size + 1 := by simp
  have HA1 := hid ha1
  have HC1 := hid hc1
  have HS1 := hid hs1
  clear hin hT hB hb ha1 hc1 hs1
  go_enter Tryz.func30, Tryz.ntmps30
  go_wp2_with fail
  generalize w.alloc (.cells #[.int .i64 0, .string { data := #[] }] 47) = w1 at *
  obtain ⟨d0, hd0⟩ : ∃ d0, d0 = w.heap.size := ⟨_, rfl⟩
  have HD0 := hid hd0
  rw [← hd0] at HA1 HS1 ⊢
  clear hd0
  go_loopw [5, 12] (fun v5 i wr => ∃ (k : Nat) (x : Value), x = v5 ∧ k ≤ rs.length ∧ i = .int .i64 k ∧ wr.ownsRow 0 9 1 x k (((rs.take k).map Prod.snd).map Value.string) ∧ (∀ q, x.ownBlock = some q → d0 + 1 ≤ q) ∧ Chg (fun _ => False) w1 wr ∧ ∀ r ∈ rs.take k, r.1 = 0) (fun _ i _ => rs.length - (intOf i).toNat)
  case atStart => exact ⟨0, _, rfl, Nat.zero_le _, rfl, World.ownsRow_nil _ _ _ _, (fun q h => by cases h), Chg.refl _ _, by simp⟩
  case round =>
    obtain ⟨k, x5, hx5, hk, rfl, hown, hbl, hch, hz⟩ := hrel
    subst hx5
    have HOWN := hid hown
    have HBL := hid hbl
    have HCH := hid hch
    have HZ := hid hz
    clear hown hbl hch hz
    by_cases hkn : k < rs.length
    · have hkn' : (k : Int) < rs.length := by omega
      have hcw : Chg (fun _ => False) w wr := HC1.out.trans HCH.out (fun _ _ h => h)
      obtain ⟨bb, oo, hix, e0, e1, hlt⟩ := (HIN.out.chg hcw (fun _ _ h => h)).ix k hkn
      have HTK : Hid (((rs.take (k + 1)).map Prod.snd).map Value.string = ((rs.take k).map Prod.snd).map Value.string ++ [.string rs[k].2]) := hid (by rw [List.take_succ_eq_append_getElem hkn, List.map_append, List.map_append]; rfl)
      have HTM : Hid (∀ r ∈ rs.take (k + 1), r ∈ rs.take k ∨ r = rs[k]) := hid (fun r hr => by
        rw [List.take_succ_eq_append_getElem hkn, List.mem_append] at hr
        rcases hr with h | h
        · exact .inl h
        · exact .inr (List.mem_singleton.1 h))
      have HME := hid (List.getElem_mem hkn)
      have HSZ : Hid (d0 + 1 ≤ wr.heap.size) := hid (by have := HCH.out.size; have := HS1.out; omega)
      have hcz : ∃ cd, cd = rs[k].1 := ⟨_, rfl⟩
      obtain ⟨cd, hcd⟩ := hcz
      have HCD := hid hcd
      rw [← hcd] at e0
      clear hcd hcw
      obtain ⟨b2, hb2⟩ : ∃ b2, b2 = rs[k].2 := ⟨_, rfl⟩
      rw [← hb2] at e1 HTK
      clear hb2
      have hkd := heap_alloc_old' (HCH.out.obj HA1.out (fun h => h)) (.cells #[.int .i64 cd, .string b2] 47)
      have q0 := cell_of hkd 0
      have q1 := cell_of hkd 1
      have f0 := frozen_of hkd 0
      have f1 := frozen_of hkd 1
      simp at q0 q1
      have XS := hid (res_stored hkd (.int .i64 34) (.string { data := #[] }))
      have hdn : ¬ d0 = wr.heap.size := by have := HSZ.out; omega
      have hdn2 : ¬ wr.heap.size = d0 := by have := HSZ.out; omega
      clear hkd
      by_cases h0 : cd = 0
      · subst h0
        go_wp2_with (guard_target =~ wpList _ _ _ (Oper.mk (some 24) _ _ _ _ _ :: _) _ _; refine wpList_append_new rfl _ _ 22 rfl elStr (HOWN.out.alloc (.cells #[.int .i64 0, .string b2] 47)) rfl #[.string b2] 1 1 (by exact congrArg (fun k : Nat => Value.slice (some ⟨k, 0, none⟩) 1 1) (show _ = _ by simp)) rfl rfl (by unfold maxLen; omega) (by omega) (by decide) ?_; intro g6 cap6 w6 hown6 hch6 hg6)
        go_roundw
        case rel =>
          refine ⟨k + 1, _, rfl, by omega, by go_num, ?_, fun q hq => ?_, (HCH.out.alloc _).trans hch6 (fun q hq h => absurd (HBL.out q h) (by have := HS1.out; omega)), fun r hr => ?_⟩
          · rw [HTK.out]
            exact hown6
          · simp [Value.ownBlock] at hq
            subst hq
            rcases hg6 with h | h
            · exact HBL.out _ h
            · have := HSZ.out
              simp at h
              omega
          · rcases HTM.out r hr with h | h
            · exact HZ.out r h
            · rw [h]; exact HCD.out.symm
        case measure => simp [intOf]; omega
      · have hne : (cd == 0) = false := by rw [beq_eq_false_iff_ne]; exact h0
        have HM : Hid (makeF code rs = (34, ByteArray.empty)) := hid (by
          unfold makeF
          rw [if_pos ⟨rs[k], HME.out, by rw [← HCD.out]; exact h0⟩])
        go_wp2_with fail
        refine bodyPost_ret (v := resW (34, ByteArray.empty)) (by simp [results, Tryz.results30, go_sem, XS.out.1, XS.out.2.1]; rfl) rfl ⟨by rw [HM.out], ?_⟩
        have hcw : Chg (fun _ => False) w (wr.alloc (.cells #[.int .i64 cd, .string b2] 47)) := (HC1.out.trans HCH.out (fun _ _ h => h)).alloc _
        have := res_chg hcw (.int .i64 34) (.string { data := #[] })
        rw [← HD0.out] at this
        exact this
    · obtain rfl : k = rs.length := by omega
      have hown := HOWN.out
      rw [List.take_length] at hown
      have hz := HZ.out
      rw [List.take_length] at hz
      have hstr : StrsAt wr x5 (rs.map Prod.snd) := strs_own hown (by simp) (by simp; omega) (fun s hs => by
        obtain ⟨r, hr, rfl⟩ := List.mem_map.1 hs
        exact HBZ.out r hr)
      have hcw : Chg (fun _ => False) w wr := HC1.out.trans HCH.out (fun _ _ h => h)
      have hrun := run_h code (by unfold maxLen; omega) x5 (rs.map Prod.snd) wr hstr (HT.out.keep hcw) (Nat.le_trans HBB.out hcw.size)
      have hM : makeF code rs = (((runOut hashS code (rs.map Prod.snd)).1.1 : Int), (runOut hashS code (rs.map Prod.snd)).1.2) := by
        unfold makeF
        rw [if_neg (fun ⟨r, hr, h⟩ => h (hz r hr))]
      have HM := hid hM
      have HRUN := hid hrun
      clear hown hz hstr hcw hrun hM
      generalize (runOut hashS code (rs.map Prod.snd)).1.1 = c9 at *
      generalize (runOut hashS code (rs.map Prod.snd)).1.2 = b9 at *
      generalize (runOut hashS code (rs.map Prod.snd)).2 = n9 at *
      unfold resV at HRUN
      go_wp2_with (go_at_call 25; refine HRUN.out.mono ?_; rintro e w9 ⟨rfl, hc9⟩; have hkd := heap_alloc_old' ((HCH.out.trans hc9 (fun _ _ h => h)).obj HA1.out (fun h => h)) (.cells #[.int .i64 (c9 : Int), .string b9] 47); have q0 := cell_of hkd 0; have q1 := cell_of hkd 1; have f0 := frozen_of hkd 0; have f1 := frozen_of hkd 1; simp at q0 q1; have XS := hid (res_stored hkd (.int .i64 (c9 : Int)) (.string b9)); have hdn : ¬ d0 = w9.heap.size := (by have := HCH.out.size; have := HS1.out; have := hc9.size; omega); have hdn2 : ¬ w9.heap.size = d0 := (fun e => hdn e.symm); clear hkd)
      refine bodyPost_ret (v := resW ((c9 : Int), b9)) (by simp [results, Tryz.results30, go_sem, XS.out.1, XS.out.2.1]; rfl) rfl ⟨by rw [HM.out], ?_⟩
      have hcw : Chg (fun _ => False) w (w9.alloc (.cells #[.int .i64 (c9 : Int), .string b9] 47)) := ((HC1.out.trans HCH.out (fun _ _ h => h)).trans hc9 (fun _ _ h => h)).alloc _
      have := res_chg hcw (.int .i64 (c9 : Int)) (.string b9)
      rw [← HD0.out] at this
      exact this
end Go.Proofs.YthglfmacjoecgaaGreatDoor
namespace Go.Proofs.YthglfmacjoecgaaGreatDoor
open Go.RowKit

theorem endR_ok {l : List ByteArray} (h : ∀ x ∈ l, x.size ≤ 512) : (endR l).2.size ≤ 512 ∧ (endR l).1 ≤ 33 := by
  unfold endR
  split
  · exact ⟨Nat.zero_le _, by decide⟩
  · rename_i b hb
    exact ⟨h b (List.mem_of_getLast? hb), Nat.zero_le _⟩
theorem runR_ok (H : ByteArray → ByteArray) (code : ByteArray) (ins : List ByteArray) (hc : code.size ≤ 64) : ∀ (f at_ n : Nat) (l : List ByteArray), l.length ≤ 8 → (∀ x ∈ l, x.size ≤ 512) →
    (runR H code ins f at_ n l).1.2.size ≤ 512 ∧ (runR H code ins f at_ n l).1.1 ≤ 33
  | 0, at_, n, l, h1, h2 => by
    unfold runR
    split
    · exact endR_ok h2
    split
    · exact ⟨Nat.zero_le _, (by decide : 32 ≤ 33)⟩
    · exact ⟨Nat.zero_le _, (by decide : 30 ≤ 33)⟩
  | f + 1, at_, n, l, h1, h2 => by
    by_cases he : at_ = code.size
    · rw [runR_end _ _ he]
      exact endR_ok h2
    by_cases ho : code.size < at_ ∨ widN code at_ = 0
    · rw [runR_op _ _ he ho]
      exact ⟨Nat.zero_le _, (by decide : 32 ≤ 33)⟩
    · rw [runR_step f n he ho rfl rfl]
      have hat : at_ < code.size := by omega
      have hs : at_ + (code.extract at_ (at_ + widN code at_)).size ≤ 1000 := by simp; omega
      have hok := stepR_ok H ins (byteN code at_) (numN (code.extract at_ (at_ + widN code at_))) (code.extract at_ (at_ + widN code at_)) at_ l h1 h2 hs (by have := numN_lt (code.extract at_ (at_ + widN code at_)); omega)
      have hcd := stepR_code H ins (byteN code at_) (numN (code.extract at_ (at_ + widN code at_))) (code.extract at_ (at_ + widN code at_)) at_ l
      split
      · exact runR_ok H code ins hc f _ _ _ hok.1 hok.2.1
      · exact ⟨Nat.zero_le _, hcd⟩
theorem runOut_ok (H : ByteArray → ByteArray) (code : ByteArray) (ins : List ByteArray) : (runOut H code ins).1.2.size ≤ 512 ∧ (runOut H code ins).1.1 ≤ 33 := by
  unfold runOut
  split
  · exact ⟨Nat.zero_le _, (by decide : 4 ≤ 33)⟩
  · rename_i h
    exact runR_ok H code ins (by omega) _ _ _ _ (by simp) (by simp)
/-- A result as a build's are. -/
structure Small (r : ResR) : Prop where
  lo : 0 ≤ r.1
  hi : r.1 ≤ 34
  wide : r.2.size ≤ 512
theorem small_no : Small noRes := ⟨by decide, by decide, Nat.zero_le _⟩
theorem makeF_small (code : ByteArray) (rs : List ResR) : Small (makeF code rs) := by
  unfold makeF
  split
  · exact ⟨by decide, by decide, Nat.zero_le _⟩
  · have := runOut_ok hashS code (rs.map Prod.snd)
    exact ⟨by simp, by show ((runOut hashS code (rs.map Prod.snd)).1.1 : Int) ≤ 34; omega, this.1⟩
/-- 34 says that an input failed, and nothing else does. -/
theorem makeF_dep (code : ByteArray) (rs : List ResR) : (makeF code rs).1 = 34 ↔ ∃ r ∈ rs, r.1 ≠ 0 := by
  unfold makeF
  split
  · rename_i h; exact ⟨fun _ => h, fun _ => rfl⟩
  · rename_i h
    have := runOut_ok hashS code (rs.map Prod.snd)
    exact ⟨fun e => absurd e (by show ¬ ((runOut hashS code (rs.map Prod.snd)).1.1 : Int) = 34; omega), fun h2 => absurd h2 h⟩

theorem mem_of_lval {κ ν : Type} [DecidableEq κ] {k : κ} {x : ν} {l : List (κ × ν)} (h : lval k l = some x) : (k, x) ∈ l := by
  unfold lval at h
  cases hf : lfind k l 0 with
  | none => rw [hf] at h; cases h
  | some p =>
    obtain ⟨j, y⟩ := p
    rw [hf] at h
    simp only [Option.map_some, Option.some.injEq] at h
    subst h
    exact List.mem_of_getElem? (lfind_bound hf).2.2
def FF (c : List UInt8) (rs : List ResR) : ResR := makeF (bs c) rs
theorem foldT_small (g : GrR) (srcs : List SrcR) (hs : ∀ s ∈ srcs, s.2.size ≤ 512) (hn : (srcs.map Prod.fst).Nodup) : ∀ (n : Nat) (l : List Nat), l.length = n → ∀ s, Small (valT (foldT FF g srcs l) s)
  | 0, l, hl, s => by
    rw [List.length_eq_zero_iff.1 hl]
    show Small (valT (srcT srcs) s)
    unfold valT
    cases h : lval s (srcT srcs) with
    | none => exact small_no
    | some r =>
      rw [srcT_eq hn] at h
      obtain ⟨x, hx, e⟩ := List.mem_map.1 (mem_of_lval h)
      simp only [Prod.mk.injEq] at e
      obtain ⟨_, e⟩ := e
      subst e
      exact ⟨(by decide : (0 : Int) ≤ 0), (by decide : (0 : Int) ≤ 34), hs x hx⟩
  | n + 1, l, hl, s => by
    obtain ⟨l', k, rfl⟩ : ∃ l' k, l = l' ++ [k] := by
      rcases List.eq_nil_or_concat l with h | ⟨l', k, h⟩
      · rw [h] at hl; cases hl
      · exact ⟨l', k, by rw [h]; simp⟩
    unfold valT
    rw [foldT_snoc, stepT_val]
    split
    · exact makeF_small _ _
    · exact foldT_small g srcs hs hn n l' (by simpa using hl) s

theorem nodup_le {α : Type} : ∀ (a b : List α), a.Nodup → (∀ x ∈ a, x ∈ b) → a.length ≤ b.length
  | [], _, _, _ => Nat.zero_le _
  | y :: a, b, hn, hs => by
    rw [List.nodup_cons] at hn
    obtain ⟨l1, l2, rfl⟩ := List.append_of_mem (hs y (by simp))
    have := nodup_le a (l1 ++ l2) hn.2 (fun z hz => by
      have := hs z (by simp [hz])
      simp only [List.mem_append, List.mem_cons] at this ⊢
      rcases this with h1 | rfl | h1
      · exact .inl h1
      · exact absurd hz hn.1
      · exact .inr h1)
    simp at this ⊢
    omega
theorem sub_full {α : Type} : ∀ (a b : List α), a.Nodup → (∀ x ∈ a, x ∈ b) → b.length ≤ a.length → ∀ x ∈ b, x ∈ a
  | [], b, _, _, h, x, hx => by
    have : b = [] := List.length_eq_zero_iff.1 (by simpa using h)
    rw [this] at hx; exact hx
  | y :: a, b, hn, hs, h, x, hx => by
    rw [List.nodup_cons] at hn
    obtain ⟨l1, l2, rfl⟩ := List.append_of_mem (hs y (by simp))
    by_cases e : x = y
    · simp [e]
    · refine List.mem_cons_of_mem _ (sub_full a (l1 ++ l2) hn.2 (fun z hz => ?_) (by simp at h ⊢; omega) x ?_)
      · have := hs z (by simp [hz])
        simp only [List.mem_append, List.mem_cons] at this ⊢
        rcases this with h1 | rfl | h1
        · exact .inl h1
        · exact absurd hz hn.1
        · exact .inr h1
      · simp only [List.mem_append, List.mem_cons] at hx ⊢
        rcases hx with h1 | h1 | h1
        · exact .inl h1
        · exact absurd h1 e
        · exact .inr h1

/-- What is said of a build with sources: 0, it can be made. -/
def checkS (g : GrR) (srcs : List SrcR) : Nat :=
  if checkR g ≠ 0 then checkR g else if ¬ (srcs.map Prod.fst).Nodup then 21 else if ∃ s ∈ g.srcs, s ∉ srcs.map Prod.fst then 22 else if srcs.length ≠ g.srcs.length then 22 else if ∃ s ∈ srcs, 512 < s.2.size then 33 else 0
/-- A build with sources that can be made. -/
structure Done (g : GrR) (srcs : List SrcR) : Prop where
  can : Can g
  fit : Fit g srcs
  wide : ∀ s ∈ srcs, s.2.size ≤ 512
theorem Wov.srcsNd {g : GrR} (h : Wov g) : g.srcs.Nodup := (List.nodup_append.1 h.nd).1
theorem checkS_zero {g : GrR} {srcs : List SrcR} : checkS g srcs = 0 ↔ Done g srcs := by
  unfold checkS
  constructor
  · intro h
    split at h
    · rename_i h1; exact absurd h h1
    rename_i h1
    split at h
    · cases h
    rename_i h2
    split at h
    · cases h
    rename_i h3
    split at h
    · cases h
    rename_i h4
    split at h
    · cases h
    rename_i h5
    have hc := can_iff.1 (Decidable.not_not.1 h1)
    have hm : ∀ s ∈ g.srcs, s ∈ srcs.map Prod.fst := fun s hs => Decidable.not_not.1 (fun hn => h3 ⟨s, hs, hn⟩)
    exact ⟨hc, ⟨Decidable.not_not.1 h2, fun s => ⟨fun hs => sub_full _ _ hc.w.srcsNd hm (by simp; omega) s hs, hm s⟩⟩, fun s hs => Nat.le_of_not_lt (fun hl => h5 ⟨s, hs, hl⟩)⟩
  · intro h
    rw [if_neg (by rw [can_iff.2 h.can]; simp), if_neg (by simpa using h.fit.nd), if_neg (fun ⟨s, hs, hn⟩ => hn ((h.fit.mem s).2 hs)), if_neg, if_neg (fun ⟨s, hs, hl⟩ => by have := h.wide s hs; omega)]
    have h1 : srcs.length ≤ g.srcs.length := by
      have := nodup_le _ _ h.fit.nd (fun s hs => (h.fit.mem s).1 hs)
      simpa using this
    have h2 : g.srcs.length ≤ srcs.length := by
      have := nodup_le _ _ h.can.w.srcsNd (fun s hs => (h.fit.mem s).2 hs)
      simpa using this
    omega

/-- An action's key, of what is there. -/
def keyK (g : GrR) (t : List (Nm × ResR)) (i : Nat) : Nat → UInt8 := if (FF (codeAt g i) (insT2 g t i)).1 = 34 then (fun _ => 0) else keyF (bs (codeAt g i)) (insT2 g t i)
/-- The keys, when these places have been made. -/
def keysT (g : GrR) (t : List (Nm × ResR)) (l : List Nat) (i : Nat) : Nat → UInt8 := if i ∈ l then keyK g t i else fun _ => 0
/-- What an action is made of is what is there in the end. -/
theorem ins_then {g : GrR} (hw : Wov g) (srcs : List SrcR) {l m : List Nat} {i : Nat} (h : orderR g = l ++ i :: m) : insT2 g (madeT FF g srcs) i = insT2 g (foldT FF g srcs l) i := by
  have ho := orderR_ordd g
  rw [h] at ho
  have ho2 : Ordd g ((l ++ [i]) ++ m) := by simpa using ho
  have hk : ∀ s ∈ insAt g i, s ∈ g.srcs ∨ ∃ j ∈ l, nameAt g j = s := by
    intro s hs
    rcases ho.sup l.length (by simp) s (by rw [List.getElem_append_right (Nat.le_refl _)]; simpa using hs) with h1 | ⟨j, hj, h1⟩
    · exact .inl h1
    · exact .inr ⟨l[j], List.getElem_mem hj, by rw [List.getElem_append_left hj] at h1; exact h1⟩
  unfold insT2
  refine List.map_congr_left (fun s hs => ?_)
  unfold valT madeT
  rw [h, foldl_keep hw ho srcs (hk s hs)]
end Go.Proofs.YthglfmacjoecgaaGreatDoor
namespace Go.Proofs.YthglfmacjoecgaaGreatDoor
open Go.RowKit

theorem mapM_all {α β : Type} (g : α → Option β) (h : α → β) : ∀ l : List α, (∀ x ∈ l, g x = some (h x)) → l.mapM g = some (l.map h)
  | [], _ => rfl
  | x :: l, hx => by
    simp [hx x (by simp), mapM_all g h l (fun y hy => hx y (by simp [hy]))]
theorem flat_ones {α β : Type} (h : α → β) : ∀ l : List α, (l.map fun x => [h x]).flatten = l.map h
  | [] => rfl
  | x :: l => by simp [flat_ones h l]
theorem lit_u8 (b : UInt8) : (Lit.int .u8 ((b.toNat : Nat) : Int)).wf = true := by
  have : ∀ n : Fin 256, (Lit.int .u8 ((n.1 : Nat) : Int)).wf = true := by decide +kernel
  exact this ⟨b.toNat, b.toNat_lt⟩
theorem keyLits_array {P : Program} {d : Nat} {t e : TypeId} {n : Nat} {cs : List Value} (hu : P.underlying t = some (.array n e)) :
    P.keyLits (d + 1) t cs = if cs.length = P.cellsOf t then ((List.range n).mapM fun i => P.keyLits d e ((cs.drop (i * P.cellsOf e)).take (P.cellsOf e))).map List.flatten else none := by
  simp only [Program.keyLits]
  rw [hu]
theorem keyLits_int {P : Program} {d : Nat} {t : TypeId} {q : IntKind} {n : Int} (hu : P.underlying t = some (.int q)) (hw : (Lit.int q n).wf = true) : P.keyLits (d + 1) t [.int q n] = some [.int q n] := by
  simp only [Program.keyLits]
  rw [hu]
  simp [hw]
/-- A digest's letters. -/
def digLits (f : Nat → UInt8) : List Lit := (List.range 32).map fun i => Lit.int .u8 (((f i).toNat : Nat) : Int)
theorem rowB_slice (f : Nat → UInt8) (i : Nat) (h : i < 32) : ((rowB 32 f).toList.drop (i * 1)).take 1 = [Value.int .u8 (((f i).toNat : Nat) : Int)] := by
  rw [Nat.mul_one, List.drop_eq_getElem_cons (by simp [rowB]; exact h)]
  simp [rowB]
theorem lits_dig (f : Nat → UInt8) : Tryz.prog.keyLits 2 57 (rowB 32 f).toList = some (digLits f) := by
  have hu : Tryz.prog.underlying 57 = some (.array 32 5) := Tryz.underlying57
  have hc : Tryz.prog.cellsOf 57 = 32 := by kernel_rfl
  have h8 : Tryz.prog.underlying 5 = some (.int .u8) := Tryz.underlying5
  have hc8 : Tryz.prog.cellsOf 5 = 1 := by kernel_rfl
  rw [keyLits_array hu, hc, hc8, if_pos (by simp [rowB_size])]
  rw [mapM_all _ (fun i => [Lit.int .u8 (((f i).toNat : Nat) : Int)]) (List.range 32) (fun i hi => by
    rw [rowB_slice f i (List.mem_range.1 hi)]
    exact keyLits_int h8 (lit_u8 _))]
  show some _ = some _
  rw [digLits, flat_ones]
theorem digLits_inj {f g : Nat → UInt8} : digLits f = digLits g ↔ ∀ i, i < 32 → f i = g i := by
  unfold digLits
  constructor
  · intro h i hi
    have h2 := List.map_inj_left.1 h i (List.mem_range.2 hi)
    simp only [Lit.int.injEq, true_and] at h2
    exact UInt8.toNat_inj.1 (by omega)
  · intro h
    refine List.map_congr_left (fun i hi => ?_)
    rw [h i (List.mem_range.1 hi)]
/-- '==' of two digests. -/
theorem eq_dig (f g : Nat → UInt8) (w : World) : ∃ r : Bool, (binOp .eql 57 (.agg (rowB 32 f)) (.agg (rowB 32 g))).run Tryz.prog w = .ok (.bool r) w ∧ (r = true ↔ ∀ i, i < 32 → f i = g i) := by
  have hf : ∀ h : Nat → UInt8, (Value.agg (rowB 32 h)).formed Tryz.prog 57 = true := fun h => by kernel_rfl
  obtain ⟨r, h1, h2⟩ := run_equalIn_deep (P := Tryz.prog) 9998 2 57 (by kernel_rfl) w 2 2 (.agg (rowB 32 f)) (.agg (rowB 32 g)) _ _ (hf f) (hf g) (lits_dig f) (lits_dig g)
  exact ⟨r, by rw [run_eql_struct, h1]; rfl, h2.trans digLits_inj⟩
/-- A record's cells. -/
def recA (key : Nat → UInt8) (code : Int) (out : Nat → UInt8) : Array Value := rowB 32 key ++ #[.int .i64 code] ++ rowB 32 out
theorem recA_size (key : Nat → UInt8) (code : Int) (out : Nat → UInt8) : (recA key code out).size = 65 := by simp [recA, rowB_size]
theorem recA_list (key : Nat → UInt8) (code : Int) (out : Nat → UInt8) : (recA key code out).toList = (rowB 32 key).toList ++ ([.int .i64 code] ++ (rowB 32 out).toList) := by simp [recA]
theorem keyLits_struct {P : Program} {d : Nat} {t : TypeId} {fs : Array Field} {cs : List Value} (hu : P.underlying t = some (.struct fs)) :
    P.keyLits (d + 1) t cs = if cs.length = P.cellsOf t ∧ fs.all (·.name != "_") = true then (fs.toList.mapM fun f => P.keyLits d f.type ((cs.drop f.offset).take (P.cellsOf f.type))).map List.flatten else none := by
  simp only [Program.keyLits]
  rw [hu]
theorem lits_rec (key : Nat → UInt8) (code : Int) (hc : (Lit.int .i64 code).wf = true) (out : Nat → UInt8) : Tryz.prog.keyLits 3 67 (recA key code out).toList = some (digLits key ++ ([Lit.int .i64 code] ++ digLits out)) := by
  have hcr : Tryz.prog.cellsOf 67 = 65 := by kernel_rfl
  have hcd : Tryz.prog.cellsOf 57 = 32 := by kernel_rfl
  have hce : Tryz.prog.cellsOf 30 = 1 := by kernel_rfl
  have hl : (rowB 32 key).toList.length = 32 := by simp [rowB_size]
  have hl2 : (rowB 32 out).toList.length = 32 := by simp [rowB_size]
  rw [keyLits_struct Tryz.underlying67, hcr, if_pos ⟨by simp [recA_size], by kernel_rfl⟩, recA_list]
  generalize hk : (rowB 32 key).toList = K at *
  generalize ho : (rowB 32 out).toList = O at *
  have e0 : ((K ++ ([Value.int .i64 code] ++ O)).drop 0).take 32 = K := by rw [List.drop_zero, List.take_append_of_le_length (by omega), List.take_of_length_le (by omega)]
  have e1 : ((K ++ ([Value.int .i64 code] ++ O)).drop 32).take 1 = [Value.int .i64 code] := by rw [List.drop_append_of_le_length (by omega), List.drop_of_length_le (by omega)]; simp
  have e2 : ((K ++ ([Value.int .i64 code] ++ O)).drop 33).take 32 = O := by
    rw [List.drop_append, List.drop_of_length_le (by omega), hl]
    show O.take 32 = O
    exact List.take_of_length_le (by omega)
  simp only [List.mapM_cons, List.mapM_nil, hcd, hce, e0, e1, e2]
  rw [← hk, ← ho, lits_dig, lits_dig, keyLits_int (q := .i64) Tryz.underlying30 hc]
  simp
/-- '==' of two records. -/
theorem eq_rec (k1 k2 : Nat → UInt8) (c1 c2 : Int) (h1 : (Lit.int .i64 c1).wf = true) (h2 : (Lit.int .i64 c2).wf = true) (o1 o2 : Nat → UInt8) (w : World) :
    ∃ r : Bool, (binOp .eql 67 (.agg (recA k1 c1 o1)) (.agg (recA k2 c2 o2))).run Tryz.prog w = .ok (.bool r) w ∧ (r = true ↔ (∀ i, i < 32 → k1 i = k2 i) ∧ c1 = c2 ∧ ∀ i, i < 32 → o1 i = o2 i) := by
  have hf : ∀ (k : Nat → UInt8) (c : Int) (o : Nat → UInt8), (Value.agg (recA k c o)).formed Tryz.prog 67 = true := fun k c o => by kernel_rfl
  obtain ⟨r, e1, e2⟩ := run_equalIn_deep (P := Tryz.prog) 9997 3 67 (by kernel_rfl) w 3 3 (.agg (recA k1 c1 o1)) (.agg (recA k2 c2 o2)) _ _ (hf _ _ _) (hf _ _ _) (lits_rec k1 c1 h1 o1) (lits_rec k2 c2 h2 o2)
  refine ⟨r, by rw [run_eql_struct, e1]; rfl, e2.trans ?_⟩
  have hl : ∀ f, (digLits f).length = 32 := fun f => by simp [digLits]
  constructor
  · intro h
    obtain ⟨a, b⟩ := List.append_inj h (by rw [hl, hl])
    obtain ⟨c, d⟩ := List.append_inj b rfl
    simp only [List.cons.injEq, Lit.int.injEq, true_and, and_true] at c
    exact ⟨digLits_inj.1 a, c, digLits_inj.1 d⟩
  · rintro ⟨a, rfl, d⟩
    rw [digLits_inj.2 a, digLits_inj.2 d]
end Go.Proofs.YthglfmacjoecgaaGreatDoor
namespace Go.Proofs.YthglfmacjoecgaaGreatDoor
open Go.ChangeShapes Go.WideShapes Go.ChangeAt Go.RowKit

def noSrc : SrcR := ([], ByteArray.empty)
def srcL (s : SrcR) : List Value := [.string (bs s.1), .string s.2]
/-- v is a slice of the sources ss. -/
structure SrcsAt (w : World) (v : Value) (ss : List SrcR) : Prop where
  rows : RowsAt w v 2 ss.length (fun i => srcL (ss.getD i noSrc))
  wide : ∀ s ∈ ss, s.1.length ≤ maxLen ∧ s.2.size ≤ maxLen
theorem SrcsAt.chg {F : Nat → Prop} {w w' : World} {v : Value} {ss : List SrcR} (h : SrcsAt w v ss) (hc : Chg F w w') (hF : ∀ k, k < w.heap.size → ¬ F k) : SrcsAt w' v ss := ⟨h.rows.chg hc hF, h.wide⟩
theorem SrcsAt.len {w0 : World} {v : Value} {ss : List SrcR} (h : SrcsAt w0 v ss) (w : World) (ty : TypeId) : (Builtin.len_ #[26] ty #[v]).run Tryz.prog w = .ok (.int .i64 ss.length) w :=
  RowsAt.len (P := Tryz.prog) h.rows Tryz.underlying26 w ty
theorem SrcsAt.ix {w : World} {v : Value} {ss : List SrcR} (h : SrcsAt w v ss) (k : Nat) (hk : k < ss.length) :
    ∃ bb oo, (∀ w, (Instr.indexAt 26 v (.int .i64 k)).run Tryz.prog w = .ok (.pointer (some ⟨bb, oo, none⟩)) w) ∧ w.cell? ⟨bb, oo, none⟩ = some (.string (bs ss[k].1)) ∧ w.cell? ⟨bb, oo + 1, none⟩ = some (.string ss[k].2) ∧ bb < w.heap.size := by
  obtain ⟨bb, oo, h1, h2, h3⟩ := RowsAt.ix (P := Tryz.prog) h.rows Tryz.underlying26 (fun w => by kernel_rfl) (by decide) k hk
  have e := getD_of_lt ss noSrc k hk
  refine ⟨bb, oo, h1, ?_, ?_, h3⟩
  · have := h2 0 (by decide)
    rw [e] at this
    exact this
  · have := h2 1 (by decide)
    rw [e] at this
    exact this
theorem SrcsAt.form {w : World} {v : Value} {ss : List SrcR} (h : SrcsAt w v ss) : ∃ oa c, v = .slice oa ss.length c := by
  rcases h.rows.form with ⟨h1, h2⟩ | ⟨a, cap, h1, _⟩
  · exact ⟨none, 0, by rw [h1, h2]⟩
  · exact ⟨some a, cap, h1⟩
theorem SrcsAt.nil (w : World) : SrcsAt w (.slice none 0 0) [] := ⟨⟨.inl ⟨rfl, rfl⟩, Nat.zero_le _, fun _ hi => absurd hi (Nat.not_lt_zero _)⟩, by simp⟩

theorem rows_pick {α : Type} {w : World} {v : Value} {sz n : Nat} {C : Nat → List Value} (hR : RowsAt w v sz n C) (f : α → List Value) (no : α) (Good : α → Prop) (h : ∀ i, i < n → ∃ x, C i = f x ∧ Good x) :
    ∃ xs : List α, RowsAt w v sz xs.length (fun i => f (xs.getD i no)) ∧ ∀ x ∈ xs, Good x := by
  have hch : ∀ i, ∃ x, i < n → C i = f x ∧ Good x := fun i => by
    by_cases hi : i < n
    · obtain ⟨x, hx⟩ := h i hi
      exact ⟨x, fun _ => hx⟩
    · exact ⟨no, fun h => absurd h hi⟩
  have hL : ((List.range n).map fun i => Classical.choose (hch i)).length = n := by simp
  have hg : ∀ i, i < n → ((List.range n).map fun i => Classical.choose (hch i)).getD i no = Classical.choose (hch i) := by
    intro i hi
    simp [hi]
  refine ⟨(List.range n).map fun i => Classical.choose (hch i), ⟨?_, ?_, ?_⟩, ?_⟩
  · rw [hL]
    rcases hR.form with h | ⟨a, cap, hv, hc⟩
    · exact .inl h
    · refine .inr ⟨a, cap, hv, fun i hi j hj => ?_⟩
      rw [hg i hi, ← ((Classical.choose_spec (hch i)) hi).1]
      exact hc i hi j hj
  · rw [hL]; exact hR.le
  · intro i hi
    rw [hL] at hi
    show (f _).length = sz
    rw [hg i hi, ← ((Classical.choose_spec (hch i)) hi).1]
    exact hR.wide i hi
  · intro x hx
    obtain ⟨i, hi, rfl⟩ := List.mem_map.1 hx
    exact ((Classical.choose_spec (hch i)) (List.mem_range.1 hi)).2
section
variable {H : Type} {enc : TypeId × Value → H} {W : World} {b2 m : Nat} {u : Value} {cs : List Value} {y : DataW H × List MemPlace}
set_option maxRecDepth 100000 in
theorem srcs_of (h : DataW.trod enc Tryz.prog W b2 (fun _ => true) true m 26 [u] = some y) : ∃ ss, SrcsAt W u ss := by
  obtain ⟨n, C, hR, hC⟩ := rows_of_cell Tryz.underlying26 Tryz.underlying55 (by kernel_rfl) (by kernel_rfl) h
  obtain ⟨ss, h1, h2⟩ := rows_pick hR srcL noSrc (fun s => s.1.length ≤ maxLen ∧ s.2.size ≤ maxLen) (fun i hi => by
    have hw := hR.wide i hi
    have hf := hC i hi
    obtain ⟨u0, y0, m0, e0, r0⟩ := hf 0 _ rfl
    obtain ⟨u1, y1, m1, e1, r1⟩ := hf 1 _ rfl
    obtain ⟨ys, n', _, _, hlen, hyl, hfs⟩ := DataW.trod_struct Tryz.underlying41 r0
    have q0 := hfs 0 _ rfl
    have hq : ys[0]? = some (ys[0]'(by rw [hyl]; decide)) := List.getElem?_eq_getElem _
    rw [hq] at q0
    obtain ⟨k0, g0, _, w0⟩ := DataW.trod_string Tryz.underlying9 q0
    obtain ⟨k1, g1, _, w1⟩ := DataW.trod_string Tryz.underlying9 r1
    have hct : Tryz.prog.cellsOf 9 = 1 := by kernel_rfl
    have g0' : ([u0].drop 0).take (Tryz.prog.cellsOf 9) = [.string k0] := g0
    rw [hct] at g0'
    simp only [List.drop_zero, List.take_succ_cons, List.take_zero, List.cons.injEq, and_true] at g0' g1
    subst g0' g1
    refine ⟨(k0.data.toList, k1), ?_, by simpa using w0, w1⟩
    unfold srcL
    simp only [bs_list]
    generalize C i = L at *
    match L, hw with
    | [c0, c1], _ =>
      simp at e0 e1
      subst e0 e1
      rfl)
  exact ⟨ss, ⟨h1, h2⟩⟩
theorem wf_codes {n : Int} (h : (Lit.int .i64 n).wf = true) : -9223372036854775808 ≤ n ∧ n ≤ 9223372036854775807 := by
  simp [Lit.wf, IntKind.min, IntKind.max, IntKind.signed, IntKind.bits] at h
  omega
set_option maxRecDepth 100000 in
theorem ress_of (h : DataW.trod enc Tryz.prog W b2 (fun _ => true) true m 58 [u] = some y) : ∃ rs, ResAt W u rs ∧ ∀ r ∈ rs, (Lit.int .i64 r.1).wf = true := by
  obtain ⟨n, C, hR, hC⟩ := rows_of_cell Tryz.underlying58 Tryz.underlying47 (by kernel_rfl) (by kernel_rfl) h
  obtain ⟨rs, h1, h2⟩ := rows_pick hR resL noRes (fun r => (Lit.int .i64 r.1).wf = true ∧ r.2.size ≤ maxLen) (fun i hi => by
    have hw := hR.wide i hi
    have hf := hC i hi
    obtain ⟨u0, y0, m0, e0, r0⟩ := hf 0 _ rfl
    obtain ⟨u1, y1, m1, e1, r1⟩ := hf 1 _ rfl
    obtain ⟨k0, g0, _, w0⟩ := DataW.trod_int Tryz.underlying30 r0
    obtain ⟨k1, g1, _, w1⟩ := DataW.trod_string Tryz.underlying9 r1
    simp only [List.cons.injEq, and_true] at g0 g1
    subst g0 g1
    refine ⟨(k0, k1), ?_, w0, w1⟩
    unfold resL
    generalize C i = L at *
    match L, hw with
    | [c0, c1], _ =>
      simp at e0 e1
      subst e0 e1
      rfl)
  exact ⟨rs, ⟨h1, fun r hr => (h2 r hr).2⟩, fun r hr => (h2 r hr).1⟩
set_option maxRecDepth 100000 in
theorem res_of (h : DataW.trod enc Tryz.prog W b2 (fun _ => true) true m 47 cs = some y) : ∃ r : ResR, cs = resL r ∧ (Lit.int .i64 r.1).wf = true ∧ r.2.size ≤ maxLen := by
  obtain ⟨ys, n', _, _, hlen, hyl, hfs⟩ := DataW.trod_struct Tryz.underlying47 h
  have hct : Tryz.prog.cellsOf 47 = 2 := by kernel_rfl
  have hc0 : Tryz.prog.cellsOf 30 = 1 := by kernel_rfl
  have hc1 : Tryz.prog.cellsOf 9 = 1 := by kernel_rfl
  rw [hct] at hlen
  obtain ⟨a, b, rfl⟩ : ∃ a b, cs = [a, b] := by
    match cs, hlen with
    | [a, b], _ => exact ⟨a, b, rfl⟩
  have q0 := hfs 0 _ rfl
  have q1 := hfs 1 _ rfl
  have e0 : ys[0]? = some (ys[0]'(by rw [hyl]; decide)) := List.getElem?_eq_getElem _
  have e1 : ys[1]? = some (ys[1]'(by rw [hyl]; decide)) := List.getElem?_eq_getElem _
  rw [e0] at q0
  rw [e1] at q1
  obtain ⟨k0, g0, _, w0⟩ := DataW.trod_int Tryz.underlying30 q0
  obtain ⟨k1, g1, _, w1⟩ := DataW.trod_string Tryz.underlying9 q1
  have g0' : ([a, b].drop 0).take (Tryz.prog.cellsOf 30) = [.int .i64 k0] := g0
  have g1' : ([a, b].drop 1).take (Tryz.prog.cellsOf 9) = [.string k1] := g1
  rw [hc0] at g0'
  rw [hc1] at g1'
  simp only [List.drop_zero, List.drop_succ_cons, List.take_succ_cons, List.take_zero, List.cons.injEq, and_true] at g0' g1'
  subst g0' g1'
  exact ⟨(k0, k1), rfl, w0, w1⟩
set_option maxRecDepth 100000 in
theorem digest_of (h : DataW.trod enc Tryz.prog W b2 (fun _ => true) true m 57 cs = some y) : ∃ f : Nat → UInt8, cs = (rowB 32 f).toList := by
  obtain ⟨xs, n', _, _, hlen, hxl, hfs⟩ := DataW.trod_array Tryz.underlying57 h
  have hct : Tryz.prog.cellsOf 57 = 32 := by kernel_rfl
  have hc1 : Tryz.prog.cellsOf 5 = 1 := by kernel_rfl
  rw [hct] at hlen
  have hq : ∀ i, i < 32 → ∃ k : Int, cs[i]? = some (.int .u8 k) ∧ 0 ≤ k ∧ k ≤ 255 := by
    intro i hi
    have q := hfs i hi
    have e : xs[i]? = some (xs[i]'(by rw [hxl]; exact hi)) := List.getElem?_eq_getElem _
    rw [e] at q
    obtain ⟨k, g, _, hw⟩ := DataW.trod_int Tryz.underlying5 q
    rw [hc1, Nat.mul_one] at g
    have hic : i < cs.length := by omega
    rw [List.drop_eq_getElem_cons hic, List.take_succ_cons, List.take_zero] at g
    simp only [List.cons.injEq, and_true] at g
    simp [Lit.wf, IntKind.min, IntKind.max, IntKind.signed, IntKind.bits] at hw
    exact ⟨k, by rw [List.getElem?_eq_getElem hic, g], by omega, by omega⟩
  have hch : ∀ i, ∃ k : Int, i < 32 → cs[i]? = some (.int .u8 k) ∧ 0 ≤ k ∧ k ≤ 255 := fun i => by
    by_cases hi : i < 32
    · obtain ⟨k, hk⟩ := hq i hi
      exact ⟨k, fun _ => hk⟩
    · exact ⟨0, fun h => absurd h hi⟩
  obtain ⟨F, hF⟩ : ∃ F : Nat → UInt8, F = fun i => UInt8.ofNat (Classical.choose (hch i)).toNat := ⟨_, rfl⟩
  refine ⟨F, ?_⟩
  have hl : (rowB 32 F).toList.length = 32 := by simp [rowB_size]
  apply List.ext_getElem?
  intro i
  by_cases hi : i < 32
  · have hk := Classical.choose_spec (hch i) hi
    have e : (rowB 32 F).toList[i]? = (rowB 32 F)[i]? := Array.getElem?_toList
    rw [e, rowB_get 32 _ i hi, hk.1, hF]
    congr 2
    have : (UInt8.ofNat (Classical.choose (hch i)).toNat).toNat = (Classical.choose (hch i)).toNat := by
      rw [UInt8.toNat_ofNat']
      omega
    simp only
    rw [this]
    omega
  · rw [List.getElem?_eq_none (by omega), List.getElem?_eq_none (by omega)]
set_option maxRecDepth 100000 in
theorem record_of (h : DataW.trod enc Tryz.prog W b2 (fun _ => true) true m 67 cs = some y) : ∃ key c out, cs = (recA key c out).toList ∧ (Lit.int .i64 c).wf = true := by
  obtain ⟨ys, n', _, _, hlen, hyl, hfs⟩ := DataW.trod_struct Tryz.underlying67 h
  have hct : Tryz.prog.cellsOf 67 = 65 := by kernel_rfl
  have hc0 : Tryz.prog.cellsOf 57 = 32 := by kernel_rfl
  have hc1 : Tryz.prog.cellsOf 30 = 1 := by kernel_rfl
  rw [hct] at hlen
  have q0 := hfs 0 _ rfl
  have q1 := hfs 1 _ rfl
  have q2 := hfs 2 _ rfl
  have e0 : ys[0]? = some (ys[0]'(by rw [hyl]; decide)) := List.getElem?_eq_getElem _
  have e1 : ys[1]? = some (ys[1]'(by rw [hyl]; decide)) := List.getElem?_eq_getElem _
  have e2 : ys[2]? = some (ys[2]'(by rw [hyl]; decide)) := List.getElem?_eq_getElem _
  rw [e0] at q0
  rw [e1] at q1
  rw [e2] at q2
  obtain ⟨key, g0⟩ := digest_of q0
  obtain ⟨c, g1, _, w1⟩ := DataW.trod_int Tryz.underlying30 q1
  obtain ⟨out, g2⟩ := digest_of q2
  have g0' : (cs.drop 0).take (Tryz.prog.cellsOf 57) = (rowB 32 key).toList := g0
  have g1' : (cs.drop 32).take (Tryz.prog.cellsOf 30) = [.int .i64 c] := g1
  have g2' : (cs.drop 33).take (Tryz.prog.cellsOf 57) = (rowB 32 out).toList := g2
  rw [hc0] at g0' g2'
  rw [hc1] at g1'
  refine ⟨key, c, out, ?_, w1⟩
  rw [recA_list, ← g0', ← g1', ← g2']
  have h1 : cs.drop 33 = (cs.drop 32).drop 1 := by rw [List.drop_drop]
  rw [List.take_of_length_le (l := cs.drop 33) (by simp; omega), h1, List.take_append_drop, List.drop_zero, List.take_append_drop]
end
end Go.Proofs.YthglfmacjoecgaaGreatDoor
namespace Go.Proofs.YthglfmacjoecgaaGreatDoor
open Go.RowKit

theorem flat_lenV {α : Type} (f : α → List Value) (sz : Nat) (hf : ∀ x, (f x).length = sz) : ∀ (xs : List α), (xs.flatMap f).length = xs.length * sz
  | [] => by simp
  | x :: xs => by rw [List.flatMap_cons, List.length_append, hf, flat_lenV f sz hf xs, List.length_cons, Nat.succ_mul, Nat.add_comm]
theorem flat_get {α : Type} (f : α → List Value) (sz : Nat) (hf : ∀ x, (f x).length = sz) : ∀ (xs : List α) (i j : Nat) (hi : i < xs.length), j < sz → (xs.flatMap f)[i * sz + j]? = (f xs[i])[j]?
  | x :: xs, 0, j, _, hj => by
    rw [List.flatMap_cons, Nat.zero_mul, Nat.zero_add, List.getElem?_append_left (by rw [hf]; exact hj)]
    rfl
  | x :: xs, i + 1, j, hi, hj => by
    rw [List.flatMap_cons, List.getElem?_append_right (by rw [hf, Nat.succ_mul]; omega), hf, show (i + 1) * sz + j - sz = i * sz + j by rw [Nat.succ_mul]; omega, flat_get f sz hf xs i j (by simpa using hi) hj]
    rfl
theorem rows_of_owns {α : Type} {w : World} {e : TypeId} {sz : Nat} {v : Value} (f : α → List Value) (no : α) (xs : List α) (hf : ∀ x, (f x).length = sz) (h : w.ownsRow 0 e sz v xs.length (xs.flatMap f)) (hl : xs.length ≤ maxLen) :
    RowsAt w v sz xs.length (fun i => f (xs.getD i no)) := by
  refine ⟨?_, hl, fun i _ => hf _⟩
  rcases h.2 with ⟨rfl, h0⟩ | ⟨g, cap, cur, rfl, _⟩
  · left; exact ⟨rfl, h0⟩
  · right
    refine ⟨⟨g, 0, none⟩, cap, rfl, fun i hi j hj => ?_⟩
    have hlt : i * sz + j < xs.length * sz := by
      have h1 : (i + 1) * sz ≤ xs.length * sz := Nat.mul_le_mul_right _ hi
      rw [Nat.succ_mul] at h1
      omega
    have h3 := h.cellAt (i * sz + j) hlt
    have e3 : (⟨g, 0, none⟩ : Addr).add (i * sz + j) = ⟨g, i * sz + j, none⟩ := by unfold Addr.add; split <;> simp_all
    rw [e3, h3, getD_of_lt _ _ _ hi, flat_get f sz hf xs i j hi hj]
theorem ResAt.of_owns {w : World} {v : Value} {rs : List ResR} {n : Nat} (hn : n = rs.length) (h : w.ownsRow 0 47 2 v n (rs.flatMap resL)) (hl : rs.length ≤ 1000) (hs : ∀ r ∈ rs, r.2.size ≤ 100000) : ResAt w v rs := by
  subst hn
  exact ⟨rows_of_owns resL noRes rs (fun _ => rfl) h (by unfold maxLen; omega), fun r hr => by have := hs r hr; unfold maxLen; omega⟩
theorem elRes : ElT Tryz.prog 58 47 2 24 := .mk' (z := .agg #[.int .i64 0, .string ByteArray.empty]) Tryz.underlying58 (by kernel_rfl) rfl (by decide) rfl

section
variable {P : Program} {w : World} {ops : Array Oper} {rest : List Oper} {o : Oper} {a : Act} {Q : Exit → Act → World → Prop}
theorem wpList_makeSlice0 (hg : o.guard = none) (t : TypeId) (x y : Operand) (hop : o.op = Op.makeSlice t x y) (n : Nat) (hx : a.eval x = .int .i64 n) (hy : a.eval y = .int .i64 n) (e : TypeId) (zc : Array Value)
    (hr : (Instr.makeSlice t (.int .i64 n) (.int .i64 n)).run P w = .ok (.slice (some ⟨w.heap.size, 0, none⟩) n n) (w.alloc (.cells zc e)))
    (h : ∀ w', w'.heap[w.heap.size]? = some (.cells zc e (0, 0)) → w'.heap.size = w.heap.size + 1 → Chg (fun _ => False) w w' → wpList P ops Q rest (a.put o.dst (.slice (some ⟨w.heap.size, 0, none⟩) n n)) w') : wpList P ops Q (o :: rest) a w := by
  refine wpList_plain hg fun K' hK' => ?_
  unfold Oper.wp
  simp only [execOp, hop, hx, hy, Sem.run_bind, hr, Result.andThen, Sem.run_pure, Oper.upon]
  exact hK' _ _ (h _ (heap_alloc_new w _) (by simp) ((Chg.refl _ w).alloc _))
end
theorem madeDig (n : Nat) : madeCells (Value.agg (rowB 32 (fun _ => 0))).cells (n * 32) = rowB (n * 32) (fun _ => 0) := by
  show madeCells (rowB 32 (fun _ => 0)) (n * 32) = rowB (n * 32) (fun _ => 0)
  apply Array.ext_getElem?
  intro i
  by_cases hi : i < n * 32
  · rw [rowB_get _ _ i hi]
    have e : (rowB 32 (fun _ => 0))[i % 32]! = .int .u8 0 := by
      have h2 := rowB_get 32 (fun _ => 0) (i % 32) (Nat.mod_lt _ (by decide))
      rw [Array.getElem!_eq_getD, Array.getD_eq_getD_getElem?, h2]
      rfl
    simp [madeCells, rowB_size, hi, e]
  · rw [Array.getElem?_eq_none (by rw [size_madeCells]; omega), Array.getElem?_eq_none (by rw [rowB_size]; omega)]
/-- A slice of n digests, all of them zero. -/
theorem run_makeDig (n : Nat) (hn : n ≤ 1000) (w : World) : (Instr.makeSlice 34 (.int .i64 n) (.int .i64 n)).run Tryz.prog w = .ok (.slice (some ⟨w.heap.size, 0, none⟩) n n) (w.alloc (.cells (rowB (n * 32) (fun _ => 0)) 57)) := by
  have q1 : (Tryz.prog.info? 57).map (fun i => (i.bytes, i.size)) = some (32, 32) := by kernel_rfl
  have q2 : (Tryz.prog.info? 57).bind (fun i => i.zero) = some (.agg (rowB 32 (fun _ => 0))) := by kernel_rfl
  obtain ⟨i, hi⟩ : ∃ i, Tryz.prog.info? 57 = some i := by
    cases h : Tryz.prog.info? 57 with
    | none => rw [h] at q1; cases q1
    | some i => exact ⟨i, rfl⟩
  rw [hi] at q1 q2
  simp only [Option.map_some, Option.some.injEq, Prod.mk.injEq, Option.bind_some] at q1 q2
  have h := run_make (P := Tryz.prog) w 34 57 i (.agg (rowB 32 (fun _ => 0))) Tryz.underlying34 hi q2 .i64 .i64 (n : Int) (n : Int) (by omega) (Int.le_refl _) (by rw [q1.1]; omega) (by omega)
  simp only [Int.toNat_natCast, q1.2] at h
  rw [h, madeDig]
/-- Digests one behind the other. -/
def keysF (K : Nat → Nat → UInt8) : Nat → UInt8 := fun k => K (k / 32) (k % 32)
theorem keysF_put (n : Nat) (K : Nat → Nat → UInt8) (i : Nat) (hi : i < n) (d : Nat → UInt8) :
    ((rowB (n * 32) (keysF K)).toList.take (i * 32) ++ (rowB 32 d).toList ++ (rowB (n * 32) (keysF K)).toList.drop (i * 32 + (rowB 32 d).size)).toArray = rowB (n * 32) (keysF fun j => if j = i then d else K j) := by
  apply Array.ext_getElem?
  intro k
  rw [rowB_size]
  have hL : (rowB (n * 32) (keysF K)).toList.length = n * 32 := by simp [rowB_size]
  have hD : (rowB 32 d).toList.length = 32 := by simp [rowB_size]
  have h32 : (i + 1) * 32 ≤ n * 32 := Nat.mul_le_mul_right _ hi
  rw [List.getElem?_toArray]
  by_cases h1 : k < i * 32
  · rw [List.append_assoc, List.getElem?_append_left (by rw [List.length_take]; omega), List.getElem?_take, if_pos h1, Array.getElem?_toList, rowB_get _ _ k (by omega), rowB_get _ _ k (by omega)]
    unfold keysF
    simp only
    rw [if_neg (by omega)]
  · by_cases h2 : k < i * 32 + 32
    · rw [List.getElem?_append_left (by simp [rowB_size]; omega), List.getElem?_append_right (by rw [List.length_take]; omega), List.length_take, hL, Nat.min_eq_left (by omega), Array.getElem?_toList, rowB_get 32 d _ (by omega), rowB_get _ _ k (by omega)]
      unfold keysF
      simp only
      rw [if_pos (by omega), show k - i * 32 = k % 32 by omega]
    · rw [List.getElem?_append_right (by simp [rowB_size]; omega), List.getElem?_drop]
      have e : i * 32 + 32 + (k - (List.take (i * 32) (rowB (n * 32) (keysF K)).toList ++ (rowB 32 d).toList).length) = k := by
        rw [List.length_append, List.length_take, hL, hD, Nat.min_eq_left (by omega)]
        omega
      rw [e, Array.getElem?_toList]
      by_cases h3 : k < n * 32
      · rw [rowB_get _ _ k h3, rowB_get _ _ k h3]
        unfold keysF
        simp only
        rw [if_neg (by omega)]
      · rw [Array.getElem?_eq_none (by rw [rowB_size]; omega), Array.getElem?_eq_none (by rw [rowB_size]; omega)]
end Go.Proofs.YthglfmacjoecgaaGreatDoor
namespace Go.Proofs.YthglfmacjoecgaaGreatDoor
open Go.RowKit

theorem keyLits_string {P : Program} {d : Nat} {t : TypeId} {s : ByteArray} (hu : P.underlying t = some .string) (hs : s.size ≤ maxLen) : P.keyLits (d + 1) t [.string s] = some [.string s.data.toList] := by
  simp only [Program.keyLits]
  rw [hu]
  simp [hs]
theorem lits_res (r : ResR) (h1 : (Lit.int .i64 r.1).wf = true) (h2 : r.2.size ≤ maxLen) : Tryz.prog.keyLits 2 47 (resL r) = some [.int .i64 r.1, .string r.2.data.toList] := by
  have hcr : Tryz.prog.cellsOf 47 = 2 := by kernel_rfl
  have hce : Tryz.prog.cellsOf 30 = 1 := by kernel_rfl
  have hcs : Tryz.prog.cellsOf 9 = 1 := by kernel_rfl
  rw [keyLits_struct Tryz.underlying47, hcr, if_pos ⟨rfl, by kernel_rfl⟩]
  unfold resL
  have e0 : (([Value.int .i64 r.1, .string r.2]).drop 0).take 1 = [Value.int .i64 r.1] := rfl
  have e1 : (([Value.int .i64 r.1, .string r.2]).drop 1).take 1 = [Value.string r.2] := rfl
  simp only [List.mapM_cons, List.mapM_nil, hce, hcs, e0, e1]
  rw [keyLits_int (q := .i64) Tryz.underlying30 h1, keyLits_string Tryz.underlying9 h2]
  rfl
/-- '==' of two results. -/
theorem eq_res (a b : ResR) (ha : (Lit.int .i64 a.1).wf = true) (hb : (Lit.int .i64 b.1).wf = true) (ha2 : a.2.size ≤ maxLen) (hb2 : b.2.size ≤ maxLen) (w : World) :
    (binOp .eql 47 (resW a) (resW b)).run Tryz.prog w = .ok (.bool (decide (a = b))) w := by
  have hf : ∀ r : ResR, (resW r).formed Tryz.prog 47 = true := fun r => by kernel_rfl
  obtain ⟨r, e1, e2⟩ := run_equalIn_deep (P := Tryz.prog) 9998 2 47 (by kernel_rfl) w 2 2 (resW a) (resW b) _ _ (hf a) (hf b) (lits_res a ha ha2) (lits_res b hb hb2)
  have hr : r = decide (a = b) := by
    rw [Bool.eq_iff_iff, decide_eq_true_iff, e2]
    simp only [List.cons.injEq, Lit.int.injEq, true_and, Lit.string.injEq, and_true]
    obtain ⟨a1, a2⟩ := a
    obtain ⟨b1, b2⟩ := b
    simp only [Prod.mk.injEq]
    exact ⟨fun ⟨h1, h2⟩ => ⟨h1, ByteArray.ext (Array.toList_inj.1 h2)⟩, fun ⟨h1, h2⟩ => ⟨h1, by rw [h2]⟩⟩
  rw [← hr]
  unfold resW at e1 ⊢
  rw [run_eql_struct, e1]
  rfl
abbrev BltR := Nm × ResR
def noBlt : BltR := ([], noRes)
def bltL (b : BltR) : List Value := [.string (bs b.1), .int .i64 b.2.1, .string b.2.2]
def bltW (b : BltR) : Value := .agg #[.string (bs b.1), .int .i64 b.2.1, .string b.2.2]
theorem lits_blt (b : BltR) (h0 : b.1.length ≤ maxLen) (h1 : (Lit.int .i64 b.2.1).wf = true) (h2 : b.2.2.size ≤ maxLen) : Tryz.prog.keyLits 3 53 (bltL b) = some [.string b.1, .int .i64 b.2.1, .string b.2.2.data.toList] := by
  have hcr : Tryz.prog.cellsOf 53 = 3 := by kernel_rfl
  have hcn : Tryz.prog.cellsOf 41 = 1 := by kernel_rfl
  have hcr2 : Tryz.prog.cellsOf 47 = 2 := by kernel_rfl
  have hcs : Tryz.prog.cellsOf 9 = 1 := by kernel_rfl
  rw [keyLits_struct Tryz.underlying53, hcr, if_pos ⟨rfl, by kernel_rfl⟩]
  unfold bltL
  have e0 : (([Value.string (bs b.1), .int .i64 b.2.1, .string b.2.2]).drop 0).take 1 = [Value.string (bs b.1)] := rfl
  have e1 : (([Value.string (bs b.1), .int .i64 b.2.1, .string b.2.2]).drop 1).take 2 = resL b.2 := rfl
  have hn : Tryz.prog.keyLits 2 41 [Value.string (bs b.1)] = some [.string b.1] := by
    rw [keyLits_struct Tryz.underlying41, hcn, if_pos ⟨rfl, by kernel_rfl⟩]
    have e2 : (([Value.string (bs b.1)]).drop 0).take 1 = [Value.string (bs b.1)] := rfl
    simp only [List.mapM_cons, List.mapM_nil, hcs, e2]
    rw [keyLits_string Tryz.underlying9 (by rw [bs_size]; exact h0), bs_data]
    rfl
  simp only [List.mapM_cons, List.mapM_nil, hcn, hcr2, e0, e1]
  rw [hn, lits_res b.2 h1 h2]
  rfl
/-- '==' of two of them. -/
theorem eq_blt (a b : BltR) (ha0 : a.1.length ≤ maxLen) (hb0 : b.1.length ≤ maxLen) (ha : (Lit.int .i64 a.2.1).wf = true) (hb : (Lit.int .i64 b.2.1).wf = true) (ha2 : a.2.2.size ≤ maxLen) (hb2 : b.2.2.size ≤ maxLen) (w : World) :
    (binOp .eql 53 (bltW a) (bltW b)).run Tryz.prog w = .ok (.bool (decide (a = b))) w := by
  have hf : ∀ r : BltR, (bltW r).formed Tryz.prog 53 = true := fun r => by kernel_rfl
  obtain ⟨r, e1, e2⟩ := run_equalIn_deep (P := Tryz.prog) 9997 3 53 (by kernel_rfl) w 3 3 (bltW a) (bltW b) _ _ (hf a) (hf b) (lits_blt a ha0 ha ha2) (lits_blt b hb0 hb hb2)
  have hr : r = decide (a = b) := by
    rw [Bool.eq_iff_iff, decide_eq_true_iff, e2]
    simp only [List.cons.injEq, Lit.int.injEq, true_and, Lit.string.injEq, and_true]
    obtain ⟨a0, a1, a2⟩ := a
    obtain ⟨b0, b1, b2⟩ := b
    simp only [Prod.mk.injEq]
    exact ⟨fun ⟨h0, h1, h2⟩ => ⟨h0, h1, ByteArray.ext (Array.toList_inj.1 h2)⟩, fun ⟨h0, h1, h2⟩ => ⟨h0, h1, by rw [h2]⟩⟩
  rw [← hr]
  unfold bltW at e1 ⊢
  rw [run_eql_struct, e1]
  rfl
/-- v is a slice of these. -/
structure BltAt (w : World) (v : Value) (xs : List BltR) : Prop where
  rows : RowsAt w v 3 xs.length (fun i => bltL (xs.getD i noBlt))
theorem BltAt.chg {F : Nat → Prop} {w w' : World} {v : Value} {xs : List BltR} (h : BltAt w v xs) (hc : Chg F w w') (hF : ∀ k, k < w.heap.size → ¬ F k) : BltAt w' v xs := ⟨h.rows.chg hc hF⟩
theorem BltAt.len {w0 : World} {v : Value} {xs : List BltR} (h : BltAt w0 v xs) (w : World) (ty : TypeId) : (Builtin.len_ #[29] ty #[v]).run Tryz.prog w = .ok (.int .i64 xs.length) w :=
  RowsAt.len (P := Tryz.prog) h.rows Tryz.underlying29 w ty
theorem BltAt.form {w : World} {v : Value} {xs : List BltR} (h : BltAt w v xs) : ∃ oa c, v = .slice oa xs.length c := by
  rcases h.rows.form with ⟨h1, h2⟩ | ⟨a, cap, h1, _⟩
  · exact ⟨none, 0, by rw [h1, h2]⟩
  · exact ⟨some a, cap, h1⟩
theorem BltAt.nil (w : World) : BltAt w (.slice none 0 0) [] := ⟨⟨.inl ⟨rfl, rfl⟩, Nat.zero_le _, fun _ hi => absurd hi (Nat.not_lt_zero _)⟩⟩
theorem BltAt.ix {w : World} {v : Value} {xs : List BltR} (h : BltAt w v xs) (k : Nat) (hk : k < xs.length) :
    ∃ bb oo, (∀ w, (Instr.indexAt 29 v (.int .i64 k)).run Tryz.prog w = .ok (.pointer (some ⟨bb, oo, none⟩)) w) ∧ w.cell? ⟨bb, oo, none⟩ = some (.string (bs xs[k].1)) ∧ w.cell? ⟨bb, oo + 1, none⟩ = some (.int .i64 xs[k].2.1) ∧ w.cell? ⟨bb, oo + 2, none⟩ = some (.string xs[k].2.2) ∧ bb < w.heap.size := by
  obtain ⟨bb, oo, h1, h2, h3⟩ := RowsAt.ix (P := Tryz.prog) h.rows Tryz.underlying29 (fun w => by kernel_rfl) (by decide) k hk
  have e := getD_of_lt xs noBlt k hk
  refine ⟨bb, oo, h1, ?_, ?_, ?_, h3⟩
  · have := h2 0 (by decide)
    rw [e] at this
    exact this
  · have := h2 1 (by decide)
    rw [e] at this
    exact this
  · have := h2 2 (by decide)
    rw [e] at this
    exact this
theorem BltAt.of_owns {w : World} {v : Value} {xs : List BltR} {n : Nat} (hn : n = xs.length) (h : w.ownsRow 0 53 3 v n (xs.flatMap bltL)) (hl : xs.length ≤ 1000) : BltAt w v xs := by
  subst hn
  exact ⟨rows_of_owns bltL noBlt xs (fun _ => rfl) h (by unfold maxLen; omega)⟩
/-- v is a slice of n keys. -/
structure KeysAt (w : World) (v : Value) (n : Nat) (K : Nat → Nat → UInt8) : Prop where
  form : ∃ oa c, v = .slice oa n c
  rows : RowsAt w v 32 n (fun i => (rowB 32 (K i)).toList)
theorem KeysAt.chg {F : Nat → Prop} {w w' : World} {v : Value} {n : Nat} {K : Nat → Nat → UInt8} (h : KeysAt w v n K) (hc : Chg F w w') (hF : ∀ k, k < w.heap.size → ¬ F k) : KeysAt w' v n K := ⟨h.form, h.rows.chg hc hF⟩
theorem KeysAt.len {w0 : World} {v : Value} {n : Nat} {K : Nat → Nat → UInt8} (h : KeysAt w0 v n K) (w : World) (ty : TypeId) : (Builtin.len_ #[34] ty #[v]).run Tryz.prog w = .ok (.int .i64 n) w :=
  RowsAt.len (P := Tryz.prog) h.rows Tryz.underlying34 w ty
theorem KeysAt.nil (w : World) (K : Nat → Nat → UInt8) : KeysAt w (.slice none 0 0) 0 K := ⟨⟨none, 0, rfl⟩, ⟨.inl ⟨rfl, rfl⟩, Nat.zero_le _, fun _ hi => absurd hi (Nat.not_lt_zero _)⟩⟩
/-- A block of digests, read. -/
theorem KeysAt.of_block {w : World} {b n : Nat} {K : Nat → Nat → UInt8} {T : TypeId} {fz : Nat × Nat} (h : w.heap[b]? = some (.cells (rowB (n * 32) (keysF K)) T fz)) (hn : n ≤ 1000) : KeysAt w (.slice (some ⟨b, 0, none⟩) n n) n K := by
  refine ⟨⟨_, _, rfl⟩, .inr ⟨⟨b, 0, none⟩, n, rfl, fun i hi j hj => ?_⟩, by unfold maxLen; omega, fun _ _ => by simp [rowB_size]⟩
  have h32 : (i + 1) * 32 ≤ n * 32 := Nat.mul_le_mul_right _ hi
  have e3 : (⟨b, 0, none⟩ : Addr).add (i * 32 + j) = ⟨b, i * 32 + j, none⟩ := by unfold Addr.add; split <;> simp_all
  rw [e3, cell_of h, rowB_get _ _ _ (by omega), Array.getElem?_toList, rowB_get 32 _ j hj]
  unfold keysF
  rw [show (i * 32 + j) / 32 = i by omega, show (i * 32 + j) % 32 = j by omega]
theorem KeysAt.ix {w : World} {v : Value} {n : Nat} {K : Nat → Nat → UInt8} (h : KeysAt w v n K) (k : Nat) (hk : k < n) :
    ∃ bb oo, (∀ w, (Instr.indexAt 34 v (.int .i64 k)).run Tryz.prog w = .ok (.pointer (some ⟨bb, oo, none⟩)) w) ∧ w.rangeAt bb oo (rowB 32 (K k)).toList ∧ bb < w.heap.size := by
  obtain ⟨bb, oo, h1, h2, h3⟩ := RowsAt.ix (P := Tryz.prog) h.rows Tryz.underlying34 (fun w => by kernel_rfl) (by decide) k hk
  refine ⟨bb, oo, h1, fun j u hj => ?_, h3⟩
  have hl := (List.getElem?_eq_some_iff.1 hj).1
  simp [rowB_size] at hl
  rw [h2 j hl]
  exact hj
end Go.Proofs.YthglfmacjoecgaaGreatDoor
namespace Go.Proofs.YthglfmacjoecgaaGreatDoor
open Go.RowKit

/-- Block b is a build that is made: block r is what is there by names, block kb the keys. -/
structure IsKit (w : World) (b r kb : Nat) (g : GrR) (sv av : Value) (iv : Nat → Value) (t : List (Nm × ResR)) (K : Nat → Nat → UInt8) : Prop where
  blk : w.heap[b]? = some (.cells #[sv, av, .map (some r), .slice (some ⟨kb, 0, none⟩) g.acts.length g.acts.length] 112 (0, 0))
  srcs : NamesAt w sv g.srcs
  acts : ActsAt w av g.acts iv
  map : MapL w r nmV resW t
  keys : w.heap[kb]? = some (.cells (rowB (g.acts.length * 32) (keysF K)) 57 (0, 0))
def zeroK : Nat → Nat → UInt8 := fun _ _ => 0
def madeS (g : GrR) (srcs : List SrcR) : List (Nm × ResR) := madeT FF g srcs
/-- What each action comes to, with its name. -/
def outT (g : GrR) (srcs : List SrcR) : List BltR := g.acts.map fun a => (a.name, valT (madeS g srcs) a.name)
def outS (g : GrR) (srcs : List SrcR) : List BltR := if checkS g srcs = 0 then outT g srcs else []
def cntS (g : GrR) (srcs : List SrcR) : Nat := if checkS g srcs = 0 then g.acts.length else 0
def keyS (g : GrR) (srcs : List SrcR) : Nat → Nat → UInt8 := keyK g (madeS g srcs)
/-- What Build answers. -/
def BuiltPost (w : World) (g : GrR) (srcs : List SrcR) (e : Ending) (w' : World) : Prop :=
  Chg (fun _ => False) w w' ∧ ∃ v, e = .returned (.tuple #[v, .int .i64 (checkS g srcs)]) ∧ BltAt w' v (outS g srcs)
/-- What Keys answers. -/
def KeysPost (w : World) (g : GrR) (srcs : List SrcR) (e : Ending) (w' : World) : Prop :=
  Chg (fun _ => False) w w' ∧ ∃ v, e = .returned (.tuple #[v, .int .i64 (checkS g srcs)]) ∧ KeysAt w' v (cntS g srcs) (keyS g srcs)
def LaidPost (w : World) (g : GrR) (sv av : Value) (iv : Nat → Value) (srcs : List SrcR) (e : Ending) (w' : World) : Prop :=
  Chg (fun _ => False) w w' ∧ ((checkS g srcs = 0 ∧ ∃ b r kb, e = .returned (.tuple #[.pointer (some ⟨b, 0, none⟩), .int .i64 0]) ∧ IsKit w' b r kb g sv av iv (srcT srcs) zeroK ∧ w.heap.size ≤ r ∧ w.heap.size ≤ kb ∧ w.heap.size ≤ b ∧ r ≠ kb ∧ b ≠ r ∧ b ≠ kb) ∨
    (checkS g srcs ≠ 0 ∧ e = .returned (.tuple #[.pointer none, .int .i64 (checkS g srcs)])))
theorem keyResW : Tryz.prog.underlying 110 = some (.map 9 47) := Tryz.underlying110
theorem zeroR (w : World) : (zeroValue 47).run Tryz.prog w = .ok (resW noRes) w := by kernel_rfl
theorem valT_getD (t : List (Nm × ResR)) (s : Nm) : ((lval s t).map resW).getD (resW noRes) = resW (valT t s) := by
  unfold valT
  cases lval s t <;> rfl
theorem outT_len (g : GrR) (srcs : List SrcR) : (outT g srcs).length = g.acts.length := by simp [outT]
theorem outT_get (g : GrR) (srcs : List SrcR) (i : Nat) (h : i < g.acts.length) : (outT g srcs)[i]'(by rw [outT_len]; exact h) = (g.acts[i].name, valT (madeS g srcs) g.acts[i].name) := by simp [outT]
theorem srcT_take (srcs : List SrcR) (k : Nat) (h : k < srcs.length) : srcT (srcs.take (k + 1)) = lput srcs[k].1 ((0 : Int), srcs[k].2) (srcT (srcs.take k)) := by
  unfold srcT
  rw [List.map_take, List.map_take, atL_take _ k (by simpa using h)]
  simp
theorem srcT_length (srcs : List SrcR) : (srcT srcs).length ≤ srcs.length ∧ ((srcT srcs).length = srcs.length ↔ (srcs.map Prod.fst).Nodup) := by
  have h := atL_length (srcs.map fun s => (s.1, ((0 : Int), s.2)))
  rw [List.length_map, List.map_map] at h
  exact ⟨h.1, h.2.1⟩
theorem srcT_some (srcs : List SrcR) (hn : (srcs.map Prod.fst).Nodup) (s : Nm) : (lval s (srcT srcs)).isSome = true ↔ s ∈ srcs.map Prod.fst := by
  constructor
  · intro h
    cases hv : lval s (srcT srcs) with
    | none => rw [hv] at h; cases h
    | some r =>
      rw [srcT_eq hn] at hv
      obtain ⟨x, hx, e⟩ := List.mem_map.1 (mem_of_lval hv)
      simp only [Prod.mk.injEq] at e
      exact List.mem_map.2 ⟨x, hx, e.1⟩
  · intro h
    obtain ⟨x, hx, e⟩ := List.mem_map.1 h
    rw [← e, srcT_mem hn hx]
    rfl
end Go.Proofs.YthglfmacjoecgaaGreatDoor
namespace Go.Proofs.YthglfmacjoecgaaGreatDoor
open Go.RowKit

set_option maxRecDepth 100000 in
set_option maxHeartbeats 4000000 in
theorem rmake_any (code : ByteArray) (hc : code.size ≤ 1000) (rs : List ResR) (hn : rs.length ≤ 32) (hb : ∀ r ∈ rs, r.2.size ≤ 100000) (v : Value) (w : World) (hin : ResAt w v rs) :
    Calls Tryz.prog 33 #[.string code, v] w (Rets (resW (makeF code rs)) (Chg (fun _ => False) w)) := by
  have hlen := hin.len
  have HIN := hid hin
  have HBZ := hid hb
  have ha1 := heap_alloc_new' w (.cells #[.int .i64 0, .string { data := #[] }] 47)
  have hc1 := al_chg w (.cells #[.int .i64 0, .string { data := #[] }] 47)
  have hs1 : (w.alloc (.cells #[.int .i64 0, .string { data := #[] }] 47)).heap.size = w.heap.size + 1 := by simp
  have HA1 := hid ha1
  have HC1 := hid hc1
  have HS1 := hid hs1
  clear hin hb ha1 hc1 hs1
  go_enter Tryz.func33, Tryz.ntmps33
  go_wp2_with fail
  generalize w.alloc (.cells #[.int .i64 0, .string { data := #[] }] 47) = w1 at *
  obtain ⟨d0, hd0⟩ : ∃ d0, d0 = w.heap.size := ⟨_, rfl⟩
  have HD0 := hid hd0
  rw [← hd0] at HA1 HS1 ⊢
  clear hd0
  go_loopw [5, 6] (fun v5 i wr => ∃ (k : Nat) (x : Value), x = v5 ∧ k ≤ rs.length ∧ i = .int .i64 k ∧ wr.ownsRow 0 9 1 x k (((rs.take k).map Prod.snd).map Value.string) ∧ (∀ q, x.ownBlock = some q → d0 + 1 ≤ q) ∧ Chg (fun _ => False) w1 wr ∧ ∀ r ∈ rs.take k, r.1 = 0) (fun _ i _ => rs.length - (intOf i).toNat)
  case atStart =>
    have h := owns_new w1 [] 9 1 0 rfl (Nat.zero_le _)
    rw [HS1.out] at h
    exact ⟨0, _, rfl, Nat.zero_le _, rfl, h, (fun q h => by simp [Value.ownBlock] at h; omega), al_chg w1 _, by simp⟩
  case round =>
    obtain ⟨k, x5, hx5, hk, rfl, hown, hbl, hch, hz⟩ := hrel
    subst hx5
    have HOWN := hid hown
    have HBL := hid hbl
    have HCH := hid hch
    have HZ := hid hz
    clear hown hbl hch hz
    by_cases hkn : k < rs.length
    · have hkn' : (k : Int) < rs.length := by omega
      have hcw : Chg (fun _ => False) w wr := HC1.out.trans HCH.out (fun _ _ h => h)
      obtain ⟨bb, oo, hix, e0, e1, hlt⟩ := (HIN.out.chg hcw (fun _ _ h => h)).ix k hkn
      have HTK : Hid (((rs.take (k + 1)).map Prod.snd).map Value.string = ((rs.take k).map Prod.snd).map Value.string ++ [.string rs[k].2]) := hid (by rw [List.take_succ_eq_append_getElem hkn, List.map_append, List.map_append]; rfl)
      have HTM : Hid (∀ r ∈ rs.take (k + 1), r ∈ rs.take k ∨ r = rs[k]) := hid (fun r hr => by
        rw [List.take_succ_eq_append_getElem hkn, List.mem_append] at hr
        rcases hr with h | h
        · exact .inl h
        · exact .inr (List.mem_singleton.1 h))
      have HME := hid (List.getElem_mem hkn)
      have HSZ : Hid (d0 + 1 ≤ wr.heap.size) := hid (by have := HCH.out.size; have := HS1.out; omega)
      have hcz : ∃ cd, cd = rs[k].1 := ⟨_, rfl⟩
      obtain ⟨cd, hcd⟩ := hcz
      have HCD := hid hcd
      rw [← hcd] at e0
      clear hcd hcw
      obtain ⟨b2, hb2⟩ : ∃ b2, b2 = rs[k].2 := ⟨_, rfl⟩
      rw [← hb2] at e1 HTK
      clear hb2
      have hkd := HCH.out.obj HA1.out (fun h => h)
      have q0 := cell_of hkd 0
      have q1 := cell_of hkd 1
      have f0 := frozen_of hkd 0
      have f1 := frozen_of hkd 1
      simp at q0 q1
      have XS := hid (res_stored hkd (.int .i64 34) (.string { data := #[] }))
      have hdn : ¬ d0 = wr.heap.size := by have := HSZ.out; omega
      have hdn2 : ¬ wr.heap.size = d0 := by have := HSZ.out; omega
      clear hkd
      by_cases h0 : cd = 0
      · subst h0
        go_wp2_with (guard_target =~ wpList _ _ _ (Oper.mk (some 30) _ _ _ _ _ :: _) _ _; refine wpList_append_new rfl _ _ 22 rfl elStr HOWN.out rfl #[.string b2] 1 1 rfl rfl rfl (by unfold maxLen; omega) (by omega) (by decide) ?_; intro g6 cap6 w6 hown6 hch6 hg6)
        go_roundw
        case rel =>
          refine ⟨k + 1, _, rfl, by omega, by go_num, ?_, fun q hq => ?_, HCH.out.trans hch6 (fun q hq h => absurd (HBL.out q h) (by have := HS1.out; omega)), fun r hr => ?_⟩
          · rw [HTK.out]
            exact hown6
          · simp [Value.ownBlock] at hq
            subst hq
            rcases hg6 with h | h
            · exact HBL.out _ h
            · have := HSZ.out
              omega
          · rcases HTM.out r hr with h | h
            · exact HZ.out r h
            · rw [h]; exact HCD.out.symm
        case measure => simp [intOf]; omega
      · have hne : (cd == 0) = false := by rw [beq_eq_false_iff_ne]; exact h0
        have HM : Hid (makeF code rs = (34, ByteArray.empty)) := hid (by
          unfold makeF
          rw [if_pos ⟨rs[k], HME.out, by rw [← HCD.out]; exact h0⟩])
        go_wp2_with fail
        refine bodyPost_ret (v := resW (34, ByteArray.empty)) (by simp [results, Tryz.results33, go_sem, XS.out.1, XS.out.2.1]; rfl) rfl ⟨by rw [HM.out], ?_⟩
        have hcw : Chg (fun _ => False) w wr := HC1.out.trans HCH.out (fun _ _ h => h)
        have := res_chg hcw (.int .i64 34) (.string { data := #[] })
        rw [← HD0.out] at this
        exact this
    · obtain rfl : k = rs.length := by omega
      have hown := HOWN.out
      rw [List.take_length] at hown
      have hz := HZ.out
      rw [List.take_length] at hz
      have hstr : StrsAt wr x5 (rs.map Prod.snd) := strs_own hown (by simp) (by simp; omega) (fun s hs => by
        obtain ⟨r, hr, rfl⟩ := List.mem_map.1 hs
        exact HBZ.out r hr)
      have hcw : Chg (fun _ => False) w wr := HC1.out.trans HCH.out (fun _ _ h => h)
      have hrun := rrun_any code (by unfold maxLen; omega) x5 (rs.map Prod.snd) wr hstr
      have hM : makeF code rs = (((runOut hashS code (rs.map Prod.snd)).1.1 : Int), (runOut hashS code (rs.map Prod.snd)).1.2) := by
        unfold makeF
        rw [if_neg (fun ⟨r, hr, h⟩ => h (hz r hr))]
      have HM := hid hM
      have HRUN := hid hrun
      clear hown hz hstr hcw hrun hM
      generalize (runOut hashS code (rs.map Prod.snd)).1.1 = c9 at *
      generalize (runOut hashS code (rs.map Prod.snd)).1.2 = b9 at *
      generalize (runOut hashS code (rs.map Prod.snd)).2 = n9 at *
      go_wp2_with (go_at_call 72; refine HRUN.out.mono ?_; rintro e w9 ⟨rfl, hc9⟩; have hkd := heap_alloc_old' ((HCH.out.trans hc9 (fun _ _ h => h)).obj HA1.out (fun h => h)) (.cells #[.int .i64 (c9 : Int), .string b9] 47); have q0 := cell_of hkd 0; have q1 := cell_of hkd 1; have f0 := frozen_of hkd 0; have f1 := frozen_of hkd 1; simp at q0 q1; have XS := hid (res_stored hkd (.int .i64 (c9 : Int)) (.string b9)); have hdn : ¬ d0 = w9.heap.size := (by have := HCH.out.size; have := HS1.out; have := hc9.size; omega); have hdn2 : ¬ w9.heap.size = d0 := (fun e => hdn e.symm); clear hkd)
      refine bodyPost_ret (v := resW ((c9 : Int), b9)) (by simp [results, Tryz.results33, go_sem, XS.out.1, XS.out.2.1]; rfl) rfl ⟨by rw [HM.out], ?_⟩
      have hcw : Chg (fun _ => False) w (w9.alloc (.cells #[.int .i64 (c9 : Int), .string b9] 47)) := ((HC1.out.trans HCH.out (fun _ _ h => h)).trans hc9 (fun _ _ h => h)).alloc _
      have := res_chg hcw (.int .i64 (c9 : Int)) (.string b9)
      rw [← HD0.out] at this
      exact this
end Go.Proofs.YthglfmacjoecgaaGreatDoor
namespace Go.Proofs.YthglfmacjoecgaaGreatDoor
open Go.RowKit
section
variable {P : Program} {w : World} {ops : Array Oper} {rest : List Oper} {o : Oper} {a : Act} {Q : Exit → Act → World → Prop}
theorem wpList_build2 (hg : o.guard = none) (t : TypeId) (i j : Nat) (x y : Operand) (hop : o.op = Op.build t #[(i, x), (j, y)]) (vx vy : Value) (hx : a.eval x = vx) (hy : a.eval y = vy) (z : Value) (hr : (Instr.build t #[(i, vx), (j, vy)]).run P w = .ok z w)
    (h : wpList P ops Q rest (a.put o.dst z) w) : wpList P ops Q (o :: rest) a w := by
  refine wpList_plain hg fun K' hK' => ?_
  unfold Oper.wp
  simp only [execOp, hop, Sem.run_bind, List.map_toArray, List.map_cons, List.map_nil, hx, hy, hr, Result.andThen, Sem.run_pure, Oper.upon]
  exact hK' _ _ h
theorem wpList_storeO (hg : o.guard = none) (t : TypeId) (x y : Operand) (hop : o.op = Op.store t x y) (b off : Nat) (T : TypeId) (c zc c' : Array Value) (hx : a.eval x = .pointer (some ⟨b, off, none⟩)) (hy : a.eval y = .agg zc)
    (hb : w.heap[b]? = some (.cells c T (0, 0))) (hs : ∀ w, (sizeOf t).run P w = .ok zc.size w) (hc : off + zc.size ≤ c.size) (h1 : zc.toList.all Value.oneCell' = true) (hc' : (c.toList.take off ++ zc.toList ++ c.toList.drop (off + zc.size)).toArray = c')
    (h : ∀ w', w'.heap[b]? = some (.cells c' T (0, 0)) → w'.heap.size = w.heap.size → Chg (fun k => k = b) w w' → wpList P ops Q rest (a.put o.dst undef) w') : wpList P ops Q (o :: rest) a w := by
  refine wpList_plain hg fun K' hK' => ?_
  have hst := run_storeCells_at P b off T zc.toList 0 c w hb (by simp; omega) (fun v hv => List.all_eq_true.1 h1 v hv)
  have e : (c.toList.take (off + 0) ++ zc.toList ++ c.toList.drop (off + 0 + zc.toList.length)).toArray = c' := by
    rw [← hc']; simp
  rw [e] at hst
  have hrun : (Instr.storeAt t (.pointer (some ⟨b, off, none⟩)) (.agg zc)).run P w = .ok () (w.setRow b c') := by
    simp [Instr.storeAt, Instr.sureAddr, storeVar, hs, Value.cells, hst]
  unfold Oper.wp
  simp only [execOp, hop, Sem.run_bind, hx, hy, hrun, Result.andThen, Sem.run_pure, Oper.upon]
  exact hK' _ _ (h _ (setRow_heap w b c c' T _ hb) (by simp [World.setRow]) ((Chg.refl (fun k => k = b) w).setRow (fun _ => rfl) _))
end
/-- What is told on of a result. -/
def outF (r : ResR) : Nat → UInt8 := if r.1 = 0 then ofB [r.2] else fun _ => 0
def zeroF : Nat → UInt8 := fun _ => 0
def recV (key : Nat → UInt8) (r : ResR) : Value := .agg (recA key r.1 (outF r))
theorem allocRec (w : World) : (Instr.alloc 67 true (.tuple #[])).run Tryz.prog w = .ok (.pointer (some ⟨w.heap.size, 0, none⟩)) (w.alloc (.cells (recA zeroF 0 zeroF) 67)) := by kernel_rfl
theorem sizeRec (w : World) : (sizeOf 67).run Tryz.prog w = .ok 65 w := by kernel_rfl
theorem buildRec (key : Nat → UInt8) (c : Int) (w : World) : (Instr.build 67 #[(0, .agg (rowB 32 key)), (1, .int .i64 c)]).run Tryz.prog w = .ok (.agg (recA key c zeroF)) w := by kernel_rfl
theorem recA_one (key : Nat → UInt8) (c : Int) (out : Nat → UInt8) : (recA key c out).toList.all Value.oneCell' = true := by
  rw [recA_list, List.all_append, List.all_append, rowB_one, rowB_one]; rfl
theorem recA_put (key : Nat → UInt8) (c : Int) (o1 o2 : Nat → UInt8) : ((recA key c o1).toList.take 33 ++ (rowB 32 o2).toList ++ (recA key c o1).toList.drop (33 + (rowB 32 o2).size)).toArray = recA key c o2 := by
  have h1 : (rowB 32 key).toList.length = 32 := by simp [rowB_size]
  have h2 : (rowB 32 o1).toList.length = 32 := by simp [rowB_size]
  apply Array.toList_inj.1
  rw [rowB_size, recA_list, recA_list]
  generalize (rowB 32 key).toList = K at *
  generalize (rowB 32 o1).toList = O at *
  have e1 : (K ++ ([Value.int .i64 c] ++ O)).take 33 = K ++ [Value.int .i64 c] := by
    rw [← List.append_assoc, List.take_append_of_le_length (by simp; omega), List.take_of_length_le (by simp; omega)]
  have e2 : (K ++ ([Value.int .i64 c] ++ O)).drop (33 + 32) = [] := List.drop_of_length_le (by simp; omega)
  rw [e1, e2]
  simp
set_option maxRecDepth 100000 in
set_option maxHeartbeats 4000000 in
theorem record_any {B : Nat} (key : Nat → UInt8) (r : ResR) (hb : r.2.size ≤ 100000) (w : World) (hT : TabsOK B w) (hB : B ≤ w.heap.size) :
    Calls Tryz.prog 31 #[.agg (rowB 32 key), resW r] w (Rets (recV key r) (Chg (fun _ => False) w)) := by
  obtain ⟨c, b⟩ := r
  have HT := hid hT
  have HBB := hid hB
  clear hT hB
  unfold resW
  simp only at hb ⊢
  by_cases h0 : c = 0
  · subst h0
    go_enter Tryz.func31, Tryz.ntmps31
    go_wp2_with (first | (guard_target =~ wpList _ _ _ (Oper.mk (some 2) _ _ _ _ _ :: _) _ _; refine wpList_box1 rfl 57 _ rfl (rowB 32 key) rfl ?_; intro w1 hk1 hs1 hc1; have HK1 := hid hk1; have HC1 := hid hc1; have HS1 := hid hs1; clear hs1 hk1 hc1) | (guard_target =~ wpList _ _ _ (Oper.mk (some 4) _ _ _ _ _ :: _) _ _; refine wpList_alloc0 rfl 67 rfl (recA zeroF 0 zeroF) (allocRec _) ?_; intro w3 hk3 hs3 hc3; have HK3 : Hid (w3.heap[w1.heap.size + 1]? = some (.cells (recA zeroF 0 zeroF) 67 (0, 0))) := hid (by have h := hk3; rw [show (w1.alloc (.cells #[.int .i64 0, .string b] 47)).heap.size = w1.heap.size + 1 by simp] at h; exact h); have HC3 := hid hc3; have HS3 : Hid (w3.heap.size = w1.heap.size + 1 + 1) := hid (by rw [hs3]; simp); have kR := hc3.obj (heap_alloc_new' w1 (.cells #[.int .i64 0, .string b] 47)) (fun h => h); have HKR := hid kR; have p0 := cell_of kR 0; have p1 := cell_of kR 1; simp at p0 p1; have hk2 := hc3.obj (heap_alloc_old' HK1.out (.cells #[.int .i64 0, .string b] 47)) (fun h => h); have HK2 := hid hk2; have HCW3 : Hid (Chg (fun _ => False) w w3) := hid ((HC1.out.alloc _).trans hc3 (fun _ _ h => h)); clear hs3 hk3 hc3 kR hk2) | (guard_target =~ wpList _ _ _ (Oper.mk (some 6) _ _ _ _ _ :: _) _ _; refine wpList_load0 rfl 57 _ rfl w.heap.size (rowB 32 key) (.array 32 5) rfl HK2.out Tryz.underlying57 rfl (by rw [rowB_size]; kernel_rfl) ?_) | (guard_target =~ wpList _ _ _ (Oper.mk (some 9) _ _ _ _ _ :: _) _ _; refine wpList_build2 rfl 67 0 1 _ _ rfl (.agg (rowB 32 key)) (.int .i64 0) rfl rfl _ (buildRec key 0 _) ?_) | (guard_target =~ wpList _ _ _ (Oper.mk (some 5) _ _ _ _ _ :: _) _ _; refine wpList_alloc0 rfl 67 rfl (recA zeroF 0 zeroF) (allocRec _) ?_; intro w5 hk5 hs5 hc5; have HK5 := hid hk5; have HC5 := hid hc5; have HS5 := hid hs5; clear hs5 hk5 hc5) | (guard_target =~ wpList _ _ _ (Oper.mk none (Op.store _ (Operand.tmp 4) _) _ _ _ _ :: _) _ _; refine wpList_store0 rfl 67 _ _ rfl (w1.heap.size + 1) (recA zeroF 0 zeroF) (recA key 0 (ofB [b])) rfl rfl HK48.out (by rw [recA_size]; exact sizeRec) (by rw [recA_size, recA_size]) (recA_one _ _ _) ?_; intro w9 hk9 hs9 hc9) | (guard_target =~ wpList _ _ _ (Oper.mk none (Op.store _ (Operand.tmp 17) _) _ _ _ _ :: _) _ _; refine wpList_storeO rfl 57 _ _ rfl w3.heap.size 33 67 (recA key 0 zeroF) (rowB 32 (ofB [b])) (recA key 0 (ofB [b])) rfl rfl HK7.out (by rw [rowB_size]; exact size37) (by rw [rowB_size, recA_size]; decide) (rowB_one _ _) (recA_put _ _ _ _) ?_; intro w8 hk8 hs8 hc8; have HK8 := hid hk8; have HC8 := hid hc8; have HK48 := hid (hc8.obj (hc7.obj (heap_alloc_old' HK46.out _) (fun h => h)) (by have := HS3.out; show ¬ (w1.heap.size + 1 = w3.heap.size); omega)); clear hs8 hk8) | (guard_target =~ wpList _ _ _ (Oper.mk none (Op.store _ (Operand.tmp 5) _) _ _ _ _ :: _) _ _; refine wpList_store0 rfl 67 _ _ rfl w3.heap.size (recA zeroF 0 zeroF) (recA key 0 zeroF) rfl rfl HK5.out (by rw [recA_size]; exact sizeRec) (by rw [recA_size, recA_size]) (recA_one _ _ _) ?_; intro w6 hk6 hs6 hc6; have HK6 := hid hk6; have HC6 := hid hc6; clear hs6 hk6; have p0 := hc6.cell (HC5.out.cell p0 (fun h => h)) (by have := HS3.out; show ¬ (w1.heap.size = w3.heap.size); omega); have p1 := hc6.cell (HC5.out.cell p1 (fun h => h)) (by have := HS3.out; show ¬ (w1.heap.size = w3.heap.size); omega); have HK46 := hid (hc6.obj (HC5.out.obj HK3.out (fun h => h)) (by have := HS3.out; show ¬ (w1.heap.size + 1 = w3.heap.size); omega)); have HCW6 : Hid (Chg (fun _ => False) w w6) := hid ((HCW3.out.trans HC5.out (fun _ _ h => h)).trans hc6 (fun i hi h => by have := HCW3.out.size; omega)); clear hc6) | (go_at_call 28; refine (of_one b hb w6 (HT.out.keep HCW6.out) (Nat.le_trans HBB.out HCW6.out.size)).mono ?_; rintro e w7 ⟨rfl, hc7⟩; have HK7 := hid (hc7.obj (heap_alloc_old' HK6.out _) (fun h => h))) | (guard_target =~ wpList _ _ _ (Oper.mk (some 18) _ _ _ _ _ :: _) _ _; refine wpList_load0 rfl 67 _ rfl w3.heap.size (recA key 0 (ofB [b])) (.struct _) rfl HK8.out Tryz.underlying67 rfl (by rw [recA_size]; kernel_rfl) ?_))
    refine bodyPost_ret (v := .agg (recA key 0 (ofB [b]))) ?_ rfl ⟨?_, ?_⟩
    · exact results_row Tryz.results31 _ _ (w1.heap.size + 1) rfl _ (run_loadVar_row _ (w1.heap.size + 1) 67 67 _ (0, 0) (.struct _) hk9 Tryz.underlying67 rfl (by rw [recA_size]; kernel_rfl))
    · have ho : outF (0, b) = (ofB [b]) := if_pos rfl
      unfold recV
      rw [ho]
    · exact (((HCW6.out.alloc _).trans hc7 (fun _ _ h => h)).trans HC8.out (fun i hi h => by have := HCW3.out.size; omega)).trans hc9 (fun i hi h => by have := HS1.out; omega)
  · have hne : (c == 0) = false := by rw [beq_eq_false_iff_ne]; exact h0
    go_enter Tryz.func31, Tryz.ntmps31
    go_wp2_with (first | (guard_target =~ wpList _ _ _ (Oper.mk (some 2) _ _ _ _ _ :: _) _ _; refine wpList_box1 rfl 57 _ rfl (rowB 32 key) rfl ?_; intro w1 hk1 hs1 hc1; have HK1 := hid hk1; have HC1 := hid hc1; have HS1 := hid hs1; clear hs1 hk1 hc1) | (guard_target =~ wpList _ _ _ (Oper.mk (some 4) _ _ _ _ _ :: _) _ _; refine wpList_alloc0 rfl 67 rfl (recA zeroF 0 zeroF) (allocRec _) ?_; intro w3 hk3 hs3 hc3; have HK3 : Hid (w3.heap[w1.heap.size + 1]? = some (.cells (recA zeroF 0 zeroF) 67 (0, 0))) := hid (by have h := hk3; rw [show (w1.alloc (.cells #[.int .i64 c, .string b] 47)).heap.size = w1.heap.size + 1 by simp] at h; exact h); have HC3 := hid hc3; have HS3 : Hid (w3.heap.size = w1.heap.size + 1 + 1) := hid (by rw [hs3]; simp); have kR := hc3.obj (heap_alloc_new' w1 (.cells #[.int .i64 c, .string b] 47)) (fun h => h); have HKR := hid kR; have p0 := cell_of kR 0; have p1 := cell_of kR 1; simp at p0 p1; have hk2 := hc3.obj (heap_alloc_old' HK1.out (.cells #[.int .i64 c, .string b] 47)) (fun h => h); have HK2 := hid hk2; have HCW3 : Hid (Chg (fun _ => False) w w3) := hid ((HC1.out.alloc _).trans hc3 (fun _ _ h => h)); clear hs3 hk3 hc3 kR hk2) | (guard_target =~ wpList _ _ _ (Oper.mk (some 6) _ _ _ _ _ :: _) _ _; refine wpList_load0 rfl 57 _ rfl w.heap.size (rowB 32 key) (.array 32 5) rfl HK2.out Tryz.underlying57 rfl (by rw [rowB_size]; kernel_rfl) ?_) | (guard_target =~ wpList _ _ _ (Oper.mk (some 9) _ _ _ _ _ :: _) _ _; refine wpList_build2 rfl 67 0 1 _ _ rfl (.agg (rowB 32 key)) (.int .i64 c) rfl rfl _ (buildRec key c _) ?_) | (guard_target =~ wpList _ _ _ (Oper.mk (some 5) _ _ _ _ _ :: _) _ _; refine wpList_alloc0 rfl 67 rfl (recA zeroF 0 zeroF) (allocRec _) ?_; intro w5 hk5 hs5 hc5; have HK5 := hid hk5; have HC5 := hid hc5; have HS5 := hid hs5; clear hs5 hk5 hc5) | (guard_target =~ wpList _ _ _ (Oper.mk none (Op.store _ (Operand.tmp 4) _) _ _ _ _ :: _) _ _; refine wpList_store0 rfl 67 _ _ rfl (w1.heap.size + 1) (recA zeroF 0 zeroF) (recA key c zeroF) rfl rfl HK48.out (by rw [recA_size]; exact sizeRec) (by rw [recA_size, recA_size]) (recA_one _ _ _) ?_; intro w9 hk9 hs9 hc9) | (guard_target =~ wpList _ _ _ (Oper.mk none (Op.store _ (Operand.tmp 5) _) _ _ _ _ :: _) _ _; refine wpList_store0 rfl 67 _ _ rfl w3.heap.size (recA zeroF 0 zeroF) (recA key c zeroF) rfl rfl HK5.out (by rw [recA_size]; exact sizeRec) (by rw [recA_size, recA_size]) (recA_one _ _ _) ?_; intro w6 hk6 hs6 hc6; have HK6 := hid hk6; have HC6 := hid hc6; clear hs6 hk6; have p0 := hc6.cell (HC5.out.cell p0 (fun h => h)) (by have := HS3.out; show ¬ (w1.heap.size = w3.heap.size); omega); have p1 := hc6.cell (HC5.out.cell p1 (fun h => h)) (by have := HS3.out; show ¬ (w1.heap.size = w3.heap.size); omega); have HK46 := hid (hc6.obj (HC5.out.obj HK3.out (fun h => h)) (by have := HS3.out; show ¬ (w1.heap.size + 1 = w3.heap.size); omega)); have HCW6 : Hid (Chg (fun _ => False) w w6) := hid ((HCW3.out.trans HC5.out (fun _ _ h => h)).trans hc6 (fun i hi h => by have := HCW3.out.size; omega)); have HK8 := HK6; have HK48 := HK46; clear hc6) | (guard_target =~ wpList _ _ _ (Oper.mk (some 18) _ _ _ _ _ :: _) _ _; refine wpList_load0 rfl 67 _ rfl w3.heap.size (recA key c zeroF) (.struct _) rfl HK8.out Tryz.underlying67 rfl (by rw [recA_size]; kernel_rfl) ?_))
    refine bodyPost_ret (v := .agg (recA key c zeroF)) ?_ rfl ⟨?_, ?_⟩
    · exact results_row Tryz.results31 _ _ (w1.heap.size + 1) rfl _ (run_loadVar_row _ (w1.heap.size + 1) 67 67 _ (0, 0) (.struct _) hk9 Tryz.underlying67 rfl (by rw [recA_size]; kernel_rfl))
    · have ho : outF (c, b) = zeroF := if_neg h0
      unfold recV
      rw [ho]
    · exact HCW6.out.trans hc9 (fun i hi h => by have := HS1.out; omega)
end Go.Proofs.YthglfmacjoecgaaGreatDoor
