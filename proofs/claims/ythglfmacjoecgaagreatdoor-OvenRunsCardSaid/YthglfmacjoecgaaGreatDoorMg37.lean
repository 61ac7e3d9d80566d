/- Texts of the proof, one behind the other: The law MillExact walked; oven.Make walked; What a build with sources is: whether it can be made; how wide what it makes is; its keys. No program in sight; What '==' says of digests, results and records; What comes in: sources, results, digests, records; Rows of the call's own, read; a slice made by its length. -/
import Derived.Test.YthglfmacjoecgaaGreatDoorMg36
import Derived.Test.YthglfmacjoecgaaGreatDoorMg29
import Derived.Test.YthglfmacjoecgaaGreatDoorMg28
import Derived.DeepKeys
import Derived.Laws.OwnMore
namespace Go.Proofs.YthglfmacjoecgaaGreatDoor
open Go.RowKit

theorem rrun_any (code : ByteArray) (hs : code.size ≤ maxLen) (v : Value) (ins : List ByteArray) (w : World) (hin : StrsAt w v ins) :
    Calls Tryz.prog 72 #[.string code, v] w (Rets (.tuple #[.agg #[.int .i64 (runOut hashS code ins).1.1, .string (runOut hashS code ins).1.2], .int .i64 (runOut hashS code ins).2]) (Chg (fun _ => False) w)) := by
  by_cases h1 : 64 < code.size ∨ 4 < ins.length
  · have e : runOut hashS code ins = ((4, .empty), 0) := by unfold runOut; rw [if_pos (h1.elim .inl (fun h => .inr (.inl h)))]
    rw [e]
    exact rrun_long code hs v ins w hin h1
  have h1a : ¬ 64 < code.size := fun h => h1 (.inl h)
  have h1b : ¬ 4 < ins.length := fun h => h1 (.inr h)
  by_cases h2 : ∃ s ∈ ins, 512 < s.size
  · have e : runOut hashS code ins = ((4, .empty), 0) := by unfold runOut; rw [if_pos (.inr (.inr h2))]
    rw [e]
    exact rrun_wide code h1a v ins w hin h1b h2
  · have e : runOut hashS code ins = runR hashS code ins 300 0 0 [] := by
      unfold runOut
      rw [if_neg]
      rintro (h | h | h)
      · exact h1a h
      · exact h1b h
      · exact h2 h
    have hall : ∀ x ∈ ins, x.size ≤ 512 := fun x hx => Nat.le_of_not_lt fun h => h2 ⟨x, hx, h⟩
    rw [e]
    obtain ⟨oa, cap, rfl⟩ : ∃ oa cap, v = .slice oa ins.length cap := by
      rcases hin.1 with ⟨rfl, rfl⟩ | ⟨a, cap, rfl, _⟩
      · exact ⟨none, 0, rfl⟩
      · exact ⟨some a, cap, rfl⟩
    exact rrun_good code h1a oa cap ins w hin h1b hall

end Go.Proofs.YthglfmacjoecgaaGreatDoor
namespace Go.Proofs.YthglfmacjoecgaaGreatDoor
open Go.RowKit

/-- What an action comes to. -/
def makeF (code : ByteArray) (rs : List ResR) : ResR := if ∃ r ∈ rs, r.1 ≠ 0 then (34, ByteArray.empty) else (((runOut hashS code (rs.map Prod.snd)).1.1 : Int), (runOut hashS code (rs.map Prod.snd)).1.2)
def resW (r : ResR) : Value := .agg #[.int .i64 r.1, .string r.2]
theorem run_h {B : Nat} (code : ByteArray) (hs : code.size ≤ maxLen) (v : Value) (ins : List ByteArray) (w : World) (hin : StrsAt w v ins) (hT : TabsOK B w) (hB : B ≤ w.heap.size) :
    Calls Tryz.prog 25 #[.string code, v] w (Rets (.tuple #[resV (runOut hashS code ins).1.1 (runOut hashS code ins).1.2, .int .i64 (runOut hashS code ins).2]) (Chg (fun _ => False) w)) :=
  run_any hashS code hs v ins w hin (hT.mono hB) (.inr step_h)
theorem strs_own {w : World} {v : Value} {l : List ByteArray} {n : Nat} (h : w.ownsRow 0 9 1 v n (l.map Value.string)) (hn : n = l.length) (h1 : l.length ≤ 1000) (h2 : ∀ s ∈ l, s.size ≤ 100000) : StrsAt w v l := by
  subst hn
  have e : l.map Value.string = (l.map bl).map nmV := by
    rw [List.map_map]
    exact List.map_congr_left (fun s _ => by show Value.string s = Value.string (bs (bl s)); rw [bs_bl])
  rw [e, ← List.length_map (f := bl)] at h
  have h3 := NamesAt.of_owns h (by simp; unfold maxLen; omega) (fun s hs => by
    obtain ⟨x, hx, rfl⟩ := List.mem_map.1 hs
    have := h2 x hx
    rw [bl_len]; unfold maxLen; omega)
  have e2 : (l.map bl).map bs = l := by
    rw [List.map_map]
    calc l.map (bs ∘ bl) = l.map id := List.map_congr_left (fun s _ => bs_bl s)
      _ = l := List.map_id l
  unfold NamesAt at h3
  rwa [e2] at h3

set_option maxRecDepth 100000 in
set_option maxHeartbeats 4000000 in
theorem make_any {B : Nat} (code : ByteArray) (hc : code.size ≤ 1000) (rs : List ResR) (hn : rs.length ≤ 32) (hb : ∀ r ∈ rs, r.2.size ≤ 100000) (v : Value) (w : World) (hin : ResAt w v rs) (hT : TabsOK B w) (hB : B ≤ w.heap.size) :
    Calls Tryz.prog 30 #[.string code, v] w (Rets (resW (makeF code rs)) (Chg (fun _ => False) w)) := by
  have hlen := hin.len
  have HIN := hid hin
  have HT := hid hT
  have HBB := hid hB
  have HBZ := hid hb
  have ha1 := heap_alloc_new' w (.cells #[.int .i64 0, .string { data := #[] }] 47)
  have hc1 := al_chg w (.cells #[.int .i64 0, .string { data := #[] }] 47)
  have hs1 : (w.alloc (.cells #[.int .i64 0, .string { data := #[] }] 47)).heap.size = w.heap.size + 1 := by simp
  have HA1 := hid ha1
  have HC1 := hid hc1
  have HS1 := hid hs1
  clear hin hT hB hb ha1 hc1 hs1
  go_enter Tryz.func30, Tryz.ntmps30
  go_wp2_with fail
  generalize w.alloc (.cells #[.int .i64 0, .string { data := #[] }] 47) = w1 at *
  obtain ⟨d0, hd0⟩ : ∃ d0, d0 = w.heap.size := ⟨_, rfl⟩
  have HD0 := hid hd0
  rw [← hd0] at HA1 HS1 ⊢
  clear hd0
  go_loopw [5, 12] (fun v5 i wr => ∃ (k : Nat) (x : Value), x = v5 ∧ k ≤ rs.length ∧ i = .int .i64 k ∧ wr.ownsRow 0 9 1 x k (((rs.take k).map Prod.snd).map Value.string) ∧ (∀ q, x.ownBlock = some q → d0 + 1 ≤ q) ∧ Chg (fun _ => False) w1 wr ∧ ∀ r ∈ rs.take k, r.1 = 0) (fun _ i _ => rs.length - (intOf i).toNat)
  case atStart => exact ⟨0, _, rfl, Nat.zero_le _, rfl, World.ownsRow_nil _ _ _ _, (fun q h => by cases h), Chg.refl _ _, by simp⟩
  case round =>
    obtain ⟨k, x5, hx5, hk, rfl, hown, hbl, hch, hz⟩ := hrel
    subst hx5
    have HOWN := hid hown
    have HBL := hid hbl
    have HCH := hid hch
    have HZ := hid hz
    clear hown hbl hch hz
    by_cases hkn : k < rs.length
    · have hkn' : (k : Int) < rs.length := by omega
      have hcw : Chg (fun _ => False) w wr := HC1.out.trans HCH.out (fun _ _ h => h)
      obtain ⟨bb, oo, hix, e0, e1, hlt⟩ := (HIN.out.chg hcw (fun _ _ h => h)).ix k hkn
      have HTK : Hid (((rs.take (k + 1)).map Prod.snd).map Value.string = ((rs.take k).map Prod.snd).map Value.string ++ [.string rs[k].2]) := hid (by rw [List.take_succ_eq_append_getElem hkn, List.map_append, List.map_append]; rfl)
      have HTM : Hid (∀ r ∈ rs.take (k + 1), r ∈ rs.take k ∨ r = rs[k]) := hid (fun r hr => by
        rw [List.take_succ_eq_append_getElem hkn, List.mem_append] at hr
        rcases hr with h | h
        · exact .inl h
        · exact .inr (List.mem_singleton.1 h))
      have HME := hid (List.getElem_mem hkn)
      have HSZ : Hid (d0 + 1 ≤ wr.heap.size) := hid (by have := HCH.out.size; have := HS1.out; omega)
      have hcz : ∃ cd, cd = rs[k].1 := ⟨_, rfl⟩
      obtain ⟨cd, hcd⟩ := hcz
      have HCD := hid hcd
      rw [← hcd] at e0
      clear hcd hcw
      obtain ⟨b2, hb2⟩ : ∃ b2, b2 = rs[k].2 := ⟨_, rfl⟩
      rw [← hb2] at e1 HTK
      clear hb2
      have hkd := heap_alloc_old' (HCH.out.obj HA1.out (fun h => h)) (.cells #[.int .i64 cd, .string b2] 47)
      have q0 := cell_of hkd 0
      have q1 := cell_of hkd 1
      have f0 := frozen_of hkd 0
      have f1 := frozen_of hkd 1
      simp at q0 q1
      have XS := hid (res_stored hkd (.int .i64 34) (.string { data := #[] }))
      have hdn : ¬ d0 = wr.heap.size := by have := HSZ.out; omega
      have hdn2 : ¬ wr.heap.size = d0 := by have := HSZ.out; omega
      clear hkd
      by_cases h0 : cd = 0
      · subst h0
        go_wp2_with (guard_target =~ wpList _ _ _ (Oper.mk (some 24) _ _ _ _ _ :: _) _ _; refine wpList_append_new rfl _ _ 22 rfl elStr (HOWN.out.alloc (.cells #[.int .i64 0, .string b2] 47)) rfl #[.string b2] 1 1 (by exact congrArg (fun k : Nat => Value.slice (some ⟨k, 0, none⟩) 1 1) (show _ = _ by simp)) rfl rfl (by unfold maxLen; omega) (by omega) (by decide) ?_; intro g6 cap6 w6 hown6 hch6 hg6)
        go_roundw
        case rel =>
          refine ⟨k + 1, _, rfl, by omega, by go_num, ?_, fun q hq => ?_, (HCH.out.alloc _).trans hch6 (fun q hq h => absurd (HBL.out q h) (by have := HS1.out; omega)), fun r hr => ?_⟩
          · rw [HTK.out]
            exact hown6
          · simp [Value.ownBlock] at hq
            subst hq
            rcases hg6 with h | h
            · exact HBL.out _ h
            · have := HSZ.out
              simp at h
              omega
          · rcases HTM.out r hr with h | h
            · exact HZ.out r h
            · rw [h]; exact HCD.out.symm
        case measure => simp [intOf]; omega
      · have hne : (cd == 0) = false := by rw [beq_eq_false_iff_ne]; exact h0
        have HM : Hid (makeF code rs = (34, ByteArray.empty)) := hid (by
          unfold makeF
          rw [if_pos ⟨rs[k], HME.out, by rw [← HCD.out]; exact h0⟩])
        go_wp2_with fail
        refine bodyPost_ret (v := resW (34, ByteArray.empty)) (by simp [results, Tryz.results30, go_sem, XS.out.1, XS.out.2.1]; rfl) rfl ⟨by rw [HM.out], ?_⟩
        have hcw : Chg (fun _ => False) w (wr.alloc (.cells #[.int .i64 cd, .string b2] 47)) := (HC1.out.trans HCH.out (fun _ _ h => h)).alloc _
        have := res_chg hcw (.int .i64 34) (.string { data := #[] })
        rw [← HD0.out] at this
        exact this
    · obtain rfl : k = rs.length := by omega
      have hown := HOWN.out
      rw [List.take_length] at hown
      have hz := HZ.out
      rw [List.take_length] at hz
      have hstr : StrsAt wr x5 (rs.map Prod.snd) := strs_own hown (by simp) (by simp; omega) (fun s hs => by
        obtain ⟨r, hr, rfl⟩ := List.mem_map.1 hs
        exact HBZ.out r hr)
      have hcw : Chg (fun _ => False) w wr := HC1.out.trans HCH.out (fun _ _ h => h)
      have hrun := run_h code (by unfold maxLen; omega) x5 (rs.map Prod.snd) wr hstr (HT.out.keep hcw) (Nat.le_trans HBB.out hcw.size)
      have hM : makeF code rs = (((runOut hashS code (rs.map Prod.snd)).1.1 : Int), (runOut hashS code (rs.map Prod.snd)).1.2) := by
        unfold makeF
        rw [if_neg (fun ⟨r, hr, h⟩ => h (hz r hr))]
      have HM := hid hM
      have HRUN := hid hrun
      clear hown hz hstr hcw hrun hM
      generalize (runOut hashS code (rs.map Prod.snd)).1.1 = c9 at *
      generalize (runOut hashS code (rs.map Prod.snd)).1.2 = b9 at *
      generalize (runOut hashS code (rs.map Prod.snd)).2 = n9 at *
      unfold resV at HRUN
      go_wp2_with (go_at_call 25; refine HRUN.out.mono ?_; rintro e w9 ⟨rfl, hc9⟩; have hkd := heap_alloc_old' ((HCH.out.trans hc9 (fun _ _ h => h)).obj HA1.out (fun h => h)) (.cells #[.int .i64 (c9 : Int), .string b9] 47); have q0 := cell_of hkd 0; have q1 := cell_of hkd 1; have f0 := frozen_of hkd 0; have f1 := frozen_of hkd 1; simp at q0 q1; have XS := hid (res_stored hkd (.int .i64 (c9 : Int)) (.string b9)); have hdn : ¬ d0 = w9.heap.size := (by have := HCH.out.size; have := HS1.out; have := hc9.size; omega); have hdn2 : ¬ w9.heap.size = d0 := (fun e => hdn e.symm); clear hkd)
      refine bodyPost_ret (v := resW ((c9 : Int), b9)) (by simp [results, Tryz.results30, go_sem, XS.out.1, XS.out.2.1]; rfl) rfl ⟨by rw [HM.out], ?_⟩
      have hcw : Chg (fun _ => False) w (w9.alloc (.cells #[.int .i64 (c9 : Int), .string b9] 47)) := ((HC1.out.trans HCH.out (fun _ _ h => h)).trans hc9 (fun _ _ h => h)).alloc _
      have := res_chg hcw (.int .i64 (c9 : Int)) (.string b9)
      rw [← HD0.out] at this
      exact this
end Go.Proofs.YthglfmacjoecgaaGreatDoor
namespace Go.Proofs.YthglfmacjoecgaaGreatDoor
open Go.RowKit

theorem endR_ok {l : List ByteArray} (h : ∀ x ∈ l, x.size ≤ 512) : (endR l).2.size ≤ 512 ∧ (endR l).1 ≤ 33 := by
  unfold endR
  split
  · exact ⟨Nat.zero_le _, by decide⟩
  · rename_i b hb
    exact ⟨h b (List.mem_of_getLast? hb), Nat.zero_le _⟩
theorem runR_ok (H : ByteArray → ByteArray) (code : ByteArray) (ins : List ByteArray) (hc : code.size ≤ 64) : ∀ (f at_ n : Nat) (l : List ByteArray), l.length ≤ 8 → (∀ x ∈ l, x.size ≤ 512) →
    (runR H code ins f at_ n l).1.2.size ≤ 512 ∧ (runR H code ins f at_ n l).1.1 ≤ 33
  | 0, at_, n, l, h1, h2 => by
    unfold runR
    split
    · exact endR_ok h2
    split
    · exact ⟨Nat.zero_le _, (by decide : 32 ≤ 33)⟩
    · exact ⟨Nat.zero_le _, (by decide : 30 ≤ 33)⟩
  | f + 1, at_, n, l, h1, h2 => by
    by_cases he : at_ = code.size
    · rw [runR_end _ _ he]
      exact endR_ok h2
    by_cases ho : code.size < at_ ∨ widN code at_ = 0
    · rw [runR_op _ _ he ho]
      exact ⟨Nat.zero_le _, (by decide : 32 ≤ 33)⟩
    · rw [runR_step f n he ho rfl rfl]
      have hat : at_ < code.size := by omega
      have hs : at_ + (code.extract at_ (at_ + widN code at_)).size ≤ 1000 := by simp; omega
      have hok := stepR_ok H ins (byteN code at_) (numN (code.extract at_ (at_ + widN code at_))) (code.extract at_ (at_ + widN code at_)) at_ l h1 h2 hs (by have := numN_lt (code.extract at_ (at_ + widN code at_)); omega)
      have hcd := stepR_code H ins (byteN code at_) (numN (code.extract at_ (at_ + widN code at_))) (code.extract at_ (at_ + widN code at_)) at_ l
      split
      · exact runR_ok H code ins hc f _ _ _ hok.1 hok.2.1
      · exact ⟨Nat.zero_le _, hcd⟩
theorem runOut_ok (H : ByteArray → ByteArray) (code : ByteArray) (ins : List ByteArray) : (runOut H code ins).1.2.size ≤ 512 ∧ (runOut H code ins).1.1 ≤ 33 := by
  unfold runOut
  split
  · exact ⟨Nat.zero_le _, (by decide : 4 ≤ 33)⟩
  · rename_i h
    exact runR_ok H code ins (by omega) _ _ _ _ (by simp) (by simp)
/-- A result as a build's are. -/
structure Small (r : ResR) : Prop where
  lo : 0 ≤ r.1
  hi : r.1 ≤ 34
  wide : r.2.size ≤ 512
theorem small_no : Small noRes := ⟨by decide, by decide, Nat.zero_le _⟩
theorem makeF_small (code : ByteArray) (rs : List ResR) : Small (makeF code rs) := by
  unfold makeF
  split
  · exact ⟨by decide, by decide, Nat.zero_le _⟩
  · have := runOut_ok hashS code (rs.map Prod.snd)
    exact ⟨by simp, by show ((runOut hashS code (rs.map Prod.snd)).1.1 : Int) ≤ 34; omega, this.1⟩
/-- 34 says that an input failed, and nothing else does. -/
theorem makeF_dep (code : ByteArray) (rs : List ResR) : (makeF code rs).1 = 34 ↔ ∃ r ∈ rs, r.1 ≠ 0 := by
  unfold makeF
  split
  · rename_i h; exact ⟨fun _ => h, fun _ => rfl⟩
  · rename_i h
    have := runOut_ok hashS code (rs.map Prod.snd)
    exact ⟨fun e => absurd e (by show ¬ ((runOut hashS code (rs.map Prod.snd)).1.1 : Int) = 34; omega), fun h2 => absurd h2 h⟩

theorem mem_of_lval {κ ν : Type} [DecidableEq κ] {k : κ} {x : ν} {l : List (κ × ν)} (h : lval k l = some x) : (k, x) ∈ l := by
  unfold lval at h
  cases hf : lfind k l 0 with
  | none => rw [hf] at h; cases h
  | some p =>
    obtain ⟨j, y⟩ := p
    rw [hf] at h
    simp only [Option.map_some, Option.some.injEq] at h
    subst h
    exact List.mem_of_getElem? (lfind_bound hf).2.2
def FF (c : List UInt8) (rs : List ResR) : ResR := makeF (bs c) rs
theorem foldT_small (g : GrR) (srcs : List SrcR) (hs : ∀ s ∈ srcs, s.2.size ≤ 512) (hn : (srcs.map Prod.fst).Nodup) : ∀ (n : Nat) (l : List Nat), l.length = n → ∀ s, Small (valT (foldT FF g srcs l) s)
  | 0, l, hl, s => by
    rw [List.length_eq_zero_iff.1 hl]
    show Small (valT (srcT srcs) s)
    unfold valT
    cases h : lval s (srcT srcs) with
    | none => exact small_no
    | some r =>
      rw [srcT_eq hn] at h
      obtain ⟨x, hx, e⟩ := List.mem_map.1 (mem_of_lval h)
      simp only [Prod.mk.injEq] at e
      obtain ⟨_, e⟩ := e
      subst e
      exact ⟨(by decide : (0 : Int) ≤ 0), (by decide : (0 : Int) ≤ 34), hs x hx⟩
  | n + 1, l, hl, s => by
    obtain ⟨l', k, rfl⟩ : ∃ l' k, l = l' ++ [k] := by
      rcases List.eq_nil_or_concat l with h | ⟨l', k, h⟩
      · rw [h] at hl; cases hl
      · exact ⟨l', k, by rw [h]; simp⟩
    unfold valT
    rw [foldT_snoc, stepT_val]
    split
    · exact makeF_small _ _
    · exact foldT_small g srcs hs hn n l' (by simpa using hl) s

theorem nodup_le {α : Type} : ∀ (a b : List α), a.Nodup → (∀ x ∈ a, x ∈ b) → a.length ≤ b.length
  | [], _, _, _ => Nat.zero_le _
  | y :: a, b, hn, hs => by
    rw [List.nodup_cons] at hn
    obtain ⟨l1, l2, rfl⟩ := List.append_of_mem (hs y (by simp))
    have := nodup_le a (l1 ++ l2) hn.2 (fun z hz => by
      have := hs z (by simp [hz])
      simp only [List.mem_append, List.mem_cons] at this ⊢
      rcases this with h1 | rfl | h1
      · exact .inl h1
      · exact absurd hz hn.1
      · exact .inr h1)
    simp at this ⊢
    omega
theorem sub_full {α : Type} : ∀ (a b : List α), a.Nodup → (∀ x ∈ a, x ∈ b) → b.length ≤ a.length → ∀ x ∈ b, x ∈ a
  | [], b, _, _, h, x, hx => by
    have : b = [] := List.length_eq_zero_iff.1 (by simpa using h)
    rw [this] at hx; exact hx
  | y :: a, b, hn, hs, h, x, hx => by
    rw [List.nodup_cons] at hn
    obtain ⟨l1, l2, rfl⟩ := List.append_of_mem (hs y (by simp))
    by_cases e : x = y
    · simp [e]
    · refine List.mem_cons_of_mem _ (sub_full a (l1 ++ l2) hn.2 (fun z hz => ?_) (by simp at h ⊢; omega) x ?_)
      · have := hs z (by simp [hz])
        simp only [List.mem_append, List.mem_cons] at this ⊢
        rcases this with h1 | rfl | h1
        · exact .inl h1
        · exact absurd hz hn.1
        · exact .inr h1
      · simp only [List.mem_append, List.mem_cons] at hx ⊢
        rcases hx with h1 | h1 | h1
        · exact .inl h1
        · exact absurd h1 e
        · exact .inr h1

/-- What is said of a build with sources: 0, it can be made. -/
def checkS (g : GrR) (srcs : List SrcR) : Nat :=
  if checkR g ≠ 0 then checkR g else if ¬ (srcs.map Prod.fst).Nodup then 21 else if ∃ s ∈ g.srcs, s ∉ srcs.map Prod.fst then 22 else if srcs.length ≠ g.srcs.length then 22 else if ∃ s ∈ srcs, 512 < s.2.size then 33 else 0
/-- A build with sources that can be made. -/
structure Done (g : GrR) (srcs : List SrcR) : Prop where
  can : Can g
  fit : Fit g srcs
  wide : ∀ s ∈ srcs, s.2.size ≤ 512
theorem Wov.srcsNd {g : GrR} (h : Wov g) : g.srcs.Nodup := (List.nodup_append.1 h.nd).1
theorem checkS_zero {g : GrR} {srcs : List SrcR} : checkS g srcs = 0 ↔ Done g srcs := by
  unfold checkS
  constructor
  · intro h
    split at h
    · rename_i h1; exact absurd h h1
    rename_i h1
    split at h
    · cases h
    rename_i h2
    split at h
    · cases h
    rename_i h3
    split at h
    · cases h
    rename_i h4
    split at h
    · cases h
    rename_i h5
    have hc := can_iff.1 (Decidable.not_not.1 h1)
    have hm : ∀ s ∈ g.srcs, s ∈ srcs.map Prod.fst := fun s hs => Decidable.not_not.1 (fun hn => h3 ⟨s, hs, hn⟩)
    exact ⟨hc, ⟨Decidable.not_not.1 h2, fun s => ⟨fun hs => sub_full _ _ hc.w.srcsNd hm (by simp; omega) s hs, hm s⟩⟩, fun s hs => Nat.le_of_not_lt (fun hl => h5 ⟨s, hs, hl⟩)⟩
  · intro h
    rw [if_neg (by rw [can_iff.2 h.can]; simp), if_neg (by simpa using h.fit.nd), if_neg (fun ⟨s, hs, hn⟩ => hn ((h.fit.mem s).2 hs)), if_neg, if_neg (fun ⟨s, hs, hl⟩ => by have := h.wide s hs; omega)]
    have h1 : srcs.length ≤ g.srcs.length := by
      have := nodup_le _ _ h.fit.nd (fun s hs => (h.fit.mem s).1 hs)
      simpa using this
    have h2 : g.srcs.length ≤ srcs.length := by
      have := nodup_le _ _ h.can.w.srcsNd (fun s hs => (h.fit.mem s).2 hs)
      simpa using this
    omega

/-- An action's key, of what is there. -/
def keyK (g : GrR) (t : List (Nm × ResR)) (i : Nat) : Nat → UInt8 := if (FF (codeAt g i) (insT2 g t i)).1 = 34 then (fun _ => 0) else keyF (bs (codeAt g i)) (insT2 g t i)
/-- The keys, when these places have been made. -/
def keysT (g : GrR) (t : List (Nm × ResR)) (l : List Nat) (i : Nat) : Nat → UInt8 := if i ∈ l then keyK g t i else fun _ => 0
/-- What an action is made of is what is there in the end. -/
theorem ins_then {g : GrR} (hw : Wov g) (srcs : List SrcR) {l m : List Nat} {i : Nat} (h : orderR g = l ++ i :: m) : insT2 g (madeT FF g srcs) i = insT2 g (foldT FF g srcs l) i := by
  have ho := orderR_ordd g
  rw [h] at ho
  have ho2 : Ordd g ((l ++ [i]) ++ m) := by simpa using ho
  have hk : ∀ s ∈ insAt g i, s ∈ g.srcs ∨ ∃ j ∈ l, nameAt g j = s := by
    intro s hs
    rcases ho.sup l.length (by simp) s (by rw [List.getElem_append_right (Nat.le_refl _)]; simpa using hs) with h1 | ⟨j, hj, h1⟩
    · exact .inl h1
    · exact .inr ⟨l[j], List.getElem_mem hj, by rw [List.getElem_append_left hj] at h1; exact h1⟩
  unfold insT2
  refine List.map_congr_left (fun s hs => ?_)
  unfold valT madeT
  rw [h, foldl_keep hw ho srcs (hk s hs)]
end Go.Proofs.YthglfmacjoecgaaGreatDoor
namespace Go.Proofs.YthglfmacjoecgaaGreatDoor
open Go.RowKit

theorem mapM_all {α β : Type} (g : α → Option β) (h : α → β) : ∀ l : List α, (∀ x ∈ l, g x = some (h x)) → l.mapM g = some (l.map h)
  | [], _ => rfl
  | x :: l, hx => by
    simp [hx x (by simp), mapM_all g h l (fun y hy => hx y (by simp [hy]))]
theorem flat_ones {α β : Type} (h : α → β) : ∀ l : List α, (l.map fun x => [h x]).flatten = l.map h
  | [] => rfl
  | x :: l => by simp [flat_ones h l]
theorem lit_u8 (b : UInt8) : (Lit.int .u8 ((b.toNat : Nat) : Int)).wf = true := by
  have : ∀ n : Fin 256, (Lit.int .u8 ((n.1 : Nat) : Int)).wf = true := by decide +kernel
  exact this ⟨b.toNat, b.toNat_lt⟩
theorem keyLits_array {P : Program} {d : Nat} {t e : TypeId} {n : Nat} {cs : List Value} (hu : P.underlying t = some (.array n e)) :
    P.keyLits (d + 1) t cs = if cs.length = P.cellsOf t then ((List.range n).mapM fun i => P.keyLits d e ((cs.drop (i * P.cellsOf e)).take (P.cellsOf e))).map List.flatten else none := by
  simp only [Program.keyLits]
  rw [hu]
theorem keyLits_int {P : Program} {d : Nat} {t : TypeId} {q : IntKind} {n : Int} (hu : P.underlying t = some (.int q)) (hw : (Lit.int q n).wf = true) : P.keyLits (d + 1) t [.int q n] = some [.int q n] := by
  simp only [Program.keyLits]
  rw [hu]
  simp [hw]
/-- A digest's letters. -/
def digLits (f : Nat → UInt8) : List Lit := (List.range 32).map fun i => Lit.int .u8 (((f i).toNat : Nat) : Int)
theorem rowB_slice (f : Nat → UInt8) (i : Nat) (h : i < 32) : ((rowB 32 f).toList.drop (i * 1)).take 1 = [Value.int .u8 (((f i).toNat : Nat) : Int)] := by
  rw [Nat.mul_one, List.drop_eq_getElem_cons (by simp [rowB]; exact h)]
  simp [rowB]
theorem lits_dig (f : Nat → UInt8) : Tryz.prog.keyLits 2 57 (rowB 32 f).toList = some (digLits f) := by
  have hu : Tryz.prog.underlying 57 = some (.array 32 5) := Tryz.underlying57
  have hc : Tryz.prog.cellsOf 57 = 32 := by kernel_rfl
  have h8 : Tryz.prog.underlying 5 = some (.int .u8) := Tryz.underlying5
  have hc8 : Tryz.prog.cellsOf 5 = 1 := by kernel_rfl
  rw [keyLits_array hu, hc, hc8, if_pos (by simp [rowB_size])]
  rw [mapM_all _ (fun i => [Lit.int .u8 (((f i).toNat : Nat) : Int)]) (List.range 32) (fun i hi => by
    rw [rowB_slice f i (List.mem_range.1 hi)]
    exact keyLits_int h8 (lit_u8 _))]
  show some _ = some _
  rw [digLits, flat_ones]
theorem digLits_inj {f g : Nat → UInt8} : digLits f = digLits g ↔ ∀ i, i < 32 → f i = g i := by
  unfold digLits
  constructor
  · intro h i hi
    have h2 := List.map_inj_left.1 h i (List.mem_range.2 hi)
    simp only [Lit.int.injEq, true_and] at h2
    exact UInt8.toNat_inj.1 (by omega)
  · intro h
    refine List.map_congr_left (fun i hi => ?_)
    rw [h i (List.mem_range.1 hi)]
/-- '==' of two digests. -/
theorem eq_dig (f g : Nat → UInt8) (w : World) : ∃ r : Bool, (binOp .eql 57 (.agg (rowB 32 f)) (.agg (rowB 32 g))).run Tryz.prog w = .ok (.bool r) w ∧ (r = true ↔ ∀ i, i < 32 → f i = g i) := by
  have hf : ∀ h : Nat → UInt8, (Value.agg (rowB 32 h)).formed Tryz.prog 57 = true := fun h => by kernel_rfl
  obtain ⟨r, h1, h2⟩ := run_equalIn_deep (P := Tryz.prog) 9998 2 57 (by kernel_rfl) w 2 2 (.agg (rowB 32 f)) (.agg (rowB 32 g)) _ _ (hf f) (hf g) (lits_dig f) (lits_dig g)
  exact ⟨r, by rw [run_eql_struct, h1]; rfl, h2.trans digLits_inj⟩
/-- A record's cells. -/
def recA (key : Nat → UInt8) (code : Int) (out : Nat → UInt8) : Array Value := rowB 32 key ++ #[.int .i64 code] ++ rowB 32 out
theorem recA_size (key : Nat → UInt8) (code : Int) (out : Nat → UInt8) : (recA key code out).size = 65 := by simp [recA, rowB_size]
theorem recA_list (key : Nat → UInt8) (code : Int) (out : Nat → UInt8) : (recA key code out).toList = (rowB 32 key).toList ++ ([.int .i64 code] ++ (rowB 32 out).toList) := by simp [recA]
theorem keyLits_struct {P : Program} {d : Nat} {t : TypeId} {fs : Array Field} {cs : List Value} (hu : P.underlying t = some (.struct fs)) :
    P.keyLits (d + 1) t cs = if cs.length = P.cellsOf t ∧ fs.all (·.name != "_") = true then (fs.toList.mapM fun f => P.keyLits d f.type ((cs.drop f.offset).take (P.cellsOf f.type))).map List.flatten else none := by
  simp only [Program.keyLits]
  rw [hu]
theorem lits_rec (key : Nat → UInt8) (code : Int) (hc : (Lit.int .i64 code).wf = true) (out : Nat → UInt8) : Tryz.prog.keyLits 3 67 (recA key code out).toList = some (digLits key ++ ([Lit.int .i64 code] ++ digLits out)) := by
  have hcr : Tryz.prog.cellsOf 67 = 65 := by kernel_rfl
  have hcd : Tryz.prog.cellsOf 57 = 32 := by kernel_rfl
  have hce : Tryz.prog.cellsOf 30 = 1 := by kernel_rfl
  have hl : (rowB 32 key).toList.length = 32 := by simp [rowB_size]
  have hl2 : (rowB 32 out).toList.length = 32 := by simp [rowB_size]
  rw [keyLits_struct Tryz.underlying67, hcr, if_pos ⟨by simp [recA_size], by kernel_rfl⟩, recA_list]
  generalize hk : (rowB 32 key).toList = K at *
  generalize ho : (rowB 32 out).toList = O at *
  have e0 : ((K ++ ([Value.int .i64 code] ++ O)).drop 0).take 32 = K := by rw [List.drop_zero, List.take_append_of_le_length (by omega), List.take_of_length_le (by omega)]
  have e1 : ((K ++ ([Value.int .i64 code] ++ O)).drop 32).take 1 = [Value.int .i64 code] := by rw [List.drop_append_of_le_length (by omega), List.drop_of_length_le (by omega)]; simp
  have e2 : ((K ++ ([Value.int .i64 code] ++ O)).drop 33).take 32 = O := by
    rw [List.drop_append, List.drop_of_length_le (by omega), hl]
    show O.take 32 = O
    exact List.take_of_length_le (by omega)
  simp only [List.mapM_cons, List.mapM_nil, hcd, hce, e0, e1, e2]
  rw [← hk, ← ho, lits_dig, lits_dig, keyLits_int (q := .i64) Tryz.underlying30 hc]
  simp
/-- '==' of two records. -/
theorem eq_rec (k1 k2 : Nat → UInt8) (c1 c2 : Int) (h1 : (Lit.int .i64 c1).wf = true) (h2 : (Lit.int .i64 c2).wf = true) (o1 o2 : Nat → UInt8) (w : World) :
    ∃ r : Bool, (binOp .eql 67 (.agg (recA k1 c1 o1)) (.agg (recA k2 c2 o2))).run Tryz.prog w = .ok (.bool r) w ∧ (r = true ↔ (∀ i, i < 32 → k1 i = k2 i) ∧ c1 = c2 ∧ ∀ i, i < 32 → o1 i = o2 i) := by
  have hf : ∀ (k : Nat → UInt8) (c : Int) (o : Nat → UInt8), (Value.agg (recA k c o)).formed Tryz.prog 67 = true := fun k c o => by kernel_rfl
  obtain ⟨r, e1, e2⟩ := run_equalIn_deep (P := Tryz.prog) 9997 3 67 (by kernel_rfl) w 3 3 (.agg (recA k1 c1 o1)) (.agg (recA k2 c2 o2)) _ _ (hf _ _ _) (hf _ _ _) (lits_rec k1 c1 h1 o1) (lits_rec k2 c2 h2 o2)
  refine ⟨r, by rw [run_eql_struct, e1]; rfl, e2.trans ?_⟩
  have hl : ∀ f, (digLits f).length = 32 := fun f => by simp [digLits]
  constructor
  · intro h
    obtain ⟨a, b⟩ := List.append_inj h (by rw [hl, hl])
    obtain ⟨c, d⟩ := List.append_inj b rfl
    simp only [List.cons.injEq, Lit.int.injEq, true_and, and_true] at c
    exact ⟨digLits_inj.1 a, c, digLits_inj.1 d⟩
  · rintro ⟨a, rfl, d⟩
    rw [digLits_inj.2 a, digLits_inj.2 d]
end Go.Proofs.YthglfmacjoecgaaGreatDoor
namespace Go.Proofs.YthglfmacjoecgaaGreatDoor
open Go.ChangeShapes Go.WideShapes Go.ChangeAt Go.RowKit

def noSrc : SrcR := ([], ByteArray.empty)
def srcL (s : SrcR) : List Value := [.string (bs s.1), .string s.2]
/-- v is a slice of the sources ss. -/
structure SrcsAt (w : World) (v : Value) (ss : List SrcR) : Prop where
  rows : RowsAt w v 2 ss.length (fun i => srcL (ss.getD i noSrc))
  wide : ∀ s ∈ ss, s.1.length ≤ maxLen ∧ s.2.size ≤ maxLen
theorem SrcsAt.chg {F : Nat → Prop} {w w' : World} {v : Value} {ss : List SrcR} (h : SrcsAt w v ss) (hc : Chg F w w') (hF : ∀ k, k < w.heap.size → ¬ F k) : SrcsAt w' v ss := ⟨h.rows.chg hc hF, h.wide⟩
theorem SrcsAt.len {w0 : World} {v : Value} {ss : List SrcR} (h : SrcsAt w0 v ss) (w : World) (ty : TypeId) : (Builtin.len_ #[26] ty #[v]).run Tryz.prog w = .ok (.int .i64 ss.length) w :=
  RowsAt.len (P := Tryz.prog) h.rows Tryz.underlying26 w ty
theorem SrcsAt.ix {w : World} {v : Value} {ss : List SrcR} (h : SrcsAt w v ss) (k : Nat) (hk : k < ss.length) :
    ∃ bb oo, (∀ w, (Instr.indexAt 26 v (.int .i64 k)).run Tryz.prog w = .ok (.pointer (some ⟨bb, oo, none⟩)) w) ∧ w.cell? ⟨bb, oo, none⟩ = some (.string (bs ss[k].1)) ∧ w.cell? ⟨bb, oo + 1, none⟩ = some (.string ss[k].2) ∧ bb < w.heap.size := by
  obtain ⟨bb, oo, h1, h2, h3⟩ := RowsAt.ix (P := Tryz.prog) h.rows Tryz.underlying26 (fun w => by kernel_rfl) (by decide) k hk
  have e := getD_of_lt ss noSrc k hk
  refine ⟨bb, oo, h1, ?_, ?_, h3⟩
  · have := h2 0 (by decide)
    rw [e] at this
    exact this
  · have := h2 1 (by decide)
    rw [e] at this
    exact this
theorem SrcsAt.form {w : World} {v : Value} {ss : List SrcR} (h : SrcsAt w v ss) : ∃ oa c, v = .slice oa ss.length c := by
  rcases h.rows.form with ⟨h1, h2⟩ | ⟨a, cap, h1, _⟩
  · exact ⟨none, 0, by rw [h1, h2]⟩
  · exact ⟨some a, cap, h1⟩
theorem SrcsAt.nil (w : World) : SrcsAt w (.slice none 0 0) [] := ⟨⟨.inl ⟨rfl, rfl⟩, Nat.zero_le _, fun _ hi => absurd hi (Nat.not_lt_zero _)⟩, by simp⟩

theorem rows_pick {α : Type} {w : World} {v : Value} {sz n : Nat} {C : Nat → List Value} (hR : RowsAt w v sz n C) (f : α → List Value) (no : α) (Good : α → Prop) (h : ∀ i, i < n → ∃ x, C i = f x ∧ Good x) :
    ∃ xs : List α, RowsAt w v sz xs.length (fun i => f (xs.getD i no)) ∧ ∀ x ∈ xs, Good x := by
  have hch : ∀ i, ∃ x, i < n → C i = f x ∧ Good x := fun i => by
    by_cases hi : i < n
    · obtain ⟨x, hx⟩ := h i hi
      exact ⟨x, fun _ => hx⟩
    · exact ⟨no, fun h => absurd h hi⟩
  have hL : ((List.range n).map fun i => Classical.choose (hch i)).length = n := by simp
  have hg : ∀ i, i < n → ((List.range n).map fun i => Classical.choose (hch i)).getD i no = Classical.choose (hch i) := by
    intro i hi
    simp [hi]
  refine ⟨(List.range n).map fun i => Classical.choose (hch i), ⟨?_, ?_, ?_⟩, ?_⟩
  · rw [hL]
    rcases hR.form with h | ⟨a, cap, hv, hc⟩
    · exact .inl h
    · refine .inr ⟨a, cap, hv, fun i hi j hj => ?_⟩
      rw [hg i hi, ← ((Classical.choose_spec (hch i)) hi).1]
      exact hc i hi j hj
  · rw [hL]; exact hR.le
  · intro i hi
    rw [hL] at hi
    show (f _).length = sz
    rw [hg i hi, ← ((Classical.choose_spec (hch i)) hi).1]
    exact hR.wide i hi
  · intro x hx
    obtain ⟨i, hi, rfl⟩ := List.mem_map.1 hx
    exact ((Classical.choose_spec (hch i)) (List.mem_range.1 hi)).2
section
variable {H : Type} {enc : TypeId × Value → H} {W : World} {b2 m : Nat} {u : Value} {cs : List Value} {y : DataW H × List MemPlace}
set_option maxRecDepth 100000 in
theorem srcs_of (h : DataW.trod enc Tryz.prog W b2 (fun _ => true) true m 26 [u] = some y) : ∃ ss, SrcsAt W u ss := by
  obtain ⟨n, C, hR, hC⟩ := rows_of_cell Tryz.underlying26 Tryz.underlying55 (by kernel_rfl) (by kernel_rfl) h
  obtain ⟨ss, h1, h2⟩ := rows_pick hR srcL noSrc (fun s => s.1.length ≤ maxLen ∧ s.2.size ≤ maxLen) (fun i hi => by
    have hw := hR.wide i hi
    have hf := hC i hi
    obtain ⟨u0, y0, m0, e0, r0⟩ := hf 0 _ rfl
    obtain ⟨u1, y1, m1, e1, r1⟩ := hf 1 _ rfl
    obtain ⟨ys, n', _, _, hlen, hyl, hfs⟩ := DataW.trod_struct Tryz.underlying41 r0
    have q0 := hfs 0 _ rfl
    have hq : ys[0]? = some (ys[0]'(by rw [hyl]; decide)) := List.getElem?_eq_getElem _
    rw [hq] at q0
    obtain ⟨k0, g0, _, w0⟩ := DataW.trod_string Tryz.underlying9 q0
    obtain ⟨k1, g1, _, w1⟩ := DataW.trod_string Tryz.underlying9 r1
    have hct : Tryz.prog.cellsOf 9 = 1 := by kernel_rfl
    have g0' : ([u0].drop 0).take (Tryz.prog.cellsOf 9) = [.string k0] := g0
    rw [hct] at g0'
    simp only [List.drop_zero, List.take_succ_cons, List.take_zero, List.cons.injEq, and_true] at g0' g1
    subst g0' g1
    refine ⟨(k0.data.toList, k1), ?_, by simpa using w0, w1⟩
    unfold srcL
    simp only [bs_list]
    generalize C i = L at *
    match L, hw with
    | [c0, c1], _ =>
      simp at e0 e1
      subst e0 e1
      rfl)
  exact ⟨ss, ⟨h1, h2⟩⟩
theorem wf_codes {n : Int} (h : (Lit.int .i64 n).wf = true) : -9223372036854775808 ≤ n ∧ n ≤ 9223372036854775807 := by
  simp [Lit.wf, IntKind.min, IntKind.max, IntKind.signed, IntKind.bits] at h
  omega
set_option maxRecDepth 100000 in
theorem ress_of (h : DataW.trod enc Tryz.prog W b2 (fun _ => true) true m 58 [u] = some y) : ∃ rs, ResAt W u rs ∧ ∀ r ∈ rs, (Lit.int .i64 r.1).wf = true := by
  obtain ⟨n, C, hR, hC⟩ := rows_of_cell Tryz.underlying58 Tryz.underlying47 (by kernel_rfl) (by kernel_rfl) h
  obtain ⟨rs, h1, h2⟩ := rows_pick hR resL noRes (fun r => (Lit.int .i64 r.1).wf = true ∧ r.2.size ≤ maxLen) (fun i hi => by
    have hw := hR.wide i hi
    have hf := hC i hi
    obtain ⟨u0, y0, m0, e0, r0⟩ := hf 0 _ rfl
    obtain ⟨u1, y1, m1, e1, r1⟩ := hf 1 _ rfl
    obtain ⟨k0, g0, _, w0⟩ := DataW.trod_int Tryz.underlying30 r0
    obtain ⟨k1, g1, _, w1⟩ := DataW.trod_string Tryz.underlying9 r1
    simp only [List.cons.injEq, and_true] at g0 g1
    subst g0 g1
    refine ⟨(k0, k1), ?_, w0, w1⟩
    unfold resL
    generalize C i = L at *
    match L, hw with
    | [c0, c1], _ =>
      simp at e0 e1
      subst e0 e1
      rfl)
  exact ⟨rs, ⟨h1, fun r hr => (h2 r hr).2⟩, fun r hr => (h2 r hr).1⟩
set_option maxRecDepth 100000 in
theorem res_of (h : DataW.trod enc Tryz.prog W b2 (fun _ => true) true m 47 cs = some y) : ∃ r : ResR, cs = resL r ∧ (Lit.int .i64 r.1).wf = true ∧ r.2.size ≤ maxLen := by
  obtain ⟨ys, n', _, _, hlen, hyl, hfs⟩ := DataW.trod_struct Tryz.underlying47 h
  have hct : Tryz.prog.cellsOf 47 = 2 := by kernel_rfl
  have hc0 : Tryz.prog.cellsOf 30 = 1 := by kernel_rfl
  have hc1 : Tryz.prog.cellsOf 9 = 1 := by kernel_rfl
  rw [hct] at hlen
  obtain ⟨a, b, rfl⟩ : ∃ a b, cs = [a, b] := by
    match cs, hlen with
    | [a, b], _ => exact ⟨a, b, rfl⟩
  have q0 := hfs 0 _ rfl
  have q1 := hfs 1 _ rfl
  have e0 : ys[0]? = some (ys[0]'(by rw [hyl]; decide)) := List.getElem?_eq_getElem _
  have e1 : ys[1]? = some (ys[1]'(by rw [hyl]; decide)) := List.getElem?_eq_getElem _
  rw [e0] at q0
  rw [e1] at q1
  obtain ⟨k0, g0, _, w0⟩ := DataW.trod_int Tryz.underlying30 q0
  obtain ⟨k1, g1, _, w1⟩ := DataW.trod_string Tryz.underlying9 q1
  have g0' : ([a, b].drop 0).take (Tryz.prog.cellsOf 30) = [.int .i64 k0] := g0
  have g1' : ([a, b].drop 1).take (Tryz.prog.cellsOf 9) = [.string k1] := g1
  rw [hc0] at g0'
  rw [hc1] at g1'
  simp only [List.drop_zero, List.drop_succ_cons, List.take_succ_cons, List.take_zero, List.cons.injEq, and_true] at g0' g1'
  subst g0' g1'
  exact ⟨(k0, k1), rfl, w0, w1⟩
set_option maxRecDepth 100000 in
theorem digest_of (h : DataW.trod enc Tryz.prog W b2 (fun _ => true) true m 57 cs = some y) : ∃ f : Nat → UInt8, cs = (rowB 32 f).toList := by
  obtain ⟨xs, n', _, _, hlen, hxl, hfs⟩ := DataW.trod_array Tryz.underlying57 h
  have hct : Tryz.prog.cellsOf 57 = 32 := by kernel_rfl
  have hc1 : Tryz.prog.cellsOf 5 = 1 := by kernel_rfl
  rw [hct] at hlen
  have hq : ∀ i, i < 32 → ∃ k : Int, cs[i]? = some (.int .u8 k) ∧ 0 ≤ k ∧ k ≤ 255 := by
    intro i hi
    have q := hfs i hi
    have e : xs[i]? = some (xs[i]'(by rw [hxl]; exact hi)) := List.getElem?_eq_getElem _
    rw [e] at q
    obtain ⟨k, g, _, hw⟩ := DataW.trod_int Tryz.underlying5 q
    rw [hc1, Nat.mul_one] at g
    have hic : i < cs.length := by omega
    rw [List.drop_eq_getElem_cons hic, List.take_succ_cons, List.take_zero] at g
    simp only [List.cons.injEq, and_true] at g
    simp [Lit.wf, IntKind.min, IntKind.max, IntKind.signed, IntKind.bits] at hw
    exact ⟨k, by rw [List.getElem?_eq_getElem hic, g], by omega, by omega⟩
  have hch : ∀ i, ∃ k : Int, i < 32 → cs[i]? = some (.int .u8 k) ∧ 0 ≤ k ∧ k ≤ 255 := fun i => by
    by_cases hi : i < 32
    · obtain ⟨k, hk⟩ := hq i hi
      exact ⟨k, fun _ => hk⟩
    · exact ⟨0, fun h => absurd h hi⟩
  obtain ⟨F, hF⟩ : ∃ F : Nat → UInt8, F = fun i => UInt8.ofNat (Classical.choose (hch i)).toNat := ⟨_, rfl⟩
  refine ⟨F, ?_⟩
  have hl : (rowB 32 F).toList.length = 32 := by simp [rowB_size]
  apply List.ext_getElem?
  intro i
  by_cases hi : i < 32
  · have hk := Classical.choose_spec (hch i) hi
    have e : (rowB 32 F).toList[i]? = (rowB 32 F)[i]? := Array.getElem?_toList
    rw [e, rowB_get 32 _ i hi, hk.1, hF]
    congr 2
    have : (UInt8.ofNat (Classical.choose (hch i)).toNat).toNat = (Classical.choose (hch i)).toNat := by
      rw [UInt8.toNat_ofNat']
      omega
    simp only
    rw [this]
    omega
  · rw [List.getElem?_eq_none (by omega), List.getElem?_eq_none (by omega)]
set_option maxRecDepth 100000 in
theorem record_of (h : DataW.trod enc Tryz.prog W b2 (fun _ => true) true m 67 cs = some y) : ∃ key c out, cs = (recA key c out).toList ∧ (Lit.int .i64 c).wf = true := by
  obtain ⟨ys, n', _, _, hlen, hyl, hfs⟩ := DataW.trod_struct Tryz.underlying67 h
  have hct : Tryz.prog.cellsOf 67 = 65 := by kernel_rfl
  have hc0 : Tryz.prog.cellsOf 57 = 32 := by kernel_rfl
  have hc1 : Tryz.prog.cellsOf 30 = 1 := by kernel_rfl
  rw [hct] at hlen
  have q0 := hfs 0 _ rfl
  have q1 := hfs 1 _ rfl
  have q2 := hfs 2 _ rfl
  have e0 : ys[0]? = some (ys[0]'(by rw [hyl]; decide)) := List.getElem?_eq_getElem _
  have e1 : ys[1]? = some (ys[1]'(by rw [hyl]; decide)) := List.getElem?_eq_getElem _
  have e2 : ys[2]? = some (ys[2]'(by rw [hyl]; decide)) := List.getElem?_eq_getElem _
  rw [e0] at q0
  rw [e1] at q1
  rw [e2] at q2
  obtain ⟨key, g0⟩ := digest_of q0
  obtain ⟨c, g1, _, w1⟩ := DataW.trod_int Tryz.underlying30 q1
  obtain ⟨out, g2⟩ := digest_of q2
  have g0' : (cs.drop 0).take (Tryz.prog.cellsOf 57) = (rowB 32 key).toList := g0
  have g1' : (cs.drop 32).take (Tryz.prog.cellsOf 30) = [.int .i64 c] := g1
  have g2' : (cs.drop 33).take (Tryz.prog.cellsOf 57) = (rowB 32 out).toList := g2
  rw [hc0] at g0' g2'
  rw [hc1] at g1'
  refine ⟨key, c, out, ?_, w1⟩
  rw [recA_list, ← g0', ← g1', ← g2']
  have h1 : cs.drop 33 = (cs.drop 32).drop 1 := by rw [List.drop_drop]
  rw [List.take_of_length_le (l := cs.drop 33) (by simp; omega), h1, List.take_append_drop, List.drop_zero, List.take_append_drop]
end
end Go.Proofs.YthglfmacjoecgaaGreatDoor
namespace Go.Proofs.YthglfmacjoecgaaGreatDoor
open Go.RowKit

theorem flat_lenV {α : Type} (f : α → List Value) (sz : Nat) (hf : ∀ x, (f x).length = sz) : ∀ (xs : List α), (xs.flatMap f).length = xs.length * sz
  | [] => by simp
  | x :: xs => by rw [List.flatMap_cons, List.length_append, hf, flat_lenV f sz hf xs, List.length_cons, Nat.succ_mul, Nat.add_comm]
theorem flat_get {α : Type} (f : α → List Value) (sz : Nat) (hf : ∀ x, (f x).length = sz) : ∀ (xs : List α) (i j : Nat) (hi : i < xs.length), j < sz → (xs.flatMap f)[i * sz + j]? = (f xs[i])[j]?
  | x :: xs, 0, j, _, hj => by
    rw [List.flatMap_cons, Nat.zero_mul, Nat.zero_add, List.getElem?_append_left (by rw [hf]; exact hj)]
    rfl
  | x :: xs, i + 1, j, hi, hj => by
    rw [List.flatMap_cons, List.getElem?_append_right (by rw [hf, Nat.succ_mul]; omega), hf, show (i + 1) * sz + j - sz = i * sz + j by rw [Nat.succ_mul]; omega, flat_get f sz hf xs i j (by simpa using hi) hj]
    rfl
theorem rows_of_owns {α : Type} {w : World} {e : TypeId} {sz : Nat} {v : Value} (f : α → List Value) (no : α) (xs : List α) (hf : ∀ x, (f x).length = sz) (h : w.ownsRow 0 e sz v xs.length (xs.flatMap f)) (hl : xs.length ≤ maxLen) :
    RowsAt w v sz xs.length (fun i => f (xs.getD i no)) := by
  refine ⟨?_, hl, fun i _ => hf _⟩
  rcases h.2 with ⟨rfl, h0⟩ | ⟨g, cap, cur, rfl, _⟩
  · left; exact ⟨rfl, h0⟩
  · right
    refine ⟨⟨g, 0, none⟩, cap, rfl, fun i hi j hj => ?_⟩
    have hlt : i * sz + j < xs.length * sz := by
      have h1 : (i + 1) * sz ≤ xs.length * sz := Nat.mul_le_mul_right _ hi
      rw [Nat.succ_mul] at h1
      omega
    have h3 := h.cellAt (i * sz + j) hlt
    have e3 : (⟨g, 0, none⟩ : Addr).add (i * sz + j) = ⟨g, i * sz + j, none⟩ := by unfold Addr.add; split <;> simp_all
    rw [e3, h3, getD_of_lt _ _ _ hi, flat_get f sz hf xs i j hi hj]
theorem ResAt.of_owns {w : World} {v : Value} {rs : List ResR} {n : Nat} (hn : n = rs.length) (h : w.ownsRow 0 47 2 v n (rs.flatMap resL)) (hl : rs.length ≤ 1000) (hs : ∀ r ∈ rs, r.2.size ≤ 100000) : ResAt w v rs := by
  subst hn
  exact ⟨rows_of_owns resL noRes rs (fun _ => rfl) h (by unfold maxLen; omega), fun r hr => by have := hs r hr; unfold maxLen; omega⟩
theorem elRes : ElT Tryz.prog 58 47 2 24 := .mk' (z := .agg #[.int .i64 0, .string ByteArray.empty]) Tryz.underlying58 (by kernel_rfl) rfl (by decide) rfl

section
variable {P : Program} {w : World} {ops : Array Oper} {rest : List Oper} {o : Oper} {a : Act} {Q : Exit → Act → World → Prop}
theorem wpList_makeSlice0 (hg : o.guard = none) (t : TypeId) (x y : Operand) (hop : o.op = Op.makeSlice t x y) (n : Nat) (hx : a.eval x = .int .i64 n) (hy : a.eval y = .int .i64 n) (e : TypeId) (zc : Array Value)
    (hr : (Instr.makeSlice t (.int .i64 n) (.int .i64 n)).run P w = .ok (.slice (some ⟨w.heap.size, 0, none⟩) n n) (w.alloc (.cells zc e)))
    (h : ∀ w', w'.heap[w.heap.size]? = some (.cells zc e (0, 0)) → w'.heap.size = w.heap.size + 1 → Chg (fun _ => False) w w' → wpList P ops Q rest (a.put o.dst (.slice (some ⟨w.heap.size, 0, none⟩) n n)) w') : wpList P ops Q (o :: rest) a w := by
  refine wpList_plain hg fun K' hK' => ?_
  unfold Oper.wp
  simp only [execOp, hop, hx, hy, Sem.run_bind, hr, Result.andThen, Sem.run_pure, Oper.upon]
  exact hK' _ _ (h _ (heap_alloc_new w _) (by simp) ((Chg.refl _ w).alloc _))
end
theorem madeDig (n : Nat) : madeCells (Value.agg (rowB 32 (fun _ => 0))).cells (n * 32) = rowB (n * 32) (fun _ => 0) := by
  show madeCells (rowB 32 (fun _ => 0)) (n * 32) = rowB (n * 32) (fun _ => 0)
  apply Array.ext_getElem?
  intro i
  by_cases hi : i < n * 32
  · rw [rowB_get _ _ i hi]
    have e : (rowB 32 (fun _ => 0))[i % 32]! = .int .u8 0 := by
      have h2 := rowB_get 32 (fun _ => 0) (i % 32) (Nat.mod_lt _ (by decide))
      rw [Array.getElem!_eq_getD, Array.getD_eq_getD_getElem?, h2]
      rfl
    simp [madeCells, rowB_size, hi, e]
  · rw [Array.getElem?_eq_none (by rw [size_madeCells]; omega), Array.getElem?_eq_none (by rw [rowB_size]; omega)]
/-- A slice of n digests, all of them zero. -/
theorem run_makeDig (n : Nat) (hn : n ≤ 1000) (w : World) : (Instr.makeSlice 34 (.int .i64 n) (.int .i64 n)).run Tryz.prog w = .ok (.slice (some ⟨w.heap.size, 0, none⟩) n n) (w.alloc (.cells (rowB (n * 32) (fun _ => 0)) 57)) := by
  have q1 : (Tryz.prog.info? 57).map (fun i => (i.bytes, i.size)) = some (32, 32) := by kernel_rfl
  have q2 : (Tryz.prog.info? 57).bind (fun i => i.zero) = some (.agg (rowB 32 (fun _ => 0))) := by kernel_rfl
  obtain ⟨i, hi⟩ : ∃ i, Tryz.prog.info? 57 = some i := by
    cases h : Tryz.prog.info? 57 with
    | none => rw [h] at q1; cases q1
    | some i => exact ⟨i, rfl⟩
  rw [hi] at q1 q2
  simp only [Option.map_some, Option.some.injEq, Prod.mk.injEq, Option.bind_some] at q1 q2
  have h := run_make (P := Tryz.prog) w 34 57 i (.agg (rowB 32 (fun _ => 0))) Tryz.underlying34 hi q2 .i64 .i64 (n : Int) (n : Int) (by omega) (Int.le_refl _) (by rw [q1.1]; omega) (by omega)
  simp only [Int.toNat_natCast, q1.2] at h
  rw [h, madeDig]
/-- Digests one behind the other. -/
def keysF (K : Nat → Nat → UInt8) : Nat → UInt8 := fun k => K (k / 32) (k % 32)
theorem keysF_put (n : Nat) (K : Nat → Nat → UInt8) (i : Nat) (hi : i < n) (d : Nat → UInt8) :
    ((rowB (n * 32) (keysF K)).toList.take (i * 32) ++ (rowB 32 d).toList ++ (rowB (n * 32) (keysF K)).toList.drop (i * 32 + (rowB 32 d).size)).toArray = rowB (n * 32) (keysF fun j => if j = i then d else K j) := by
  apply Array.ext_getElem?
  intro k
  rw [rowB_size]
  have hL : (rowB (n * 32) (keysF K)).toList.length = n * 32 := by simp [rowB_size]
  have hD : (rowB 32 d).toList.length = 32 := by simp [rowB_size]
  have h32 : (i + 1) * 32 ≤ n * 32 := Nat.mul_le_mul_right _ hi
  rw [List.getElem?_toArray]
  by_cases h1 : k < i * 32
  · rw [List.append_assoc, List.getElem?_append_left (by rw [List.length_take]; omega), List.getElem?_take, if_pos h1, Array.getElem?_toList, rowB_get _ _ k (by omega), rowB_get _ _ k (by omega)]
    unfold keysF
    simp only
    rw [if_neg (by omega)]
  · by_cases h2 : k < i * 32 + 32
    · rw [List.getElem?_append_left (by simp [rowB_size]; omega), List.getElem?_append_right (by rw [List.length_take]; omega), List.length_take, hL, Nat.min_eq_left (by omega), Array.getElem?_toList, rowB_get 32 d _ (by omega), rowB_get _ _ k (by omega)]
      unfold keysF
      simp only
      rw [if_pos (by omega), show k - i * 32 = k % 32 by omega]
    · rw [List.getElem?_append_right (by simp [rowB_size]; omega), List.getElem?_drop]
      have e : i * 32 + 32 + (k - (List.take (i * 32) (rowB (n * 32) (keysF K)).toList ++ (rowB 32 d).toList).length) = k := by
        rw [List.length_append, List.length_take, hL, hD, Nat.min_eq_left (by omega)]
        omega
      rw [e, Array.getElem?_toList]
      by_cases h3 : k < n * 32
      · rw [rowB_get _ _ k h3, rowB_get _ _ k h3]
        unfold keysF
        simp only
        rw [if_neg (by omega)]
      · rw [Array.getElem?_eq_none (by rw [rowB_size]; omega), Array.getElem?_eq_none (by rw [rowB_size]; omega)]
end Go.Proofs.YthglfmacjoecgaaGreatDoor
