/- Texts of the proof, one behind the other: apiaryref06.Run walked: runR; The law MillExact walked; oven.Make walked; What a build with sources is: whether it can be made; how wide what it makes is; its keys. No program in sight; What '==' says of digests, results and records. -/
import Derived.Test.YthglfmacjoecgaaGreatDoorMh24
import Derived.Test.YthglfmacjoecgaaGreatDoorMh25
import Derived.Test.YthglfmacjoecgaaGreatDoorMh21
import Derived.Test.YthglfmacjoecgaaGreatDoorMh20
import Derived.DeepKeys
namespace Go.Proofs.YthglfmacjoecgaaGreatDoor
open Go.RowKit

end Go.Proofs.YthglfmacjoecgaaGreatDoor
namespace Go.Proofs.YthglfmacjoecgaaGreatDoor
open Go.RowKit

end Go.Proofs.YthglfmacjoecgaaGreatDoor
namespace Go.Proofs.YthglfmacjoecgaaGreatDoor
open Go.RowKit

/-- What an action comes to. -/
def makeF (code : ByteArray) (rs : List ResR) : ResR := if ∃ r ∈ rs, r.1 ≠ 0 then (34, ByteArray.empty) else (((runOut hashS code (rs.map Prod.snd)).1.1 : Int), (runOut hashS code (rs.map Prod.snd)).1.2)
def resW (r : ResR) : Value := .agg #[.int .i64 r.1, .string r.2]
theorem run_h {B : Nat} (code : ByteArray) (hs : code.size ≤ maxLen) (v : Value) (ins : List ByteArray) (w : World) (hin : StrsAt w v ins) (hT : TabsOK B w) (hB : B ≤ w.heap.size) :
    Calls Tryz.prog 25 #[.string code, v] w (Rets (.tuple #[resV (runOut hashS code ins).1.1 (runOut hashS code ins).1.2, .int .i64 (runOut hashS code ins).2]) (Chg (fun _ => False) w)) :=
  run_any hashS code hs v ins w hin (hT.mono hB) (.inr step_h)
theorem strs_own {w : World} {v : Value} {l : List ByteArray} {n : Nat} (h : w.ownsRow 0 9 1 v n (l.map Value.string)) (hn : n = l.length) (h1 : l.length ≤ 1000) (h2 : ∀ s ∈ l, s.size ≤ 100000) : StrsAt w v l := by
  subst hn
  have e : l.map Value.string = (l.map bl).map nmV := by
    rw [List.map_map]
    exact List.map_congr_left (fun s _ => by show Value.string s = Value.string (bs (bl s)); rw [bs_bl])
  rw [e, ← List.length_map (f := bl)] at h
  have h3 := NamesAt.of_owns h (by simp; unfold maxLen; omega) (fun s hs => by
    obtain ⟨x, hx, rfl⟩ := List.mem_map.1 hs
    have := h2 x hx
    rw [bl_len]; unfold maxLen; omega)
  have e2 : (l.map bl).map bs = l := by
    rw [List.map_map]
    calc l.map (bs ∘ bl) = l.map id := List.map_congr_left (fun s _ => bs_bl s)
      _ = l := List.map_id l
  unfold NamesAt at h3
  rwa [e2] at h3

set_option maxRecDepth 100000 in
set_option maxHeartbeats 4000000 in
theorem make_any {B : Nat} (code : ByteArray) (hc : code.size ≤ 1000) (rs : List ResR) (hn : rs.length ≤ 32) (hb : ∀ r ∈ rs, r.2.size ≤ 100000) (v : Value) (w : World) (hin : ResAt w v rs) (hT : TabsOK B w) (hB : B ≤ w.heap.size) :
    Calls Tryz.prog 30 #[.string code, v] w (Rets (resW (makeF code rs)) (Chg (fun _ => False) w)) := by
  have hlen := hin.len
  have HIN := hid hin
  have HT := hid hT
  have HBB := hid hB
  have HBZ := hid hb
  have ha1 := heap_alloc_new' w (.cells #[.int .i64 0, .string { data := #[] }] 47)
  have hc1 := al_chg w (.cells #[.int .i64 0, .string { data := #[] }] 47)
  have hs1 : (w.alloc (.cells #[.int .i64 0, .string { data := #[] }] 47)).heap.size = w.heap.size + 1 := by simp
  have HA1 := hid ha1
  have HC1 := hid hc1
  have HS1 := hid hs1
  clear hin hT hB hb ha1 hc1 hs1
  go_enter Tryz.func30, Tryz.ntmps30
  go_wp2_with fail
  generalize w.alloc (.cells #[.int .i64 0, .string { data := #[] }] 47) = w1 at *
  obtain ⟨d0, hd0⟩ : ∃ d0, d0 = w.heap.size := ⟨_, rfl⟩
  have HD0 := hid hd0
  rw [← hd0] at HA1 HS1 ⊢
  clear hd0
  go_loopw [5, 12] (fun v5 i wr => ∃ (k : Nat) (x : Value), x = v5 ∧ k ≤ rs.length ∧ i = .int .i64 k ∧ wr.ownsRow 0 9 1 x k (((rs.take k).map Prod.snd).map Value.string) ∧ (∀ q, x.ownBlock = some q → d0 + 1 ≤ q) ∧ Chg (fun _ => False) w1 wr ∧ ∀ r ∈ rs.take k, r.1 = 0) (fun _ i _ => rs.length - (intOf i).toNat)
  case atStart => exact ⟨0, _, rfl, Nat.zero_le _, rfl, World.ownsRow_nil _ _ _ _, (fun q h => by cases h), Chg.refl _ _, by simp⟩
  case round =>
    obtain ⟨k, x5, hx5, hk, rfl, hown, hbl, hch, hz⟩ := hrel
    subst hx5
    have HOWN := hid hown
    have HBL := hid hbl
    have HCH := hid hch
    have HZ := hid hz
    clear hown hbl hch hz
    by_cases hkn : k < rs.length
    · have hkn' : (k : Int) < rs.length := by omega
      have hcw : Chg (fun _ => False) w wr := HC1.out.trans HCH.out (fun _ _ h => h)
      obtain ⟨bb, oo, hix, e0, e1, hlt⟩ := (HIN.out.chg hcw (fun _ _ h => h)).ix k hkn
      have HTK : Hid (((rs.take (k + 1)).map Prod.snd).map Value.string = ((rs.take k).map Prod.snd).map Value.string ++ [.string rs[k].2]) := hid (by rw [List.take_succ_eq_append_getElem hkn, List.map_append, List.map_append]; rfl)
      have HTM : Hid (∀ r ∈ rs.take (k + 1), r ∈ rs.take k ∨ r = rs[k]) := hid (fun r hr => by
        rw [List.take_succ_eq_append_getElem hkn, List.mem_append] at hr
        rcases hr with h | h
        · exact .inl h
        · exact .inr (List.mem_singleton.1 h))
      have HME := hid (List.getElem_mem hkn)
      have HSZ : Hid (d0 + 1 ≤ wr.heap.size) := hid (by have := HCH.out.size; have := HS1.out; omega)
      have hcz : ∃ cd, cd = rs[k].1 := ⟨_, rfl⟩
      obtain ⟨cd, hcd⟩ := hcz
      have HCD := hid hcd
      rw [← hcd] at e0
      clear hcd hcw
      obtain ⟨b2, hb2⟩ : ∃ b2, b2 = rs[k].2 := ⟨_, rfl⟩
      rw [← hb2] at e1 HTK
      clear hb2
      have hkd := heap_alloc_old' (HCH.out.obj HA1.out (fun h => h)) (.cells #[.int .i64 cd, .string b2] 47)
      have q0 := cell_of hkd 0
      have q1 := cell_of hkd 1
      have f0 := frozen_of hkd 0
      have f1 := frozen_of hkd 1
      simp at q0 q1
      have XS := hid (res_stored hkd (.int .i64 34) (.string { data := #[] }))
      have hdn : ¬ d0 = wr.heap.size := by have := HSZ.out; omega
      have hdn2 : ¬ wr.heap.size = d0 := by have := HSZ.out; omega
      clear hkd
      by_cases h0 : cd = 0
      · subst h0
        go_wp2_with (guard_target =~ wpList _ _ _ (Oper.mk (some 24) _ _ _ _ _ :: _) _ _; refine wpList_append_new rfl _ _ 22 rfl elStr (HOWN.out.alloc (.cells #[.int .i64 0, .string b2] 47)) rfl #[.string b2] 1 1 (by exact congrArg (fun k : Nat => Value.slice (some ⟨k, 0, none⟩) 1 1) (show _ = _ by simp)) rfl rfl (by unfold maxLen; omega) (by omega) (by decide) ?_; intro g6 cap6 w6 hown6 hch6 hg6)
        go_roundw
        case rel =>
          refine ⟨k + 1, _, rfl, by omega, by go_num, ?_, fun q hq => ?_, (HCH.out.alloc _).trans hch6 (fun q hq h => absurd (HBL.out q h) (by have := HS1.out; omega)), fun r hr => ?_⟩
          · rw [HTK.out]
            exact hown6
          · simp [Value.ownBlock] at hq
            subst hq
            rcases hg6 with h | h
            · exact HBL.out _ h
            · have := HSZ.out
              simp at h
              omega
          · rcases HTM.out r hr with h | h
            · exact HZ.out r h
            · rw [h]; exact HCD.out.symm
        case measure => simp [intOf]; omega
      · have hne : (cd == 0) = false := by rw [beq_eq_false_iff_ne]; exact h0
        have HM : Hid (makeF code rs = (34, ByteArray.empty)) := hid (by
          unfold makeF
          rw [if_pos ⟨rs[k], HME.out, by rw [← HCD.out]; exact h0⟩])
        go_wp2_with fail
        refine bodyPost_ret (v := resW (34, ByteArray.empty)) (by simp [results, Tryz.results30, go_sem, XS.out.1, XS.out.2.1]; rfl) rfl ⟨by rw [HM.out], ?_⟩
        have hcw : Chg (fun _ => False) w (wr.alloc (.cells #[.int .i64 cd, .string b2] 47)) := (HC1.out.trans HCH.out (fun _ _ h => h)).alloc _
        have := res_chg hcw (.int .i64 34) (.string { data := #[] })
        rw [← HD0.out] at this
        exact this
    · obtain rfl : k = rs.length := by omega
      have hown := HOWN.out
      rw [List.take_length] at hown
      have hz := HZ.out
      rw [List.take_length] at hz
      have hstr : StrsAt wr x5 (rs.map Prod.snd) := strs_own hown (by simp) (by simp; omega) (fun s hs => by
        obtain ⟨r, hr, rfl⟩ := List.mem_map.1 hs
        exact HBZ.out r hr)
      have hcw : Chg (fun _ => False) w wr := HC1.out.trans HCH.out (fun _ _ h => h)
      have hrun := run_h code (by unfold maxLen; omega) x5 (rs.map Prod.snd) wr hstr (HT.out.keep hcw) (Nat.le_trans HBB.out hcw.size)
      have hM : makeF code rs = (((runOut hashS code (rs.map Prod.snd)).1.1 : Int), (runOut hashS code (rs.map Prod.snd)).1.2) := by
        unfold makeF
        rw [if_neg (fun ⟨r, hr, h⟩ => h (hz r hr))]
      have HM := hid hM
      have HRUN := hid hrun
      clear hown hz hstr hcw hrun hM
      generalize (runOut hashS code (rs.map Prod.snd)).1.1 = c9 at *
      generalize (runOut hashS code (rs.map Prod.snd)).1.2 = b9 at *
      generalize (runOut hashS code (rs.map Prod.snd)).2 = n9 at *
      unfold resV at HRUN
      go_wp2_with (go_at_call 25; refine HRUN.out.mono ?_; rintro e w9 ⟨rfl, hc9⟩; have hkd := heap_alloc_old' ((HCH.out.trans hc9 (fun _ _ h => h)).obj HA1.out (fun h => h)) (.cells #[.int .i64 (c9 : Int), .string b9] 47); have q0 := cell_of hkd 0; have q1 := cell_of hkd 1; have f0 := frozen_of hkd 0; have f1 := frozen_of hkd 1; simp at q0 q1; have XS := hid (res_stored hkd (.int .i64 (c9 : Int)) (.string b9)); have hdn : ¬ d0 = w9.heap.size := (by have := HCH.out.size; have := HS1.out; have := hc9.size; omega); have hdn2 : ¬ w9.heap.size = d0 := (fun e => hdn e.symm); clear hkd)
      refine bodyPost_ret (v := resW ((c9 : Int), b9)) (by simp [results, Tryz.results30, go_sem, XS.out.1, XS.out.2.1]; rfl) rfl ⟨by rw [HM.out], ?_⟩
      have hcw : Chg (fun _ => False) w (w9.alloc (.cells #[.int .i64 (c9 : Int), .string b9] 47)) := ((HC1.out.trans HCH.out (fun _ _ h => h)).trans hc9 (fun _ _ h => h)).alloc _
      have := res_chg hcw (.int .i64 (c9 : Int)) (.string b9)
      rw [← HD0.out] at this
      exact this
end Go.Proofs.YthglfmacjoecgaaGreatDoor
namespace Go.Proofs.YthglfmacjoecgaaGreatDoor
open Go.RowKit

theorem endR_ok {l : List ByteArray} (h : ∀ x ∈ l, x.size ≤ 512) : (endR l).2.size ≤ 512 ∧ (endR l).1 ≤ 33 := by
  unfold endR
  split
  · exact ⟨Nat.zero_le _, by decide⟩
  · rename_i b hb
    exact ⟨h b (List.mem_of_getLast? hb), Nat.zero_le _⟩
theorem runR_ok (H : ByteArray → ByteArray) (code : ByteArray) (ins : List ByteArray) (hc : code.size ≤ 64) : ∀ (f at_ n : Nat) (l : List ByteArray), l.length ≤ 8 → (∀ x ∈ l, x.size ≤ 512) →
    (runR H code ins f at_ n l).1.2.size ≤ 512 ∧ (runR H code ins f at_ n l).1.1 ≤ 33
  | 0, at_, n, l, h1, h2 => by
    unfold runR
    split
    · exact endR_ok h2
    split
    · exact ⟨Nat.zero_le _, (by decide : 32 ≤ 33)⟩
    · exact ⟨Nat.zero_le _, (by decide : 30 ≤ 33)⟩
  | f + 1, at_, n, l, h1, h2 => by
    by_cases he : at_ = code.size
    · rw [runR_end _ _ he]
      exact endR_ok h2
    by_cases ho : code.size < at_ ∨ widN code at_ = 0
    · rw [runR_op _ _ he ho]
      exact ⟨Nat.zero_le _, (by decide : 32 ≤ 33)⟩
    · rw [runR_step f n he ho rfl rfl]
      have hat : at_ < code.size := by omega
      have hs : at_ + (code.extract at_ (at_ + widN code at_)).size ≤ 1000 := by simp; omega
      have hok := stepR_ok H ins (byteN code at_) (numN (code.extract at_ (at_ + widN code at_))) (code.extract at_ (at_ + widN code at_)) at_ l h1 h2 hs (by have := numN_lt (code.extract at_ (at_ + widN code at_)); omega)
      have hcd := stepR_code H ins (byteN code at_) (numN (code.extract at_ (at_ + widN code at_))) (code.extract at_ (at_ + widN code at_)) at_ l
      split
      · exact runR_ok H code ins hc f _ _ _ hok.1 hok.2.1
      · exact ⟨Nat.zero_le _, hcd⟩
theorem runOut_ok (H : ByteArray → ByteArray) (code : ByteArray) (ins : List ByteArray) : (runOut H code ins).1.2.size ≤ 512 ∧ (runOut H code ins).1.1 ≤ 33 := by
  unfold runOut
  split
  · exact ⟨Nat.zero_le _, (by decide : 4 ≤ 33)⟩
  · rename_i h
    exact runR_ok H code ins (by omega) _ _ _ _ (by simp) (by simp)
/-- A result as a build's are. -/
structure Small (r : ResR) : Prop where
  lo : 0 ≤ r.1
  hi : r.1 ≤ 34
  wide : r.2.size ≤ 512
theorem small_no : Small noRes := ⟨by decide, by decide, Nat.zero_le _⟩
theorem makeF_small (code : ByteArray) (rs : List ResR) : Small (makeF code rs) := by
  unfold makeF
  split
  · exact ⟨by decide, by decide, Nat.zero_le _⟩
  · have := runOut_ok hashS code (rs.map Prod.snd)
    exact ⟨by simp, by show ((runOut hashS code (rs.map Prod.snd)).1.1 : Int) ≤ 34; omega, this.1⟩
theorem mem_of_lval {κ ν : Type} [DecidableEq κ] {k : κ} {x : ν} {l : List (κ × ν)} (h : lval k l = some x) : (k, x) ∈ l := by
  unfold lval at h
  cases hf : lfind k l 0 with
  | none => rw [hf] at h; cases h
  | some p =>
    obtain ⟨j, y⟩ := p
    rw [hf] at h
    simp only [Option.map_some, Option.some.injEq] at h
    subst h
    exact List.mem_of_getElem? (lfind_bound hf).2.2
def FF (c : List UInt8) (rs : List ResR) : ResR := makeF (bs c) rs
theorem foldT_small (g : GrR) (srcs : List SrcR) (hs : ∀ s ∈ srcs, s.2.size ≤ 512) (hn : (srcs.map Prod.fst).Nodup) : ∀ (n : Nat) (l : List Nat), l.length = n → ∀ s, Small (valT (foldT FF g srcs l) s)
  | 0, l, hl, s => by
    rw [List.length_eq_zero_iff.1 hl]
    show Small (valT (srcT srcs) s)
    unfold valT
    cases h : lval s (srcT srcs) with
    | none => exact small_no
    | some r =>
      rw [srcT_eq hn] at h
      obtain ⟨x, hx, e⟩ := List.mem_map.1 (mem_of_lval h)
      simp only [Prod.mk.injEq] at e
      obtain ⟨_, e⟩ := e
      subst e
      exact ⟨(by decide : (0 : Int) ≤ 0), (by decide : (0 : Int) ≤ 34), hs x hx⟩
  | n + 1, l, hl, s => by
    obtain ⟨l', k, rfl⟩ : ∃ l' k, l = l' ++ [k] := by
      rcases List.eq_nil_or_concat l with h | ⟨l', k, h⟩
      · rw [h] at hl; cases hl
      · exact ⟨l', k, by rw [h]; simp⟩
    unfold valT
    rw [foldT_snoc, stepT_val]
    split
    · exact makeF_small _ _
    · exact foldT_small g srcs hs hn n l' (by simpa using hl) s

theorem nodup_le {α : Type} : ∀ (a b : List α), a.Nodup → (∀ x ∈ a, x ∈ b) → a.length ≤ b.length
  | [], _, _, _ => Nat.zero_le _
  | y :: a, b, hn, hs => by
    rw [List.nodup_cons] at hn
    obtain ⟨l1, l2, rfl⟩ := List.append_of_mem (hs y (by simp))
    have := nodup_le a (l1 ++ l2) hn.2 (fun z hz => by
      have := hs z (by simp [hz])
      simp only [List.mem_append, List.mem_cons] at this ⊢
      rcases this with h1 | rfl | h1
      · exact .inl h1
      · exact absurd hz hn.1
      · exact .inr h1)
    simp at this ⊢
    omega
theorem sub_full {α : Type} : ∀ (a b : List α), a.Nodup → (∀ x ∈ a, x ∈ b) → b.length ≤ a.length → ∀ x ∈ b, x ∈ a
  | [], b, _, _, h, x, hx => by
    have : b = [] := List.length_eq_zero_iff.1 (by simpa using h)
    rw [this] at hx; exact hx
  | y :: a, b, hn, hs, h, x, hx => by
    rw [List.nodup_cons] at hn
    obtain ⟨l1, l2, rfl⟩ := List.append_of_mem (hs y (by simp))
    by_cases e : x = y
    · simp [e]
    · refine List.mem_cons_of_mem _ (sub_full a (l1 ++ l2) hn.2 (fun z hz => ?_) (by simp at h ⊢; omega) x ?_)
      · have := hs z (by simp [hz])
        simp only [List.mem_append, List.mem_cons] at this ⊢
        rcases this with h1 | rfl | h1
        · exact .inl h1
        · exact absurd hz hn.1
        · exact .inr h1
      · simp only [List.mem_append, List.mem_cons] at hx ⊢
        rcases hx with h1 | h1 | h1
        · exact .inl h1
        · exact absurd h1 e
        · exact .inr h1

/-- What is said of a build with sources: 0, it can be made. -/
def checkS (g : GrR) (srcs : List SrcR) : Nat :=
  if checkR g ≠ 0 then checkR g else if ¬ (srcs.map Prod.fst).Nodup then 21 else if ∃ s ∈ g.srcs, s ∉ srcs.map Prod.fst then 22 else if srcs.length ≠ g.srcs.length then 22 else if ∃ s ∈ srcs, 512 < s.2.size then 33 else 0
/-- A build with sources that can be made. -/
structure Done (g : GrR) (srcs : List SrcR) : Prop where
  can : Can g
  fit : Fit g srcs
  wide : ∀ s ∈ srcs, s.2.size ≤ 512
theorem Wov.srcsNd {g : GrR} (h : Wov g) : g.srcs.Nodup := (List.nodup_append.1 h.nd).1
theorem checkS_zero {g : GrR} {srcs : List SrcR} : checkS g srcs = 0 ↔ Done g srcs := by
  unfold checkS
  constructor
  · intro h
    split at h
    · rename_i h1; exact absurd h h1
    rename_i h1
    split at h
    · cases h
    rename_i h2
    split at h
    · cases h
    rename_i h3
    split at h
    · cases h
    rename_i h4
    split at h
    · cases h
    rename_i h5
    have hc := can_iff.1 (Decidable.not_not.1 h1)
    have hm : ∀ s ∈ g.srcs, s ∈ srcs.map Prod.fst := fun s hs => Decidable.not_not.1 (fun hn => h3 ⟨s, hs, hn⟩)
    exact ⟨hc, ⟨Decidable.not_not.1 h2, fun s => ⟨fun hs => sub_full _ _ hc.w.srcsNd hm (by simp; omega) s hs, hm s⟩⟩, fun s hs => Nat.le_of_not_lt (fun hl => h5 ⟨s, hs, hl⟩)⟩
  · intro h
    rw [if_neg (by rw [can_iff.2 h.can]; simp), if_neg (by simpa using h.fit.nd), if_neg (fun ⟨s, hs, hn⟩ => hn ((h.fit.mem s).2 hs)), if_neg, if_neg (fun ⟨s, hs, hl⟩ => by have := h.wide s hs; omega)]
    have h1 : srcs.length ≤ g.srcs.length := by
      have := nodup_le _ _ h.fit.nd (fun s hs => (h.fit.mem s).1 hs)
      simpa using this
    have h2 : g.srcs.length ≤ srcs.length := by
      have := nodup_le _ _ h.can.w.srcsNd (fun s hs => (h.fit.mem s).2 hs)
      simpa using this
    omega

/-- An action's key, of what is there. -/
def keyK (g : GrR) (t : List (Nm × ResR)) (i : Nat) : Nat → UInt8 := if (FF (codeAt g i) (insT2 g t i)).1 = 34 then (fun _ => 0) else keyF (bs (codeAt g i)) (insT2 g t i)
/-- The keys, when these places have been made. -/
def keysT (g : GrR) (t : List (Nm × ResR)) (l : List Nat) (i : Nat) : Nat → UInt8 := if i ∈ l then keyK g t i else fun _ => 0
/-- What an action is made of is what is there in the end. -/
theorem ins_then {g : GrR} (hw : Wov g) (srcs : List SrcR) {l m : List Nat} {i : Nat} (h : orderR g = l ++ i :: m) : insT2 g (madeT FF g srcs) i = insT2 g (foldT FF g srcs l) i := by
  have ho := orderR_ordd g
  rw [h] at ho
  have ho2 : Ordd g ((l ++ [i]) ++ m) := by simpa using ho
  have hk : ∀ s ∈ insAt g i, s ∈ g.srcs ∨ ∃ j ∈ l, nameAt g j = s := by
    intro s hs
    rcases ho.sup l.length (by simp) s (by rw [List.getElem_append_right (Nat.le_refl _)]; simpa using hs) with h1 | ⟨j, hj, h1⟩
    · exact .inl h1
    · exact .inr ⟨l[j], List.getElem_mem hj, by rw [List.getElem_append_left hj] at h1; exact h1⟩
  unfold insT2
  refine List.map_congr_left (fun s hs => ?_)
  unfold valT madeT
  rw [h, foldl_keep hw ho srcs (hk s hs)]
end Go.Proofs.YthglfmacjoecgaaGreatDoor
namespace Go.Proofs.YthglfmacjoecgaaGreatDoor
open Go.RowKit

theorem mapM_all {α β : Type} (g : α → Option β) (h : α → β) : ∀ l : List α, (∀ x ∈ l, g x = some (h x)) → l.mapM g = some (l.map h)
  | [], _ => rfl
  | x :: l, hx => by
    simp [hx x (by simp), mapM_all g h l (fun y hy => hx y (by simp [hy]))]
theorem flat_ones {α β : Type} (h : α → β) : ∀ l : List α, (l.map fun x => [h x]).flatten = l.map h
  | [] => rfl
  | x :: l => by simp [flat_ones h l]
theorem lit_u8 (b : UInt8) : (Lit.int .u8 ((b.toNat : Nat) : Int)).wf = true := by
  have : ∀ n : Fin 256, (Lit.int .u8 ((n.1 : Nat) : Int)).wf = true := by decide +kernel
  exact this ⟨b.toNat, b.toNat_lt⟩
theorem keyLits_array {P : Program} {d : Nat} {t e : TypeId} {n : Nat} {cs : List Value} (hu : P.underlying t = some (.array n e)) :
    P.keyLits (d + 1) t cs = if cs.length = P.cellsOf t then ((List.range n).mapM fun i => P.keyLits d e ((cs.drop (i * P.cellsOf e)).take (P.cellsOf e))).map List.flatten else none := by
  simp only [Program.keyLits]
  rw [hu]
theorem keyLits_int {P : Program} {d : Nat} {t : TypeId} {q : IntKind} {n : Int} (hu : P.underlying t = some (.int q)) (hw : (Lit.int q n).wf = true) : P.keyLits (d + 1) t [.int q n] = some [.int q n] := by
  simp only [Program.keyLits]
  rw [hu]
  simp [hw]
/-- A digest's letters. -/
def digLits (f : Nat → UInt8) : List Lit := (List.range 32).map fun i => Lit.int .u8 (((f i).toNat : Nat) : Int)
theorem rowB_slice (f : Nat → UInt8) (i : Nat) (h : i < 32) : ((rowB 32 f).toList.drop (i * 1)).take 1 = [Value.int .u8 (((f i).toNat : Nat) : Int)] := by
  rw [Nat.mul_one, List.drop_eq_getElem_cons (by simp [rowB]; exact h)]
  simp [rowB]
theorem lits_dig (f : Nat → UInt8) : Tryz.prog.keyLits 2 57 (rowB 32 f).toList = some (digLits f) := by
  have hu : Tryz.prog.underlying 57 = some (.array 32 5) := Tryz.underlying57
  have hc : Tryz.prog.cellsOf 57 = 32 := by kernel_rfl
  have h8 : Tryz.prog.underlying 5 = some (.int .u8) := Tryz.underlying5
  have hc8 : Tryz.prog.cellsOf 5 = 1 := by kernel_rfl
  rw [keyLits_array hu, hc, hc8, if_pos (by simp [rowB_size])]
  rw [mapM_all _ (fun i => [Lit.int .u8 (((f i).toNat : Nat) : Int)]) (List.range 32) (fun i hi => by
    rw [rowB_slice f i (List.mem_range.1 hi)]
    exact keyLits_int h8 (lit_u8 _))]
  show some _ = some _
  rw [digLits, flat_ones]
theorem digLits_inj {f g : Nat → UInt8} : digLits f = digLits g ↔ ∀ i, i < 32 → f i = g i := by
  unfold digLits
  constructor
  · intro h i hi
    have h2 := List.map_inj_left.1 h i (List.mem_range.2 hi)
    simp only [Lit.int.injEq, true_and] at h2
    exact UInt8.toNat_inj.1 (by omega)
  · intro h
    refine List.map_congr_left (fun i hi => ?_)
    rw [h i (List.mem_range.1 hi)]
/-- '==' of two digests. -/
theorem eq_dig (f g : Nat → UInt8) (w : World) : ∃ r : Bool, (binOp .eql 57 (.agg (rowB 32 f)) (.agg (rowB 32 g))).run Tryz.prog w = .ok (.bool r) w ∧ (r = true ↔ ∀ i, i < 32 → f i = g i) := by
  have hf : ∀ h : Nat → UInt8, (Value.agg (rowB 32 h)).formed Tryz.prog 57 = true := fun h => by kernel_rfl
  obtain ⟨r, h1, h2⟩ := run_equalIn_deep (P := Tryz.prog) 9998 2 57 (by kernel_rfl) w 2 2 (.agg (rowB 32 f)) (.agg (rowB 32 g)) _ _ (hf f) (hf g) (lits_dig f) (lits_dig g)
  exact ⟨r, by rw [run_eql_struct, h1]; rfl, h2.trans digLits_inj⟩
theorem keyLits_struct {P : Program} {d : Nat} {t : TypeId} {fs : Array Field} {cs : List Value} (hu : P.underlying t = some (.struct fs)) :
    P.keyLits (d + 1) t cs = if cs.length = P.cellsOf t ∧ fs.all (·.name != "_") = true then (fs.toList.mapM fun f => P.keyLits d f.type ((cs.drop f.offset).take (P.cellsOf f.type))).map List.flatten else none := by
  simp only [Program.keyLits]
  rw [hu]
end Go.Proofs.YthglfmacjoecgaaGreatDoor
