/- The calls on no Breeze; what comes was put: the plain law. -/
import Derived.Test.YtfjihepjeafpmaaBrM
namespace Go.Proofs.Ytfjihepjeafpmaa
open Go.RowKit

section
variable (w : World)
set_option maxHeartbeats 400000 in
theorem nil_len : Calls Try.prog 22 #[.pointer none] w (Rets (.int .i64 0) (fun w' => w = w')) := by
  go_enter Try.func22, Try.ntmps22
  go_wp2
  go_ret
  exact ⟨rfl, rfl⟩
set_option maxHeartbeats 400000 in
theorem nil_is (x : Int) (hx : x = 0) : Calls Try.prog 27 #[.pointer none, .int .i64 x] w (Rets (.bool false) (fun w' => w = w')) := by
  subst hx
  go_enter Try.func27, Try.ntmps27
  go_wp2_with (go_at_call 22; refine (nil_len _).mono ?_; rintro e w' ⟨rfl, rfl⟩)
  go_ret
  exact ⟨rfl, rfl⟩
set_option maxHeartbeats 400000 in
theorem nil_put (s : ByteArray) (x y : Int) : Calls Try.prog 10 #[.pointer none, .int .i64 x, .int .i64 y, .string s] w (Rets (.int .i64 2) (fun w' => w = w')) := by
  go_enter Try.func10, Try.ntmps10
  go_wp2
  go_ret
  exact ⟨rfl, rfl⟩
set_option maxHeartbeats 400000 in
theorem nil_take : Calls Try.prog 11 #[.pointer none, .int .i64 0] w
    (Rets (.tuple #[.agg #[.int .i64 0, .int .i64 0, .string ByteArray.empty, .bool false], .bool false]) (fun w' => Chg (fun _ => False) w w')) := by
  go_enter Try.func11, Try.ntmps11
  go_wp2_with (go_at_call 27; refine (nil_is _ 0 rfl).mono ?_; rintro e w' ⟨rfl, rfl⟩)
  exact bodyPost_ret (v := .tuple #[.agg #[.int .i64 0, .int .i64 0, .string ByteArray.empty, .bool false], .bool false]) (by simp [results, Try.results11, go_sem]; rfl) rfl ⟨rfl, (Chg.refl _ w).alloc _⟩
set_option maxHeartbeats 400000 in
theorem nil_copy : Calls Try.prog 12 #[.pointer none, .int .i64 0] w (Rets (.bool false) (fun w' => w = w')) := by
  go_enter Try.func12, Try.ntmps12
  go_wp2_with (go_at_call 27; refine (nil_is _ 0 rfl).mono ?_; rintro e w' ⟨rfl, rfl⟩)
  go_ret
  exact ⟨rfl, rfl⟩
set_option maxHeartbeats 400000 in
theorem nil_flip (x y z : Int) : Calls Try.prog 13 #[.pointer none, .int .i64 x, .int .i64 y, .int .i64 z] w (Rets (.int .i64 2) (fun w' => w = w')) := by
  go_enter Try.func13, Try.ntmps13
  go_wp2
  go_ret
  exact ⟨rfl, rfl⟩
set_option maxHeartbeats 400000 in
theorem nil_cut (x y : Int) : Calls Try.prog 19 #[.pointer none, .int .i64 x, .int .i64 y] w (Rets (.tuple #[]) (fun w' => w = w')) := by
  go_enter Try.func19, Try.ntmps19
  go_wp2
  go_end0
  exact ⟨rfl, rfl⟩
set_option maxHeartbeats 400000 in
theorem nil_heal (x y : Int) : Calls Try.prog 21 #[.pointer none, .int .i64 x, .int .i64 y] w (Rets (.tuple #[]) (fun w' => w = w')) := by
  go_enter Try.func21, Try.ntmps21
  go_wp2
  go_end0
  exact ⟨rfl, rfl⟩
set_option maxHeartbeats 400000 in
theorem nil_apart (x y : Int) : Calls Try.prog 23 #[.pointer none, .int .i64 x, .int .i64 y] w (Rets (.bool false) (fun w' => w = w')) := by
  go_enter Try.func23, Try.ntmps23
  go_wp2
  go_ret
  exact ⟨rfl, rfl⟩
end

/-- Load x may come of p, that was put. -/
def fitsB (p x : Ld) : Bool := (p.fr == x.fr && p.to == x.to) && ((nearI p.by_ x.by_ == 0 && !x.fl) || (nearI p.by_ x.by_ == 1 && x.fl))
/-- All that is under way was put. -/
def Truth (puts ls : List Ld) : Prop := ∀ x ∈ ls, x.by_.size ≤ maxLen ∧ ∃ p ∈ puts, p.by_.size ≤ maxLen ∧ p.fr = x.fr ∧ p.to = x.to ∧ p.by_.size = x.by_.size ∧ ((x.fl = false ∧ p.by_ = x.by_) ∨ (x.fl = true ∧ partN p.by_.data.toList x.by_.data.toList = 1))
theorem Truth.fits {puts ls : List Ld} (h : Truth puts ls) {x : Ld} (hx : x ∈ ls) : ∃ p ∈ puts, fitsB p x = true := by
  obtain ⟨_, p, hp, _, h1, h2, h3, h4⟩ := h x hx
  refine ⟨p, hp, ?_⟩
  unfold fitsB nearI
  rw [if_pos h3, h1, h2]
  rcases h4 with ⟨hf, hb⟩ | ⟨hf, hb⟩
  · rw [hb, partN_self, hf]; simp
  · rw [hb, hf]; simp
theorem Truth.put {puts ls : List Ld} (h : Truth puts ls) (p : Ld) (hf : p.fl = false) (hs : p.by_.size ≤ maxLen) : Truth (puts ++ [p]) (ls ++ [p]) := by
  intro x hx
  rcases List.mem_append.1 hx with hx | hx
  · obtain ⟨h1, q, hq, h2⟩ := h x hx
    exact ⟨h1, q, List.mem_append.2 (.inl hq), h2⟩
  · obtain rfl := List.mem_singleton.1 hx
    exact ⟨hs, x, List.mem_append.2 (.inr (by simp)), hs, rfl, rfl, rfl, .inl ⟨hf, rfl⟩⟩
theorem Truth.sub {puts ls ls' : List Ld} (h : Truth puts ls) (hs : ∀ x ∈ ls', x ∈ ls) : Truth puts ls' := fun x hx => h x (hs x hx)
theorem Truth.take {puts ls : List Ld} (h : Truth puts ls) (at_ : Int) : Truth puts (takeLs ls at_) := by
  unfold takeLs
  split
  · exact h.sub (fun x hx => List.mem_of_mem_eraseIdx hx)
  · exact h
theorem takeLd_mem {ls : List Ld} {at_ : Int} (h : isB ls at_ = true) : takeLd ls at_ ∈ ls := by
  obtain ⟨i, rfl, hi, hg⟩ := isB_get h
  unfold takeLd
  rw [if_pos h]
  exact List.mem_of_getElem? hg
theorem Truth.copy {puts ls : List Ld} (h : Truth puts ls) (at_ : Int) : Truth puts (copyLs ls at_) := by
  unfold copyLs
  split
  · rename_i hc
    simp [copyB] at hc
    obtain ⟨i, rfl, hi, hg⟩ := isB_get hc.1
    refine h.sub (fun x hx => ?_)
    rcases List.mem_append.1 hx with hx | hx
    · exact hx
    · rw [List.mem_singleton.1 hx]; exact List.mem_of_getElem? hg
  · exact h
theorem flipByte_ne (a : UInt8) (mk : Int) (h1 : 1 ≤ mk) (h2 : mk ≤ 255) : flipByte a mk ≠ a := by
  intro h
  have e : flipN a mk = a.toNat := by rw [← flipByte_toNat, h]
  unfold flipN bits at e
  rw [IntKind.wrap_u8] at e
  have e' : (((BitVec.ofInt 8 (a.toNat : Int) ^^^ BitVec.ofInt 8 mk).toNat : Nat) : Int) % 256 = a.toNat := e
  clear e
  have hm : BitVec.ofInt 8 mk = 0#8 := by
    have hlt : (BitVec.ofInt 8 (a.toNat : Int) ^^^ BitVec.ofInt 8 mk).toNat < 256 := (BitVec.ofInt 8 (a.toNat : Int) ^^^ BitVec.ofInt 8 mk).isLt
    have e2 : (BitVec.ofInt 8 (a.toNat : Int) ^^^ BitVec.ofInt 8 mk).toNat = a.toNat := by omega
    have e3 : BitVec.ofInt 8 (a.toNat : Int) = BitVec.ofNat 8 a.toNat := by simp
    have e4 : (BitVec.ofInt 8 (a.toNat : Int)).toNat = a.toNat := by
      rw [e3, BitVec.toNat_ofNat]
      have := a.toNat_lt
      omega
    have e5 : BitVec.ofInt 8 (a.toNat : Int) ^^^ BitVec.ofInt 8 mk = BitVec.ofInt 8 (a.toNat : Int) := BitVec.eq_of_toNat_eq (e2.trans e4.symm)
    have e6 := congrArg (fun z => BitVec.ofInt 8 (a.toNat : Int) ^^^ z) e5
    simpa [← BitVec.xor_assoc] using e6
  have h3 := congrArg BitVec.toNat hm
  simp [BitVec.toNat_ofInt] at h3
  omega
theorem Truth.flip {puts ls : List Ld} (h : Truth puts ls) (at_ pl mk : Int) : Truth puts (flipLs ls at_ pl mk) := by
  unfold flipLs
  split
  · rename_i hr
    unfold flipR at hr
    split at hr
    · rename_i hb
      obtain ⟨i, rfl, hi, hg⟩ := isB_get hb
      rw [show ((i : Int).toNat) = i from by omega] at hr ⊢
      generalize ls.getD i Ld.none = y at hr hg ⊢
      unfold flipRes at hr
      split at hr
      · omega
      · rename_i hf
        split at hr
        · omega
        · rename_i ho
          have hp : pl.toNat < y.by_.size := by omega
          intro x hx
          rcases List.mem_or_eq_of_mem_set hx with hx | rfl
          · exact h x hx
          · obtain ⟨h1, p, hp1, hp2, h2, h3, h4, h5⟩ := h y (List.mem_of_getElem? hg)
            rcases h5 with ⟨_, h5⟩ | ⟨h5, _⟩
            · have hsz : (flipS y.by_ pl.toNat mk).size = y.by_.size := by
                show (y.by_.data.toList.set pl.toNat _).toArray.size = _
                simp
              refine ⟨by show (flipS y.by_ pl.toNat mk).size ≤ maxLen; rw [hsz]; exact h1, p, hp1, hp2, h2, h3, by show p.by_.size = (flipS y.by_ pl.toNat mk).size; rw [hsz]; exact h4, .inr ⟨rfl, ?_⟩⟩
              show partN p.by_.data.toList (flipS y.by_ pl.toNat mk).data.toList = 1
              rw [h5]
              unfold flipS
              have hl : pl.toNat < y.by_.data.toList.length := by simpa using hp
              have hgd : y.by_.data.toList.getD pl.toNat 0 = y.by_.data.toList[pl.toNat] := by rw [List.getD_eq_getElem?_getD, List.getElem?_eq_getElem hl]; rfl
              rw [hgd]
              exact partN_set _ _ _ hl (flipByte_ne _ mk (by omega) (by omega))
            · exact absurd h5 hf
    · omega
  · exact h
theorem takeLs_len {ls : List Ld} {at_ : Int} (h : isB ls at_ = true) : (takeLs ls at_).length = ls.length - 1 := by
  obtain ⟨i, rfl, hi, _⟩ := isB_get h
  unfold takeLs
  rw [if_pos h, List.length_eraseIdx, if_pos (by simpa using hi)]
theorem flipLs_len (ls : List Ld) (at_ pl mk : Int) : (flipLs ls at_ pl mk).length = ls.length := by
  unfold flipLs
  split
  · rw [List.length_set]
  · rfl
end Go.Proofs.Ytfjihepjeafpmaa
