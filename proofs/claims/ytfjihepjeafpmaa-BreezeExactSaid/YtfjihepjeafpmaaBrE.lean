/- The calls on a Breeze at whatever arguments; the calls on none. -/
import Derived.Test.YtfjihepjeafpmaaBrD
namespace Go.Proofs.Ytfjihepjeafpmaa
open Go.RowKit

def Ld.none : Ld := ⟨0, 0, ByteArray.empty, false⟩
def Ld.val (x : Ld) : Value := .agg #[.int .i64 x.fr, .int .i64 x.to, .string x.by_, .bool x.fl]
def takeLd (ls : List Ld) (at_ : Int) : Ld := if isB ls at_ then ls.getD at_.toNat Ld.none else Ld.none
def takeLs (ls : List Ld) (at_ : Int) : List Ld := if isB ls at_ then ls.eraseIdx at_.toNat else ls
def copyB (ls : List Ld) (at_ : Int) : Bool := isB ls at_ && decide (ls.length < 200)
def copyLs (ls : List Ld) (at_ : Int) : List Ld := if copyB ls at_ then ls ++ [ls.getD at_.toNat Ld.none] else ls
def flipR (ls : List Ld) (at_ pl mk : Int) : Int := if isB ls at_ then flipRes (ls.getD at_.toNat Ld.none) pl mk else 12
def flipLs (ls : List Ld) (at_ pl mk : Int) : List Ld :=
  if flipR ls at_ pl mk = 0 then ls.set at_.toNat { ls.getD at_.toNat Ld.none with by_ := flipS (ls.getD at_.toNat Ld.none).by_ pl.toNat mk, fl := true } else ls

theorem isB_get {ls : List Ld} {at_ : Int} (h : isB ls at_ = true) : ∃ i : Nat, at_ = i ∧ i < ls.length ∧ ls[i]? = some (ls.getD i Ld.none) := by
  simp [isB] at h
  refine ⟨at_.toNat, by omega, by omega, ?_⟩
  rw [List.getD_eq_getElem?_getD, List.getElem?_eq_getElem (by omega)]
  rfl

theorem BrAt.al {w : World} {b mb : Nat} {v : Value} {ls : List Ld} {l : List ((Int × Int) × Bool)} (h : BrAt w b mb v ls l) (o : Obj) : BrAt (w.alloc o) b mb v ls l :=
  h.chg ((Chg.refl (fun _ => False) w).alloc o) (fun h => h) (fun h => h) (fun _ _ h => h)
theorem BrAt.lt {w : World} {b mb : Nat} {v : Value} {ls : List Ld} {l : List ((Int × Int) × Bool)} (h : BrAt w b mb v ls l) (k : Nat) (hk : k = b ∨ k = mb ∨ v.ownBlock = some k) : k < w.heap.size := by
  rcases hk with rfl | rfl | hk
  · exact heap_lt h.blk
  · exact h.map.lt
  · exact (h.own.lt k hk).2

section
variable {w : World} {b mb : Nat} {v : Value} {ls : List Ld} {l : List ((Int × Int) × Bool)}

theorem take_any (hB : BrAt w b mb v ls l) (at_ : Int) :
    Calls Try.prog 11 #[.pointer (some ⟨b, 0, none⟩), .int .i64 at_] w
      (Rets (.tuple #[(takeLd ls at_).val, .bool (isB ls at_)]) (BrPost w b mb v (takeLs ls at_) l)) := by
  by_cases h : isB ls at_ = true
  · obtain ⟨i, rfl, hi, hg⟩ := isB_get h
    have := take_yes hB i _ hg
    unfold takeLd takeLs
    rw [if_pos h, if_pos h, h]
    simpa [Ld.val] using this
  · have h' : isB ls at_ = false := by simpa using h
    have := take_no hB at_ h'
    unfold takeLd takeLs
    rw [if_neg h, if_neg h, h']
    exact this

theorem copy_any (hB : BrAt w b mb v ls l) (at_ : Int) :
    Calls Try.prog 12 #[.pointer (some ⟨b, 0, none⟩), .int .i64 at_] w (Rets (.bool (copyB ls at_)) (BrPost w b mb v (copyLs ls at_) l)) := by
  by_cases h : copyB ls at_ = true
  · have h2 := h
    simp [copyB] at h2
    obtain ⟨i, rfl, hi, hg⟩ := isB_get h2.1
    have := copy_yes hB i _ hg h2.2
    unfold copyLs
    rw [if_pos h, h]
    simpa using this
  · have h' : copyB ls at_ = false := by simpa using h
    have h2 := h'
    simp [copyB] at h2
    refine (copy_no hB at_ ?_).mono ?_
    · by_cases hb : isB ls at_ = true
      · exact .inr (h2 hb)
      · exact .inl (by simpa using hb)
    · rintro e w' ⟨rfl, rfl⟩
      unfold copyLs
      rw [if_neg h, h']
      exact ⟨rfl, hB.post⟩

theorem flip_any (hB : BrAt w b mb v ls l) (at_ pl mk : Int) :
    Calls Try.prog 13 #[.pointer (some ⟨b, 0, none⟩), .int .i64 at_, .int .i64 pl, .int .i64 mk] w (Rets (.int .i64 (flipR ls at_ pl mk)) (BrPost w b mb v (flipLs ls at_ pl mk) l)) := by
  by_cases h : isB ls at_ = true
  · obtain ⟨i, rfl, hi, hg⟩ := isB_get h
    have e : flipR ls i pl mk = flipRes (ls.getD i Ld.none) pl mk := by unfold flipR; rw [if_pos h]; rfl
    by_cases hr : flipRes (ls.getD i Ld.none) pl mk = 0
    · have hr2 := hr
      unfold flipRes at hr2
      split at hr2
      · omega
      · rename_i hf
        split at hr2
        · omega
        · rename_i ho
          have := flip_yes hB i _ hg pl.toNat mk (by simpa using hf) (by omega) (by omega) (by omega)
          rw [show ((pl.toNat : Nat) : Int) = pl from by omega] at this
          unfold flipLs
          rw [if_pos (e.trans hr), e.trans hr]
          simpa using this
    · refine (flip_no hB i _ hg pl mk hr).mono ?_
      rintro e' w' ⟨rfl, rfl⟩
      unfold flipLs
      rw [if_neg (by rw [e]; exact hr), e]
      exact ⟨rfl, hB.post⟩
  · have h' : isB ls at_ = false := by simpa using h
    refine (flip_none hB at_ pl mk h').mono ?_
    rintro e' w' ⟨rfl, rfl⟩
    have e : flipR ls at_ pl mk = 12 := by unfold flipR; rw [if_neg h]
    unfold flipLs
    rw [if_neg (by omega), e]
    exact ⟨rfl, hB.post⟩
end
end Go.Proofs.Ytfjihepjeafpmaa
