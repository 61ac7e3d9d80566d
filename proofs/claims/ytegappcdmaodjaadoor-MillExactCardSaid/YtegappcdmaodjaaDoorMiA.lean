/- mill's small functions walked: width, takes, number, same. -/
import Derived.Test.YtegappcdmaodjaaDoorBase
import Derived.Test.YtegappcdmaodjaaDoorShelf
namespace Go.Proofs.YtegappcdmaodjaaDoor
open Go.RowKit

/-- strings.IndexByte, behind a name. -/
def ibI (s : ByteArray) (c : UInt8) : Int := Lib.indexByte s.data.toList c
theorem ib_any (s : ByteArray) (c : UInt8) (w : World) : Calls Tryd.prog 29 #[.string s, .int .u8 c.toNat] w (Rets (.int .i64 (ibI s c)) (fun w' => w = w')) :=
  (Tryd.strings_IndexByte s c.toNat w).mono fun e w' ⟨he, hw⟩ => ⟨by rw [he]; simp [ibI], hw.symm⟩

def plainB (c : UInt8) : Bool := decide (0 ≤ ibI { data := #[99, 100, 115, 120, 114, 104, 108, 61] } c)
def numB (c : UInt8) : Bool := decide (0 ≤ ibI { data := #[105, 116, 107, 106, 103] } c)
def dblB (c : UInt8) : Bool := decide (0 ≤ ibI { data := #[99, 115, 61] } c)
def noneB (c : UInt8) : Bool := decide (0 ≤ ibI { data := #[105, 112, 103] } c)

/-- How many bytes the step at a place has. -/
def wid0 (code : ByteArray) (i : Nat) (h : i < code.size) : Nat :=
  if plainB code[i] then 1 else if numB code[i] then 2 else if h2 : code[i] = 112 ∧ i + 1 < code.size then 2 + code[i + 1].toNat else 0
def widN (code : ByteArray) (i : Nat) : Nat := if h : i < code.size then (if code.size - i < wid0 code i h then 0 else wid0 code i h) else 0

set_option maxHeartbeats 1000000 in
theorem width_any (code : ByteArray) (i : Nat) (w : World) (h : i < code.size) (hs : code.size ≤ maxLen) :
    Calls Tryd.prog 20 #[.string code, .int .i64 i] w (Rets (.int .i64 (widN code i)) (fun w' => w = w')) := by
  unfold maxLen at hs
  have h' : (i : Int) < code.size := by omega
  have hw0 : widN code i = if code.size - i < wid0 code i h then 0 else wid0 code i h := by unfold widN; rw [dif_pos h]
  have fin : ∀ n : Nat, wid0 code i h = n → ∀ m : Int, m = (if code.size - i < n then 0 else n : Nat) → Rets (.int .i64 (widN code i)) (fun w' => w = w') (.returned (.int .i64 m)) w := by
    intro n hn m hm
    refine ⟨?_, rfl⟩
    rw [hm, hw0, hn]
  have F := hid fin
  clear hw0 fin
  by_cases h1 : 0 ≤ ibI { data := #[99, 100, 115, 120, 114, 104, 108, 61] } code[i]
  · have e1 : wid0 code i h = 1 := by unfold wid0 plainB; simp [h1]
    have F1 := hid (F.out 1 e1)
    clear F e1
    go_enter Tryd.func20, Tryd.ntmps20
    go_wp2_with (go_at_call 29; refine (ib_any _ _ _).mono ?_; rintro e w' ⟨rfl, rfl⟩)
    all_goals go_ret
    all_goals exact F1.out _ (by rw [if_neg (by omega)]; rfl)
  · have h1' : ibI { data := #[99, 100, 115, 120, 114, 104, 108, 61] } code[i] < 0 := by omega
    by_cases h2 : 0 ≤ ibI { data := #[105, 116, 107, 106, 103] } code[i]
    · have e1 : wid0 code i h = 2 := by unfold wid0 plainB numB; simp [h1, h2]
      have F1 := hid (F.out 2 e1)
      clear F e1 h1
      go_enter Tryd.func20, Tryd.ntmps20
      go_wp2_with (go_at_call 29; refine (ib_any _ _ _).mono ?_; rintro e w' ⟨rfl, rfl⟩)
      all_goals go_ret
      all_goals exact F1.out _ (by first | (rw [if_neg (by omega)]; rfl) | (rw [if_pos (by omega)]; rfl))
    · have h2' : ibI { data := #[105, 116, 107, 106, 103] } code[i] < 0 := by omega
      by_cases h3 : code[i] = 112
      · have h3' : ((code[i].toNat : Int) == 112) = true := by rw [h3]; rfl
        by_cases h4 : i + 1 < code.size
        · have h4' : (i : Int) + 1 < code.size := by omega
          have e1 : wid0 code i h = 2 + code[i + 1].toNat := by unfold wid0; rw [show plainB code[i] = false from by simp [plainB]; omega, show numB code[i] = false from by simp [numB]; omega]; simp [h3, h4]
          have F1 := hid (F.out _ e1)
          have hb : code[i + 1].toNat < 256 := code[i + 1].toNat_lt
          clear F e1 h1 h2 h3
          go_enter Tryd.func20, Tryd.ntmps20
          go_wp2_with (go_at_call 29; refine (ib_any _ _ _).mono ?_; rintro e w' ⟨rfl, rfl⟩)
          all_goals go_ret
          all_goals exact F1.out _ (by first | (rw [if_neg (by omega)]; simp) | (rw [if_pos (by omega)]; rfl))
        · have h4' : (code.size : Int) ≤ (i : Int) + 1 := by omega
          have e1 : wid0 code i h = 0 := by unfold wid0; rw [show plainB code[i] = false from by simp [plainB]; omega, show numB code[i] = false from by simp [numB]; omega]; simp [h3, h4]
          have F1 := hid (F.out _ e1)
          clear F e1 h1 h2 h3
          go_enter Tryd.func20, Tryd.ntmps20
          go_wp2_with (go_at_call 29; refine (ib_any _ _ _).mono ?_; rintro e w' ⟨rfl, rfl⟩)
          all_goals go_ret
          all_goals exact F1.out _ (by rw [if_neg (by omega)]; rfl)
      · have h3' : ((code[i].toNat : Int) == 112) = false := by
          simp
          intro e
          exact h3 (UInt8.toNat_inj.1 (by have : (112 : UInt8).toNat = 112 := rfl; omega))
        have e1 : wid0 code i h = 0 := by unfold wid0 plainB numB; simp [h1, h2, h3]
        have F1 := hid (F.out _ e1)
        clear F e1 h1 h2 h3
        go_enter Tryd.func20, Tryd.ntmps20
        go_wp2_with (go_at_call 29; refine (ib_any _ _ _).mono ?_; rintro e w' ⟨rfl, rfl⟩)
        all_goals go_ret
        all_goals exact F1.out _ (by rw [if_neg (by omega)]; rfl)

def takeN (c : UInt8) : Nat := if dblB c then 2 else if noneB c then 0 else 1
set_option maxHeartbeats 400000 in
theorem takes_any (c : UInt8) (w : World) : Calls Tryd.prog 31 #[.int .u8 c.toNat] w (Rets (.int .i64 (takeN c)) (fun w' => w = w')) := by
  by_cases h1 : 0 ≤ ibI { data := #[99, 115, 61] } c
  · have e1 : takeN c = 2 := by unfold takeN dblB; simp [h1]
    rw [e1]; clear e1
    go_enter Tryd.func31, Tryd.ntmps31
    go_wp2_with (go_at_call 29; refine (ib_any _ _ _).mono ?_; rintro e w' ⟨rfl, rfl⟩)
    all_goals go_ret
    all_goals exact ⟨rfl, rfl⟩
  · have h1' : ibI { data := #[99, 115, 61] } c < 0 := by omega
    by_cases h2 : 0 ≤ ibI { data := #[105, 112, 103] } c
    · have e1 : takeN c = 0 := by unfold takeN dblB noneB; simp [h1, h2]
      rw [e1]; clear e1 h1
      go_enter Tryd.func31, Tryd.ntmps31
      go_wp2_with (go_at_call 29; refine (ib_any _ _ _).mono ?_; rintro e w' ⟨rfl, rfl⟩)
      all_goals go_ret
      all_goals exact ⟨rfl, rfl⟩
    · have h2' : ibI { data := #[105, 112, 103] } c < 0 := by omega
      have e1 : takeN c = 1 := by unfold takeN dblB noneB; simp [h1, h2]
      rw [e1]; clear e1 h1 h2
      go_enter Tryd.func31, Tryd.ntmps31
      go_wp2_with (go_at_call 29; refine (ib_any _ _ _).mono ?_; rintro e w' ⟨rfl, rfl⟩)
      all_goals go_ret
      all_goals exact ⟨rfl, rfl⟩

def numN (s : ByteArray) : Nat := if h : 1 < s.size then s[1].toNat else 0
set_option maxHeartbeats 400000 in
theorem number_any (s : ByteArray) (w : World) (hs : s.size ≤ maxLen) : Calls Tryd.prog 30 #[.string s] w (Rets (.int .i64 (numN s)) (fun w' => w = w')) := by
  unfold maxLen at hs
  by_cases h : 1 < s.size
  · have e1 : numN s = s[1].toNat := by unfold numN; rw [dif_pos h]
    have hb : s[1].toNat < 256 := s[1].toNat_lt
    have h' : 2 ≤ (s.size : Int) := by omega
    rw [e1]; clear e1
    go_enter Tryd.func30, Tryd.ntmps30
    go_wp2
    all_goals go_ret
    all_goals exact ⟨by simp, rfl⟩
  · have e1 : numN s = 0 := by unfold numN; rw [dif_neg h]
    have h' : (s.size : Int) < 2 := by omega
    rw [e1]; clear e1
    go_enter Tryd.func30, Tryd.ntmps30
    go_wp2
    all_goals go_ret
    all_goals exact ⟨rfl, rfl⟩

theorem ba_eq (a b : ByteArray) : (a == b) = decide (a = b) := by
  rcases a with ⟨a⟩; rcases b with ⟨b⟩
  show (a == b) = _
  by_cases h : a = b <;> simp [h]
def sameS (a b : ByteArray) : ByteArray := if a = b then { data := #[49] } else ByteArray.empty
set_option maxHeartbeats 400000 in
theorem same_any (a b : ByteArray) (w : World) : Calls Tryd.prog 35 #[.string a, .string b] w (Rets (.string (sameS a b)) (fun w' => w = w')) := by
  by_cases h : a = b
  · subst h
    have e1 : sameS a a = { data := #[49] } := by unfold sameS; rw [if_pos rfl]
    rw [e1]; clear e1
    go_enter Tryd.func35, Tryd.ntmps35
    go_wp2
    all_goals go_ret
    all_goals exact ⟨rfl, rfl⟩
  · have e1 : sameS a b = ByteArray.empty := by unfold sameS; rw [if_neg h]
    rw [e1]; clear e1
    have hne : (a.toList == b.toList) = false := by rw [← beq_toListBytes, ba_eq]; simp [h]
    go_enter Tryd.func35, Tryd.ntmps35
    go_wp2
    all_goals go_ret
    all_goals exact ⟨rfl, rfl⟩
end Go.Proofs.YtegappcdmaodjaaDoor
