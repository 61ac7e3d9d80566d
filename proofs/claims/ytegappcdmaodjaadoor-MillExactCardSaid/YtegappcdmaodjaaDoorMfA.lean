/- apiaryref06.digits walked: a number in decimal. -/
import Derived.Test.YtegappcdmaodjaaDoorSfF
import Derived.Test.YtegappcdmaodjaaDoorMiH
namespace Go.Proofs.YtegappcdmaodjaaDoor
open Go.RowKit

def digsB : ByteArray := { data := #[48, 49, 50, 51, 52, 53, 54, 55, 56, 57] }
theorem digs_one : ∀ n : Fin 10, digsB.extract n.1 (n.1 + 1) = ⟨#[UInt8.ofNat (48 + n.1)]⟩ := by decide +kernel
def decS (n : Nat) : ByteArray := ⟨(Lib.decDigits n).toArray⟩
theorem itoaS_dec (n : Nat) : itoaS n = decS n := by
  have : Lib.itoa (n : Int) = Lib.decDigits n := by unfold Lib.itoa; rw [if_neg (by omega)]; rfl
  unfold itoaS decS
  rw [this]
theorem decS_small (n : Nat) (h : n < 10) : decS n = digsB.extract n (n + 1) := by
  rw [digs_one ⟨n, h⟩]
  unfold decS
  rw [Lib.decDigits, dif_pos h]
theorem decS_big (n : Nat) (h : ¬ n < 10) : decS n = decS (n / 10) ++ digsB.extract (n % 10) (n % 10 + 1) := by
  rw [digs_one ⟨n % 10, by omega⟩]
  apply ByteArray.ext
  apply Array.ext'
  rw [ByteArray.data_append, Array.toList_append]
  show Lib.decDigits n = Lib.decDigits (n / 10) ++ [UInt8.ofNat (48 + n % 10)]
  conv => lhs; rw [Lib.decDigits, dif_neg h]
theorem decS_size (n : Nat) : (decS n).size ≤ n + 1 := by rw [← itoaS_dec]; exact itoaS_size n

set_option maxRecDepth 100000 in
set_option maxHeartbeats 2000000 in
theorem rdigits_any : ∀ (n : Nat) (_ : n ≤ 1000) (w : World), Calls Tryd.prog 39 #[.int .i64 n] w (Rets (.string (decS n)) (fun w' => ∃ m, w' = w.drewN m)) := by
  intro n
  induction n using Nat.strongRecOn with
  | ind n ih =>
    intro hn w
    by_cases h : n < 10
    · have h1 : (n : Int) < 10 := by omega
      have h2 : IntKind.i64.wrap ((n : Int) + 1) = (n : Int) + 1 := IntWalk.i64_in _ (by omega)
      have h3 : (n : Int) + 1 ≤ 10 := by omega
      have HD : Hid (digsB.extract n (n + 1) = decS n) := (decS_small n h).symm
      clear ih
      go_enter Tryd.func39, Tryd.ntmps39
      go_wp2_with fail
      go_ret
      exact ⟨congrArg (fun x => Ending.returned (Value.string x)) HD.out, 0, rfl⟩
    · have h1 : ¬ (n : Int) < 10 := by omega
      have d1 : decide ((n : Int) < 10) = false := decide_eq_false h1
      have hih := fun w => ih (n / 10) (by omega) (by omega) w
      obtain ⟨q, hq⟩ : ∃ q, q = n / 10 := ⟨_, rfl⟩
      obtain ⟨r, hr⟩ : ∃ r, r = n % 10 := ⟨_, rfl⟩
      have hr10 : r < 10 := by omega
      have t1 : IntKind.i64.wrap ((n : Int).tdiv 10) = (q : Int) := by rw [IntWalk.i64_quo _ _ (by omega)]; omega
      have t1b : IntKind.i64.wrap ((n : Int) / 10) = (q : Int) := by rw [IntWalk.i64_in _ (by omega)]; omega
      have t2b : (n : Int) % 10 = (r : Int) := by omega
      have t2 : (n : Int).tmod 10 = (r : Int) := by rw [Int.tmod_eq_emod_of_nonneg (by omega)]; omega
      have t3 : IntKind.i64.wrap ((r : Int) + 1) = (r : Int) + 1 := IntWalk.i64_in _ (by omega)
      have t4 : wrap64 ((r : Int) + 1) = (r : Int) + 1 := by unfold wrap64; omega
      have t5 : (r : Int) + 1 ≤ 10 := by omega
      have t6 : (0 : Int) ≤ (r : Int) + 1 := by omega
      have t7 : ((r : Int) + 1).toNat = r + 1 := by omega
      have HD : Hid (decS n = decS q ++ digsB.extract r (r + 1)) := by rw [hq, hr]; exact decS_big n h
      have hsz := decS_size q
      have hz1 : ¬ 9223372036854775807 < (decS q).size + 1 := by omega
      rw [← hq] at hih
      generalize decS q = sq at hih HD hsz hz1
      clear ih hq hr h
      go_enter Tryd.func39, Tryd.ntmps39
      go_wp2_with fail
      go_quiet ((go_at_call 39; refine Calls.quiet_of (hih _)))
      go_wp2_with fail
      go_ret
      exact ⟨congrArg (fun x => Ending.returned (Value.string x)) HD.out.symm, _, rfl⟩
end Go.Proofs.YtegappcdmaodjaaDoor
