/- stamp.turned walked: a word turned right by several numbers, joined. -/
import Derived.Test.YtijiggolphppbaaGreatDoorBase
import Derived.Test.YtijiggolphppbaaGreatDoorShelf
namespace Go.Proofs.YtijiggolphppbaaGreatDoor
open Go.RowKit

theorem rot_mask : ∀ n : Fin 32, 1 ≤ n.1 → bits .and .u64 (IntKind.u64.wrap (-(n.1 : Int))) 31 = 32 - (n.1 : Int) := by decide +kernel

/-- A word turned right. -/
def rotr (x : Int) (n : Nat) : Int := bits .or .u32 (x * 2 ^ (32 - n) % 4294967296) (x / 2 ^ n)

set_option maxHeartbeats 1000000 in
theorem rotl_any (x : Int) (n : Nat) (h1 : 1 ≤ n) (h2 : n ≤ 31) (w : World) :
    Calls Tryz.prog 344 #[.int .u32 x, .int .i64 (-(n : Int))] w (Rets (.int .u32 (rotr x n)) (fun w' => w = w')) := by
  obtain ⟨m, hm⟩ : ∃ m : Nat, m = 32 - n := ⟨_, rfl⟩
  have hb : bits .and .u64 (IntKind.u64.wrap (-(n : Int))) 31 = (m : Int) := by
    have := rot_mask ⟨n, by omega⟩ h1
    rw [this]
    show 32 - (n : Int) = m
    omega
  have hsub : IntKind.u64.wrap (32 - (m : Int)) = (n : Int) := by
    rw [IntKind.wrap_u64]; omega
  have hr : rotr x n = bits .or .u32 (x * 2 ^ m % 4294967296) (x / 2 ^ n) := by rw [hm]; rfl
  have HR := hid hr
  clear hr
  have m1 : min m 32 = m := by omega
  have m2 : min n 32 = n := by omega
  clear hm
  go_enter Tryz.func344, Tryz.ntmps344
  go_wp2
  go_ret
  exact ⟨by rw [HR.out]; rfl, rfl⟩

/-- A word turned right by several numbers, joined. -/
def turnedR (x : Int) (ns : List Nat) : Int := ns.foldl (fun out n => bits .xor .u32 out (rotr x n)) 0
theorem turnedR_take (x : Int) (ns : List Nat) (k : Nat) (h : k < ns.length) : turnedR x (ns.take (k + 1)) = bits .xor .u32 (turnedR x (ns.take k)) (rotr x ns[k]) := by
  unfold turnedR
  rw [List.take_succ_eq_append_getElem h, List.foldl_append]
  rfl

set_option maxHeartbeats 1000000 in
theorem sturned_any (x : Int) (ns : List Nat) (hns : ∀ n ∈ ns, 1 ≤ n ∧ n ≤ 31) (g n c : Nat) (hn : n = ns.length) (hl : ns.length ≤ 100) (w : World) (hc : ∀ i (h : i < ns.length), w.cell? ⟨g, i, none⟩ = some (.int .i64 (ns[i] : Nat))) :
    Calls Tryz.prog 302 #[.int .u32 x, .slice (some ⟨g, 0, none⟩) n c] w (Rets (.int .u32 (turnedR x ns)) (fun w' => w = w')) := by
  subst hn
  have HC := hid hc
  have HN := hid hns
  clear hc hns
  go_enter Tryz.func302, Tryz.ntmps302
  go_wp2_with fail
  go_loop [4, 9] (fun o i => ∃ k : Nat, k ≤ ns.length ∧ i = .int .i64 k ∧ o = .int .u32 (turnedR x (ns.take k))) (fun _ i => ns.length - (intOf i).toNat)
  case atStart => exact ⟨0, Nat.zero_le _, rfl, rfl⟩
  case round =>
    obtain ⟨k, hk, rfl, rfl⟩ := hrel
    by_cases hkn : k < ns.length
    · have hkn' : (k : Int) < ns.length := by omega
      have hkc := HC.out k hkn
      obtain ⟨p1, p2⟩ := HN.out _ (List.getElem_mem hkn)
      have hneg : IntKind.i64.wrap (-((ns[k] : Nat) : Int)) = -((ns[k] : Nat) : Int) := IntWalk.i64_in _ (by omega)
      go_wp2_with (go_at_call 344; refine (rotl_any x ns[k] p1 p2 _).mono ?_; rintro e w' ⟨rfl, rfl⟩)
      go_round
      case rel => exact ⟨k + 1, by omega, by go_num, by rw [turnedR_take x ns k hkn]⟩
      case measure => simp [intOf]; omega
    · obtain rfl : k = ns.length := by omega
      go_wp2_with fail
      go_ret
      exact ⟨rfl, rfl⟩
end Go.Proofs.YtijiggolphppbaaGreatDoor
