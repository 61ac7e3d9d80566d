/- apiaryref20 walked: Set, Apart. -/
import Derived.Test.YtfjihepjeafpmaaBrR
namespace Go.Proofs.Ytfjihepjeafpmaa
open Go.RowKit
section
variable {w : World} {u : Nat} {v : Value} {ls : List Ld} {A : List Bool}

set_option maxRecDepth 100000 in
set_option maxHeartbeats 1000000 in
theorem rapart_any (x y : Int) (h : RfAt w u v ls A) :
    Calls Try.prog 24 #[.pointer (some ⟨u, 0, none⟩), .int .i64 x, .int .i64 y] w (Rets (.bool (apartA A x y)) (fun w' => w = w')) := by
  have H := hid h
  clear h
  unfold apartA
  by_cases n1 : nodeB x = true
  · by_cases n2 : nodeB y = true
    · obtain ⟨a1, a2⟩ := (nodeB_iff x).1 n1
      obtain ⟨b1, b2⟩ := (nodeB_iff y).1 n2
      obtain ⟨n, rfl, hn⟩ := toNat_of a1
      obtain ⟨m, rfl, hm⟩ := toNat_of b1
      have cA := H.out.cA (n * 7 + m) (by omega)
      rw [hn, hm]
      have cA2 : w.cell? ⟨u, 1 + n * 7 + m, none⟩ = some (.bool (A.getD (n * 7 + m) false)) := by rw [Nat.add_assoc]; exact cA
      have e1 : (n : Int) < 7 := by omega
      have e2 : (m : Int) < 7 := by omega
      rw [n1, n2]
      simp only [Bool.true_and]
      generalize A.getD (n * 7 + m) false = B at *
      clear hn hm a1 a2 b1 b2
      go_enter Try.func24, Try.ntmps24
      go_wp2_with (go_at_call 29; refine (node_any _ _).mono ?_; rintro e w' ⟨rfl, rfl⟩)
      go_ret
      exact ⟨rfl, rfl⟩
    · have n2' : nodeB y = false := by simpa using n2
      rw [n1, n2']
      simp only [Bool.false_and, Bool.and_false]
      clear n2
      go_enter Try.func24, Try.ntmps24
      go_wp2_with (go_at_call 29; refine (node_any _ _).mono ?_; rintro e w' ⟨rfl, rfl⟩)
      go_ret
      exact ⟨rfl, rfl⟩
  · have n1' : nodeB x = false := by simpa using n1
    rw [n1']
    simp only [Bool.false_and]
    clear n1
    go_enter Try.func24, Try.ntmps24
    go_wp2_with (go_at_call 29; refine (node_any _ _).mono ?_; rintro e w' ⟨rfl, rfl⟩)
    go_ret
    exact ⟨rfl, rfl⟩

set_option maxRecDepth 100000 in
set_option maxHeartbeats 1000000 in
theorem rset_any (x y : Int) (b : Bool) (h : RfAt w u v ls A) :
    Calls Try.prog 20 #[.pointer (some ⟨u, 0, none⟩), .int .i64 x, .int .i64 y, .bool b] w (Rets (.tuple #[]) (RfPost w u v ls (setA A x y b))) := by
  have hpost := hid h.post
  have H := hid h
  clear h
  unfold setA
  by_cases n1 : nodeB x = true
  · by_cases n2 : nodeB y = true
    · by_cases n3 : x = y
      · have b3 : (x == y) = true := by simpa using n3
        rw [pairB_node, n1, n2, b3]
        simp only [Bool.true_and, Bool.not_true, Bool.false_eq_true, if_false]
        clear n3
        go_enter Try.func20, Try.ntmps20
        go_wp2_with (go_at_call 29; refine (node_any _ _).mono ?_; rintro e w' ⟨rfl, rfl⟩)
        go_end0
        exact ⟨rfl, hpost.out⟩
      · obtain ⟨a1, a2⟩ := (nodeB_iff x).1 n1
        obtain ⟨b1, b2⟩ := (nodeB_iff y).1 n2
        obtain ⟨n, rfl, hn⟩ := toNat_of a1
        obtain ⟨m, rfl, hm⟩ := toNat_of b1
        have b3 : ((n : Int) == (m : Int)) = false := by simpa using n3
        rw [pairB_node, n1, n2, b3, hn, hm]
        simp only [Bool.true_and, Bool.not_false, if_true]
        have h1 := H.out.setA (n * 7 + m) b
        have h2 := h1.setA (m * 7 + n) b
        have s1 : ∀ a c, 1 + a * 7 + c = 1 + (a * 7 + c) := fun a c => by omega
        have cA1 : w.cell? ⟨u, 1 + n * 7 + m, none⟩ = some (.bool (A.getD (n * 7 + m) false)) := by rw [s1]; exact H.out.cA (n * 7 + m) (by omega)
        have cA2 : w.cell? ⟨u, 1 + m * 7 + n, none⟩ = some (.bool (A.getD (m * 7 + n) false)) := by rw [s1]; exact H.out.cA (m * 7 + n) (by omega)
        have cA3 : (w.setCell ⟨u, 1 + n * 7 + m, none⟩ (.bool b)).cell? ⟨u, 1 + m * 7 + n, none⟩ = some (.bool ((A.set (n * 7 + m) b).getD (m * 7 + n) false)) := by rw [s1, s1]; exact h1.cA (m * 7 + n) (by omega)
        have fA1 : w.frozen? ⟨u, 1 + n * 7 + m, none⟩ = false := H.out.fz _
        have fA2 : w.frozen? ⟨u, 1 + m * 7 + n, none⟩ = false := H.out.fz _
        have e1 : (n : Int) < 7 := by omega
        have e2 : (m : Int) < 7 := by omega
        have hne : ¬ m * 7 + n = n * 7 + m := by omega
        have H2 := hid h2
        clear hn hm a1 a2 b1 b2 h1 h2 n3 s1
        go_enter Try.func20, Try.ntmps20
        go_wp2_with (go_at_call 29; refine (node_any _ _).mono ?_; rintro e w' ⟨rfl, rfl⟩)
        go_end0
        refine ⟨rfl, v, ?_, ?_, fun _ h => .inl h⟩
        · have := H2.out
          rw [← Nat.add_assoc, ← Nat.add_assoc] at this
          exact this
        · exact ((Chg.refl (fun k => k = u ∨ v.ownBlock = some k) w).setCell (p := ⟨u, 1 + n * 7 + m, none⟩) (fun _ => .inl rfl) _).setCell (p := ⟨u, 1 + m * 7 + n, none⟩) (fun _ => .inl rfl) _
    · have n2' : nodeB y = false := by simpa using n2
      rw [pairB_node, n1, n2']
      simp only [Bool.true_and, Bool.false_and, Bool.false_eq_true, if_false]
      clear n2
      go_enter Try.func20, Try.ntmps20
      go_wp2_with (go_at_call 29; refine (node_any _ _).mono ?_; rintro e w' ⟨rfl, rfl⟩)
      go_end0
      exact ⟨rfl, hpost.out⟩
  · have n1' : nodeB x = false := by simpa using n1
    rw [pairB_node, n1']
    simp only [Bool.false_and, Bool.false_eq_true, if_false]
    clear n1
    go_enter Try.func20, Try.ntmps20
    go_wp2_with (go_at_call 29; refine (node_any _ _).mono ?_; rintro e w' ⟨rfl, rfl⟩)
    go_end0
    exact ⟨rfl, hpost.out⟩
end
end Go.Proofs.Ytfjihepjeafpmaa
