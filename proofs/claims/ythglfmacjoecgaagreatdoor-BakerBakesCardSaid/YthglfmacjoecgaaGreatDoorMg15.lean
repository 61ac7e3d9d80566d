/- Texts of the proof, one behind the other: apiaryref06.step, a theorem a letter (printed by genr.py): c d s = x j g. -/
import Derived.Test.YthglfmacjoecgaaGreatDoorMg14
namespace Go.Proofs.YthglfmacjoecgaaGreatDoor
open Go.RowKit

theorem isEmpty_false {b : ByteArray} (hz : ¬ b = { data := #[] }) : b.toList.isEmpty = false := by
  have e : (b.toList == (ByteArray.mk #[]).toList) = false := by rw [← beq_toListBytes, ba_eqM]; simp; exact hz
  have e2 : (ByteArray.mk #[]).toList = [] := by unfold ByteArray.toList ByteArray.toList.loop; simp [ByteArray.size]
  rw [e2] at e
  generalize b.toList = q at e ⊢
  cases q with
  | nil => simp at e
  | cons => rfl

set_option maxRecDepth 100000 in
set_option maxHeartbeats 2000000 in
theorem rstep_c {w : World} {g cap N : Nat} {r : List ByteArray} {a b : ByteArray} (hl : RowT w g cap N (r ++ [a, b])) (hr : r.length + 1 ≤ 8) (ha : a.size ≤ 512) (hb : b.size ≤ 512) (inV : Value)
    (s : ByteArray) (hs1 : 1 ≤ s.size) (hs : s.size = 1) (hc : s[0] = 99) (hsz : (a ++ b).size ≤ 512) :
    Calls Tryz.prog 112 #[.slice (some ⟨g, 0, none⟩) N cap, .string s, inV] w (StepOk w (r ++ [a ++ b]) (-1)) := by
  have hN : N = r.length + 2 := by rw [hl.len]; simp
  obtain ⟨R, hR⟩ : ∃ R, R = r.length := ⟨_, rfl⟩
  have hc' : ((s[0].toNat : Nat) : Int) = 99 := by rw [hc]; rfl
  have hs0 : (0 : Int) < s.size := by omega
  have ht1 : decide ((1 : Int) < s.size) = false := by simp; omega
  have p0 : ∀ w : World, Calls Tryz.prog 130 #[.int .u8 99] w (Rets (.tuple #[.int .i64 2, .int .i64 1]) (fun w' => w = w')) := fun w => rpop_any 99 w
  have t0 : R ≤ 900 := by omega
  have t1 : decide ((N : Int) < 2) = false := by simp; omega
  have t2 : IntKind.i64.wrap ((N : Int) - 2) = (R : Int) := by rw [IntWalk.i64_in _ (by omega)]; omega
  have t3 : IntKind.i64.wrap ((R : Int) + 1) = (R : Int) + 1 := IntWalk.i64_in _ (by omega)
  have t4 : decide ((8 : Int) < (R : Int) + 1) = false := by simp; omega
  have hcap := hl.cap
  have t5 : (R : Int) ≤ (cap : Int) := by omega
  obtain ⟨R1, hR1⟩ : ∃ R1, R1 = R + 1 := ⟨_, rfl⟩
  have t6 : IntKind.i64.wrap ((N : Int) - 1) = (R1 : Int) := by rw [IntWalk.i64_in _ (by omega)]; omega
  have t7 : (R1 : Int) < (N : Int) := by omega
  have c1 : w.cell? ⟨g, R1, none⟩ = some (.string b) := hl.cellAt R1 b (by rw [hR1, hR]; simp)
  have t8 : (R : Int) < (N : Int) := by omega
  have c0 : w.cell? ⟨g, R, none⟩ = some (.string a) := hl.cellAt R a (by rw [hR]; simp)
  have t9 : decide ((512 : Int) < (a.size : Int) + (b.size : Int)) = false := by simp at hsz; simp; omega
  have t10 : ¬ 9223372036854775807 < a.size + b.size := by omega
  have hg : ¬ w.heap.size ≤ g := by have := hl.lt; omega
  have HL := hid hl
  have HN := hid hN
  have HR := hid hR
  have HS := hid hs
  clear hl hs hN hcap hr hR hR1 hsz ha hb
  go_enter Tryz.func112, Tryz.ntmps112
  go_wp2_with (first | (go_at_call 130; refine (p0 _).mono ?_; rintro e w' ⟨rfl, rfl⟩) | (guard_target =~ wpList _ _ _ (Oper.mk (some 60) _ _ _ _ _ :: _) _ _; refine wpList_fresh_rest rfl _ _ rfl HL.out rfl rfl (r := r) (by rw [HR.out]; simp) HR.out (by omega) ?_; intro g1 cap1 w1 hf1; have d0 := hf1.cell c0 hg; have d1 := hf1.cell c1 hg) | (guard_target =~ wpList _ _ _ (Oper.mk (some 175) _ _ _ _ _ :: _) _ _; refine wpList_fresh_new rfl _ _ rfl hf1 (by omega) rfl _ rfl ?_; intro g2 cap2 w2 hf2))
  refine bodyPost_ret (v := .tuple #[.slice (some ⟨g2, 0, none⟩) (R + 1) cap2, .int .i64 (-1), .int .i64 0]) (by simp [results, Tryz.results112, go_sem] <;> rfl) rfl ?_
  exact hf2.ok _

set_option maxRecDepth 100000 in
set_option maxHeartbeats 2000000 in
theorem rstep_c33 {w : World} {g cap N : Nat} {r : List ByteArray} {a b : ByteArray} (hl : RowT w g cap N (r ++ [a, b])) (hr : r.length + 1 ≤ 8) (ha : a.size ≤ 512) (hb : b.size ≤ 512) (inV : Value)
    (s : ByteArray) (hs1 : 1 ≤ s.size) (hs : s.size = 1) (hc : s[0] = 99) (hsz : 512 < (a ++ b).size) :
    Calls Tryz.prog 112 #[.slice (some ⟨g, 0, none⟩) N cap, .string s, inV] w (Rets (.tuple #[.slice none 0 0, .int .i64 (-1), .int .i64 33]) (Chg (fun _ => False) w)) := by
  have hN : N = r.length + 2 := by rw [hl.len]; simp
  obtain ⟨R, hR⟩ : ∃ R, R = r.length := ⟨_, rfl⟩
  have hc' : ((s[0].toNat : Nat) : Int) = 99 := by rw [hc]; rfl
  have hs0 : (0 : Int) < s.size := by omega
  have ht1 : decide ((1 : Int) < s.size) = false := by simp; omega
  have p0 : ∀ w : World, Calls Tryz.prog 130 #[.int .u8 99] w (Rets (.tuple #[.int .i64 2, .int .i64 1]) (fun w' => w = w')) := fun w => rpop_any 99 w
  have t0 : R ≤ 900 := by omega
  have t1 : decide ((N : Int) < 2) = false := by simp; omega
  have t2 : IntKind.i64.wrap ((N : Int) - 2) = (R : Int) := by rw [IntWalk.i64_in _ (by omega)]; omega
  have t3 : IntKind.i64.wrap ((R : Int) + 1) = (R : Int) + 1 := IntWalk.i64_in _ (by omega)
  have t4 : decide ((8 : Int) < (R : Int) + 1) = false := by simp; omega
  have hcap := hl.cap
  have t5 : (R : Int) ≤ (cap : Int) := by omega
  obtain ⟨R1, hR1⟩ : ∃ R1, R1 = R + 1 := ⟨_, rfl⟩
  have t6 : IntKind.i64.wrap ((N : Int) - 1) = (R1 : Int) := by rw [IntWalk.i64_in _ (by omega)]; omega
  have t7 : (R1 : Int) < (N : Int) := by omega
  have c1 : w.cell? ⟨g, R1, none⟩ = some (.string b) := hl.cellAt R1 b (by rw [hR1, hR]; simp)
  have t8 : (R : Int) < (N : Int) := by omega
  have c0 : w.cell? ⟨g, R, none⟩ = some (.string a) := hl.cellAt R a (by rw [hR]; simp)
  have t9 : decide ((512 : Int) < (a.size : Int) + (b.size : Int)) = true := by simp at hsz; simp; omega
  have t10 : ¬ 9223372036854775807 < a.size + b.size := by omega
  have hg : ¬ w.heap.size ≤ g := by have := hl.lt; omega
  have HL := hid hl
  have HN := hid hN
  have HR := hid hR
  have HS := hid hs
  clear hl hs hN hcap hr hR hR1 hsz ha hb
  go_enter Tryz.func112, Tryz.ntmps112
  go_wp2_with (first | (go_at_call 130; refine (p0 _).mono ?_; rintro e w' ⟨rfl, rfl⟩) | (guard_target =~ wpList _ _ _ (Oper.mk (some 60) _ _ _ _ _ :: _) _ _; refine wpList_fresh_rest rfl _ _ rfl HL.out rfl rfl (r := r) (by rw [HR.out]; simp) HR.out (by omega) ?_; intro g1 cap1 w1 hf1; have d0 := hf1.cell c0 hg; have d1 := hf1.cell c1 hg))
  refine bodyPost_ret (v := .tuple #[.slice none 0 0, .int .i64 (-1), .int .i64 33]) (by simp [results, Tryz.results112, go_sem] <;> rfl) rfl ?_
  exact ⟨rfl, fresh_chg hf1.chg⟩

set_option maxRecDepth 100000 in
set_option maxHeartbeats 2000000 in
theorem rstep_d {w : World} {g cap N : Nat} {r : List ByteArray} {b : ByteArray} (hl : RowT w g cap N (r ++ [b])) (hr : r.length + 2 ≤ 8) (hb : b.size ≤ 512) (inV : Value)
    (s : ByteArray) (hs1 : 1 ≤ s.size) (hs : s.size = 1) (hc : s[0] = 100) :
    Calls Tryz.prog 112 #[.slice (some ⟨g, 0, none⟩) N cap, .string s, inV] w (StepOk w (r ++ [b] ++ [b]) (-1)) := by
  have hN : N = r.length + 1 := by rw [hl.len]; simp
  obtain ⟨R, hR⟩ : ∃ R, R = r.length := ⟨_, rfl⟩
  have hc' : ((s[0].toNat : Nat) : Int) = 100 := by rw [hc]; rfl
  have hs0 : (0 : Int) < s.size := by omega
  have ht1 : decide ((1 : Int) < s.size) = false := by simp; omega
  have p0 : ∀ w : World, Calls Tryz.prog 130 #[.int .u8 100] w (Rets (.tuple #[.int .i64 1, .int .i64 2]) (fun w' => w = w')) := fun w => rpop_any 100 w
  have t0 : R ≤ 900 := by omega
  have t1 : decide ((N : Int) < 1) = false := by simp; omega
  have t2 : IntKind.i64.wrap ((N : Int) - 1) = (R : Int) := by rw [IntWalk.i64_in _ (by omega)]; omega
  have t3 : IntKind.i64.wrap ((R : Int) + 2) = (R : Int) + 2 := IntWalk.i64_in _ (by omega)
  have t4 : decide ((8 : Int) < (R : Int) + 2) = false := by simp; omega
  have hcap := hl.cap
  have t5 : (R : Int) ≤ (cap : Int) := by omega
  have t8 : (R : Int) < (N : Int) := by omega
  have c0 : w.cell? ⟨g, R, none⟩ = some (.string b) := hl.cellAt R b (by rw [hR]; simp)
  have t9 : decide ((512 : Int) < (b.size : Int)) = false := by simp; omega
  have hg : ¬ w.heap.size ≤ g := by have := hl.lt; omega
  have HL := hid hl
  have HN := hid hN
  have HR := hid hR
  have HS := hid hs
  clear hl hs hN hcap hr hR hb
  go_enter Tryz.func112, Tryz.ntmps112
  go_wp2_with (first | (go_at_call 130; refine (p0 _).mono ?_; rintro e w' ⟨rfl, rfl⟩) | (guard_target =~ wpList _ _ _ (Oper.mk (some 60) _ _ _ _ _ :: _) _ _; refine wpList_fresh_rest rfl _ _ rfl HL.out rfl rfl (r := r) (by rw [HR.out]; simp) HR.out (by omega) ?_; intro g1 cap1 w1 hf1; have d0 := hf1.cell c0 hg) | (guard_target =~ wpList _ _ _ (Oper.mk (some 105) _ _ _ _ _ :: _) _ _; refine wpList_fresh_new rfl _ _ rfl hf1 (by omega) rfl _ rfl ?_; intro g2 cap2 w2 hf2) | (guard_target =~ wpList _ _ _ (Oper.mk (some 175) _ _ _ _ _ :: _) _ _; refine wpList_fresh_new rfl _ _ rfl hf2 (by omega) rfl _ rfl ?_; intro g3 cap3 w3 hf3))
  refine bodyPost_ret (v := .tuple #[.slice (some ⟨g3, 0, none⟩) (R + 1 + 1) cap3, .int .i64 (-1), .int .i64 0]) (by simp [results, Tryz.results112, go_sem] <;> rfl) rfl ?_
  exact hf3.ok _

set_option maxRecDepth 100000 in
set_option maxHeartbeats 2000000 in
theorem rstep_s {w : World} {g cap N : Nat} {r : List ByteArray} {a b : ByteArray} (hl : RowT w g cap N (r ++ [a, b])) (hr : r.length + 2 ≤ 8) (ha : a.size ≤ 512) (_ : b.size ≤ 512) (inV : Value)
    (s : ByteArray) (hs1 : 1 ≤ s.size) (hs : s.size = 1) (hc : s[0] = 115) :
    Calls Tryz.prog 112 #[.slice (some ⟨g, 0, none⟩) N cap, .string s, inV] w (StepOk w (r ++ [b] ++ [a]) (-1)) := by
  have hN : N = r.length + 2 := by rw [hl.len]; simp
  obtain ⟨R, hR⟩ : ∃ R, R = r.length := ⟨_, rfl⟩
  have hc' : ((s[0].toNat : Nat) : Int) = 115 := by rw [hc]; rfl
  have hs0 : (0 : Int) < s.size := by omega
  have ht1 : decide ((1 : Int) < s.size) = false := by simp; omega
  have p0 : ∀ w : World, Calls Tryz.prog 130 #[.int .u8 115] w (Rets (.tuple #[.int .i64 2, .int .i64 2]) (fun w' => w = w')) := fun w => rpop_any 115 w
  have t0 : R ≤ 900 := by omega
  have t1 : decide ((N : Int) < 2) = false := by simp; omega
  have t2 : IntKind.i64.wrap ((N : Int) - 2) = (R : Int) := by rw [IntWalk.i64_in _ (by omega)]; omega
  have t3 : IntKind.i64.wrap ((R : Int) + 2) = (R : Int) + 2 := IntWalk.i64_in _ (by omega)
  have t4 : decide ((8 : Int) < (R : Int) + 2) = false := by simp; omega
  have hcap := hl.cap
  have t5 : (R : Int) ≤ (cap : Int) := by omega
  obtain ⟨R1, hR1⟩ : ∃ R1, R1 = R + 1 := ⟨_, rfl⟩
  have t6 : IntKind.i64.wrap ((N : Int) - 1) = (R1 : Int) := by rw [IntWalk.i64_in _ (by omega)]; omega
  have t7 : (R1 : Int) < (N : Int) := by omega
  have c1 : w.cell? ⟨g, R1, none⟩ = some (.string b) := hl.cellAt R1 b (by rw [hR1, hR]; simp)
  have t8 : (R : Int) < (N : Int) := by omega
  have c0 : w.cell? ⟨g, R, none⟩ = some (.string a) := hl.cellAt R a (by rw [hR]; simp)
  have t9 : decide ((512 : Int) < (a.size : Int)) = false := by simp; omega
  have hg : ¬ w.heap.size ≤ g := by have := hl.lt; omega
  have HL := hid hl
  have HN := hid hN
  have HR := hid hR
  have HS := hid hs
  clear hl hs hN hcap hr hR hR1 ha
  go_enter Tryz.func112, Tryz.ntmps112
  go_wp2_with (first | (go_at_call 130; refine (p0 _).mono ?_; rintro e w' ⟨rfl, rfl⟩) | (guard_target =~ wpList _ _ _ (Oper.mk (some 60) _ _ _ _ _ :: _) _ _; refine wpList_fresh_rest rfl _ _ rfl HL.out rfl rfl (r := r) (by rw [HR.out]; simp) HR.out (by omega) ?_; intro g1 cap1 w1 hf1; have d0 := hf1.cell c0 hg; have d1 := hf1.cell c1 hg) | (guard_target =~ wpList _ _ _ (Oper.mk (some 98) _ _ _ _ _ :: _) _ _; refine wpList_fresh_new rfl _ _ rfl hf1 (by omega) rfl _ rfl ?_; intro g2 cap2 w2 hf2) | (guard_target =~ wpList _ _ _ (Oper.mk (some 175) _ _ _ _ _ :: _) _ _; refine wpList_fresh_new rfl _ _ rfl hf2 (by omega) rfl _ rfl ?_; intro g3 cap3 w3 hf3))
  refine bodyPost_ret (v := .tuple #[.slice (some ⟨g3, 0, none⟩) (R + 1 + 1) cap3, .int .i64 (-1), .int .i64 0]) (by simp [results, Tryz.results112, go_sem] <;> rfl) rfl ?_
  exact hf3.ok _

set_option maxRecDepth 100000 in
set_option maxHeartbeats 2000000 in
theorem rstep_eq1 {w : World} {g cap N : Nat} {r : List ByteArray} {a b : ByteArray} (hl : RowT w g cap N (r ++ [a, b])) (hr : r.length + 1 ≤ 8) (_ : a.size ≤ 512) (hb : b.size ≤ 512) (inV : Value)
    (s : ByteArray) (hs1 : 1 ≤ s.size) (hs : s.size = 1) (hc : s[0] = 61) (hab : a = b) :
    Calls Tryz.prog 112 #[.slice (some ⟨g, 0, none⟩) N cap, .string s, inV] w (StepOk w (r ++ [{ data := #[49] }]) (-1)) := by
  have hN : N = r.length + 2 := by rw [hl.len]; simp
  obtain ⟨R, hR⟩ : ∃ R, R = r.length := ⟨_, rfl⟩
  have hc' : ((s[0].toNat : Nat) : Int) = 61 := by rw [hc]; rfl
  have hs0 : (0 : Int) < s.size := by omega
  have ht1 : decide ((1 : Int) < s.size) = false := by simp; omega
  have p0 : ∀ w : World, Calls Tryz.prog 130 #[.int .u8 61] w (Rets (.tuple #[.int .i64 2, .int .i64 1]) (fun w' => w = w')) := fun w => rpop_any 61 w
  have t0 : R ≤ 900 := by omega
  have t1 : decide ((N : Int) < 2) = false := by simp; omega
  have t2 : IntKind.i64.wrap ((N : Int) - 2) = (R : Int) := by rw [IntWalk.i64_in _ (by omega)]; omega
  have t3 : IntKind.i64.wrap ((R : Int) + 1) = (R : Int) + 1 := IntWalk.i64_in _ (by omega)
  have t4 : decide ((8 : Int) < (R : Int) + 1) = false := by simp; omega
  have hcap := hl.cap
  have t5 : (R : Int) ≤ (cap : Int) := by omega
  obtain ⟨R1, hR1⟩ : ∃ R1, R1 = R + 1 := ⟨_, rfl⟩
  have t6 : IntKind.i64.wrap ((N : Int) - 1) = (R1 : Int) := by rw [IntWalk.i64_in _ (by omega)]; omega
  have t7 : (R1 : Int) < (N : Int) := by omega
  have c1 : w.cell? ⟨g, R1, none⟩ = some (.string b) := hl.cellAt R1 b (by rw [hR1, hR]; simp)
  have t8 : (R : Int) < (N : Int) := by omega
  have c0 : w.cell? ⟨g, R, none⟩ = some (.string a) := hl.cellAt R a (by rw [hR]; simp)
  subst hab
  have hg : ¬ w.heap.size ≤ g := by have := hl.lt; omega
  have HL := hid hl
  have HN := hid hN
  have HR := hid hR
  have HS := hid hs
  clear hl hs hN hcap hr hR hR1 hb
  go_enter Tryz.func112, Tryz.ntmps112
  go_wp2_with (first | (go_at_call 130; refine (p0 _).mono ?_; rintro e w' ⟨rfl, rfl⟩) | (guard_target =~ wpList _ _ _ (Oper.mk (some 60) _ _ _ _ _ :: _) _ _; refine wpList_fresh_rest rfl _ _ rfl HL.out rfl rfl (r := r) (by rw [HR.out]; simp) HR.out (by omega) ?_; intro g1 cap1 w1 hf1; have d0 := hf1.cell c0 hg; have d1 := hf1.cell c1 hg) | (guard_target =~ wpList _ _ _ (Oper.mk (some 175) _ _ _ _ _ :: _) _ _; refine wpList_fresh_new rfl _ _ rfl hf1 (by omega) rfl _ rfl ?_; intro g2 cap2 w2 hf2))
  refine bodyPost_ret (v := .tuple #[.slice (some ⟨g2, 0, none⟩) (R + 1) cap2, .int .i64 (-1), .int .i64 0]) (by simp [results, Tryz.results112, go_sem] <;> rfl) rfl ?_
  exact hf2.ok _

set_option maxRecDepth 100000 in
set_option maxHeartbeats 2000000 in
theorem rstep_eq0 {w : World} {g cap N : Nat} {r : List ByteArray} {a b : ByteArray} (hl : RowT w g cap N (r ++ [a, b])) (hr : r.length + 1 ≤ 8) (_ : a.size ≤ 512) (_ : b.size ≤ 512) (inV : Value)
    (s : ByteArray) (hs1 : 1 ≤ s.size) (hs : s.size = 1) (hc : s[0] = 61) (hab : ¬ a = b) :
    Calls Tryz.prog 112 #[.slice (some ⟨g, 0, none⟩) N cap, .string s, inV] w (StepOk w (r ++ [{ data := #[] }]) (-1)) := by
  have hN : N = r.length + 2 := by rw [hl.len]; simp
  obtain ⟨R, hR⟩ : ∃ R, R = r.length := ⟨_, rfl⟩
  have hc' : ((s[0].toNat : Nat) : Int) = 61 := by rw [hc]; rfl
  have hs0 : (0 : Int) < s.size := by omega
  have ht1 : decide ((1 : Int) < s.size) = false := by simp; omega
  have p0 : ∀ w : World, Calls Tryz.prog 130 #[.int .u8 61] w (Rets (.tuple #[.int .i64 2, .int .i64 1]) (fun w' => w = w')) := fun w => rpop_any 61 w
  have t0 : R ≤ 900 := by omega
  have t1 : decide ((N : Int) < 2) = false := by simp; omega
  have t2 : IntKind.i64.wrap ((N : Int) - 2) = (R : Int) := by rw [IntWalk.i64_in _ (by omega)]; omega
  have t3 : IntKind.i64.wrap ((R : Int) + 1) = (R : Int) + 1 := IntWalk.i64_in _ (by omega)
  have t4 : decide ((8 : Int) < (R : Int) + 1) = false := by simp; omega
  have hcap := hl.cap
  have t5 : (R : Int) ≤ (cap : Int) := by omega
  obtain ⟨R1, hR1⟩ : ∃ R1, R1 = R + 1 := ⟨_, rfl⟩
  have t6 : IntKind.i64.wrap ((N : Int) - 1) = (R1 : Int) := by rw [IntWalk.i64_in _ (by omega)]; omega
  have t7 : (R1 : Int) < (N : Int) := by omega
  have c1 : w.cell? ⟨g, R1, none⟩ = some (.string b) := hl.cellAt R1 b (by rw [hR1, hR]; simp)
  have t8 : (R : Int) < (N : Int) := by omega
  have c0 : w.cell? ⟨g, R, none⟩ = some (.string a) := hl.cellAt R a (by rw [hR]; simp)
  have hab2 : (a.toList == b.toList) = false := by rw [← beq_toListBytes, ba_eqM]; simp [hab]
  have hg : ¬ w.heap.size ≤ g := by have := hl.lt; omega
  have HL := hid hl
  have HN := hid hN
  have HR := hid hR
  have HS := hid hs
  clear hl hs hN hcap hr hR hR1 hab
  go_enter Tryz.func112, Tryz.ntmps112
  go_wp2_with (first | (go_at_call 130; refine (p0 _).mono ?_; rintro e w' ⟨rfl, rfl⟩) | (guard_target =~ wpList _ _ _ (Oper.mk (some 60) _ _ _ _ _ :: _) _ _; refine wpList_fresh_rest rfl _ _ rfl HL.out rfl rfl (r := r) (by rw [HR.out]; simp) HR.out (by omega) ?_; intro g1 cap1 w1 hf1; have d0 := hf1.cell c0 hg; have d1 := hf1.cell c1 hg) | (guard_target =~ wpList _ _ _ (Oper.mk (some 175) _ _ _ _ _ :: _) _ _; refine wpList_fresh_new rfl _ _ rfl hf1 (by omega) rfl _ rfl ?_; intro g2 cap2 w2 hf2))
  refine bodyPost_ret (v := .tuple #[.slice (some ⟨g2, 0, none⟩) (R + 1) cap2, .int .i64 (-1), .int .i64 0]) (by simp [results, Tryz.results112, go_sem] <;> rfl) rfl ?_
  exact hf2.ok _

set_option maxRecDepth 100000 in
set_option maxHeartbeats 2000000 in
theorem rstep_x {w : World} {g cap N : Nat} {r : List ByteArray} {b : ByteArray} (hl : RowT w g cap N (r ++ [b])) (hr : r.length + 0 ≤ 8) (_ : b.size ≤ 512) (inV : Value)
    (s : ByteArray) (hs1 : 1 ≤ s.size) (hs : s.size = 1) (hc : s[0] = 120) :
    Calls Tryz.prog 112 #[.slice (some ⟨g, 0, none⟩) N cap, .string s, inV] w (StepOk w (r) (-1)) := by
  have hN : N = r.length + 1 := by rw [hl.len]; simp
  obtain ⟨R, hR⟩ : ∃ R, R = r.length := ⟨_, rfl⟩
  have hc' : ((s[0].toNat : Nat) : Int) = 120 := by rw [hc]; rfl
  have hs0 : (0 : Int) < s.size := by omega
  have ht1 : decide ((1 : Int) < s.size) = false := by simp; omega
  have p0 : ∀ w : World, Calls Tryz.prog 130 #[.int .u8 120] w (Rets (.tuple #[.int .i64 1, .int .i64 0]) (fun w' => w = w')) := fun w => rpop_any 120 w
  have t0 : R ≤ 900 := by omega
  have t1 : decide ((N : Int) < 1) = false := by simp; omega
  have t2 : IntKind.i64.wrap ((N : Int) - 1) = (R : Int) := by rw [IntWalk.i64_in _ (by omega)]; omega
  have t3 : IntKind.i64.wrap (R : Int) = (R : Int) := IntWalk.i64_in _ (by omega)
  have t4 : decide ((8 : Int) < (R : Int)) = false := by simp; omega
  have hcap := hl.cap
  have t5 : (R : Int) ≤ (cap : Int) := by omega
  have t8 : (R : Int) < (N : Int) := by omega
  have c0 : w.cell? ⟨g, R, none⟩ = some (.string b) := hl.cellAt R b (by rw [hR]; simp)
  have hg : ¬ w.heap.size ≤ g := by have := hl.lt; omega
  have HL := hid hl
  have HN := hid hN
  have HR := hid hR
  have HS := hid hs
  clear hl hs hN hcap hr hR
  go_enter Tryz.func112, Tryz.ntmps112
  go_wp2_with (first | (go_at_call 130; refine (p0 _).mono ?_; rintro e w' ⟨rfl, rfl⟩) | (guard_target =~ wpList _ _ _ (Oper.mk (some 60) _ _ _ _ _ :: _) _ _; refine wpList_fresh_rest rfl _ _ rfl HL.out rfl rfl (r := r) (by rw [HR.out]; simp) HR.out (by omega) ?_; intro g1 cap1 w1 hf1; have d0 := hf1.cell c0 hg))
  refine bodyPost_ret (v := .tuple #[.slice (some ⟨g1, 0, none⟩) (R) cap1, .int .i64 (-1), .int .i64 0]) (by simp [results, Tryz.results112, go_sem] <;> rfl) rfl ?_
  exact hf1.ok _

set_option maxRecDepth 100000 in
set_option maxHeartbeats 2000000 in
theorem rstep_j0 {w : World} {g cap N : Nat} {r : List ByteArray} {b : ByteArray} (hl : RowT w g cap N (r ++ [b])) (hr : r.length + 0 ≤ 8) (hb : b.size ≤ 512) (inV : Value)
    (s : ByteArray) (hs1 : 1 ≤ s.size) (hs : 1 < s.size) (hs2 : s.size ≤ 300) (hc : s[0] = 106) (hz : b = { data := #[] }) :
    Calls Tryz.prog 112 #[.slice (some ⟨g, 0, none⟩) N cap, .string s, inV] w (StepOk w (r) ((numN s : Nat))) := by
  have hN : N = r.length + 1 := by rw [hl.len]; simp
  obtain ⟨R, hR⟩ : ∃ R, R = r.length := ⟨_, rfl⟩
  have hc' : ((s[0].toNat : Nat) : Int) = 106 := by rw [hc]; rfl
  have hs0 : (0 : Int) < s.size := by omega
  have ht1 : decide ((1 : Int) < s.size) = true := by simp; omega
  have ht2 : (1 : Int) < s.size := by omega
  obtain ⟨n, hn⟩ : ∃ n, n = numN s := ⟨_, rfl⟩
  have hn2 : numN s = s[1].toNat := by unfold numN; rw [dif_pos hs]
  have hn' : ((s[1].toNat : Nat) : Int) = (n : Int) := by rw [hn, hn2]
  have hn256 : n < 256 := by have := s[1].toNat_lt; omega
  have ht3 : IntKind.i64.wrap (n : Int) = (n : Int) := IntWalk.i64_in _ (by omega)
  try rw [← hn]
  have p0 : ∀ w : World, Calls Tryz.prog 130 #[.int .u8 106] w (Rets (.tuple #[.int .i64 1, .int .i64 0]) (fun w' => w = w')) := fun w => rpop_any 106 w
  have t0 : R ≤ 900 := by omega
  have t1 : decide ((N : Int) < 1) = false := by simp; omega
  have t2 : IntKind.i64.wrap ((N : Int) - 1) = (R : Int) := by rw [IntWalk.i64_in _ (by omega)]; omega
  have t3 : IntKind.i64.wrap (R : Int) = (R : Int) := IntWalk.i64_in _ (by omega)
  have t4 : decide ((8 : Int) < (R : Int)) = false := by simp; omega
  have hcap := hl.cap
  have t5 : (R : Int) ≤ (cap : Int) := by omega
  have t8 : (R : Int) < (N : Int) := by omega
  have c0 : w.cell? ⟨g, R, none⟩ = some (.string b) := hl.cellAt R b (by rw [hR]; simp)
  subst hz
  have hg : ¬ w.heap.size ≤ g := by have := hl.lt; omega
  have HL := hid hl
  have HN := hid hN
  have HR := hid hR
  clear hl hN hcap hr hR hn hn2 hb
  go_enter Tryz.func112, Tryz.ntmps112
  go_wp2_with (first | (go_at_call 130; refine (p0 _).mono ?_; rintro e w' ⟨rfl, rfl⟩) | (guard_target =~ wpList _ _ _ (Oper.mk (some 60) _ _ _ _ _ :: _) _ _; refine wpList_fresh_rest rfl _ _ rfl HL.out rfl rfl (r := r) (by rw [HR.out]; simp) HR.out (by omega) ?_; intro g1 cap1 w1 hf1; have d0 := hf1.cell c0 hg))
  refine bodyPost_ret (v := .tuple #[.slice (some ⟨g1, 0, none⟩) (R) cap1, .int .i64 ((n : Nat)), .int .i64 0]) (by simp [results, Tryz.results112, go_sem] <;> rfl) rfl ?_
  exact hf1.ok _

set_option maxRecDepth 100000 in
set_option maxHeartbeats 2000000 in
theorem rstep_j1 {w : World} {g cap N : Nat} {r : List ByteArray} {b : ByteArray} (hl : RowT w g cap N (r ++ [b])) (hr : r.length + 0 ≤ 8) (_ : b.size ≤ 512) (inV : Value)
    (s : ByteArray) (hs1 : 1 ≤ s.size) (hs : 1 < s.size) (hs2 : s.size ≤ 300) (hc : s[0] = 106) (hz : ¬ b = { data := #[] }) :
    Calls Tryz.prog 112 #[.slice (some ⟨g, 0, none⟩) N cap, .string s, inV] w (StepOk w (r) (-1)) := by
  have hN : N = r.length + 1 := by rw [hl.len]; simp
  obtain ⟨R, hR⟩ : ∃ R, R = r.length := ⟨_, rfl⟩
  have hc' : ((s[0].toNat : Nat) : Int) = 106 := by rw [hc]; rfl
  have hs0 : (0 : Int) < s.size := by omega
  have ht1 : decide ((1 : Int) < s.size) = true := by simp; omega
  have ht2 : (1 : Int) < s.size := by omega
  obtain ⟨n, hn⟩ : ∃ n, n = numN s := ⟨_, rfl⟩
  have hn2 : numN s = s[1].toNat := by unfold numN; rw [dif_pos hs]
  have hn' : ((s[1].toNat : Nat) : Int) = (n : Int) := by rw [hn, hn2]
  have hn256 : n < 256 := by have := s[1].toNat_lt; omega
  have ht3 : IntKind.i64.wrap (n : Int) = (n : Int) := IntWalk.i64_in _ (by omega)
  try rw [← hn]
  have p0 : ∀ w : World, Calls Tryz.prog 130 #[.int .u8 106] w (Rets (.tuple #[.int .i64 1, .int .i64 0]) (fun w' => w = w')) := fun w => rpop_any 106 w
  have t0 : R ≤ 900 := by omega
  have t1 : decide ((N : Int) < 1) = false := by simp; omega
  have t2 : IntKind.i64.wrap ((N : Int) - 1) = (R : Int) := by rw [IntWalk.i64_in _ (by omega)]; omega
  have t3 : IntKind.i64.wrap (R : Int) = (R : Int) := IntWalk.i64_in _ (by omega)
  have t4 : decide ((8 : Int) < (R : Int)) = false := by simp; omega
  have hcap := hl.cap
  have t5 : (R : Int) ≤ (cap : Int) := by omega
  have t8 : (R : Int) < (N : Int) := by omega
  have c0 : w.cell? ⟨g, R, none⟩ = some (.string b) := hl.cellAt R b (by rw [hR]; simp)
  have hz2 : b.toList.isEmpty = false := isEmpty_false hz
  have hg : ¬ w.heap.size ≤ g := by have := hl.lt; omega
  have HL := hid hl
  have HN := hid hN
  have HR := hid hR
  clear hl hN hcap hr hR hn hn2 hz
  go_enter Tryz.func112, Tryz.ntmps112
  go_wp2_with (first | (go_at_call 130; refine (p0 _).mono ?_; rintro e w' ⟨rfl, rfl⟩) | (guard_target =~ wpList _ _ _ (Oper.mk (some 60) _ _ _ _ _ :: _) _ _; refine wpList_fresh_rest rfl _ _ rfl HL.out rfl rfl (r := r) (by rw [HR.out]; simp) HR.out (by omega) ?_; intro g1 cap1 w1 hf1; have d0 := hf1.cell c0 hg))
  refine bodyPost_ret (v := .tuple #[.slice (some ⟨g1, 0, none⟩) (R) cap1, .int .i64 (-1), .int .i64 0]) (by simp [results, Tryz.results112, go_sem] <;> rfl) rfl ?_
  exact hf1.ok _

set_option maxRecDepth 100000 in
set_option maxHeartbeats 2000000 in
theorem rstep_g {w : World} {g cap N : Nat} {r : List ByteArray} (hl : RowT w g cap N (r)) (hr : r.length + 0 ≤ 8) (inV : Value)
    (s : ByteArray) (hs1 : 1 ≤ s.size) (hs : 1 < s.size) (hs2 : s.size ≤ 300) (hc : s[0] = 103) :
    Calls Tryz.prog 112 #[.slice (some ⟨g, 0, none⟩) N cap, .string s, inV] w (StepOk w (r) ((numN s : Nat))) := by
  have hN : N = r.length := by rw [hl.len]
  have hc' : ((s[0].toNat : Nat) : Int) = 103 := by rw [hc]; rfl
  have hs0 : (0 : Int) < s.size := by omega
  have ht1 : decide ((1 : Int) < s.size) = true := by simp; omega
  have ht2 : (1 : Int) < s.size := by omega
  obtain ⟨n, hn⟩ : ∃ n, n = numN s := ⟨_, rfl⟩
  have hn2 : numN s = s[1].toNat := by unfold numN; rw [dif_pos hs]
  have hn' : ((s[1].toNat : Nat) : Int) = (n : Int) := by rw [hn, hn2]
  have hn256 : n < 256 := by have := s[1].toNat_lt; omega
  have ht3 : IntKind.i64.wrap (n : Int) = (n : Int) := IntWalk.i64_in _ (by omega)
  try rw [← hn]
  have p0 : ∀ w : World, Calls Tryz.prog 130 #[.int .u8 103] w (Rets (.tuple #[.int .i64 0, .int .i64 0]) (fun w' => w = w')) := fun w => rpop_any 103 w
  have t0 : N ≤ 900 := by omega
  have t1 : decide ((N : Int) < 0) = false := by simp <;> omega
  have t2 : IntKind.i64.wrap (N : Int) = (N : Int) := IntWalk.i64_in _ (by omega)
  have t4 : decide ((8 : Int) < (N : Int)) = false := by simp; omega
  have hcap := hl.cap
  have t5 : (N : Int) ≤ (cap : Int) := by omega
  have hg : ¬ w.heap.size ≤ g := by have := hl.lt; omega
  have HL := hid hl
  have HN := hid hN
  clear hl hN hcap hr hn hn2
  go_enter Tryz.func112, Tryz.ntmps112
  go_wp2_with (first | (go_at_call 130; refine (p0 _).mono ?_; rintro e w' ⟨rfl, rfl⟩) | (guard_target =~ wpList _ _ _ (Oper.mk (some 60) _ _ _ _ _ :: _) _ _; refine wpList_fresh_rest rfl _ _ rfl HL.out rfl rfl (r := r) (by rw [HN.out]; simp) HN.out (by omega) ?_; intro g1 cap1 w1 hf1))
  refine bodyPost_ret (v := .tuple #[.slice (some ⟨g1, 0, none⟩) (N) cap1, .int .i64 ((n : Nat)), .int .i64 0]) (by simp [results, Tryz.results112, go_sem] <;> rfl) rfl ?_
  exact hf1.ok _

end Go.Proofs.YthglfmacjoecgaaGreatDoor
