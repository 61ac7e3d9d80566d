/- Texts of the proof, one behind the other: apiaryref06.step, a theorem a letter (printed by genr.py): p i t k l h r; what is none; apiaryref06.step, all letters joined: what a step leaves is stepRM; mill.Steps walked: stepsG. -/
import Derived.Test.YthglfmacjoecgaaGreatDoorMg15
import Derived.Test.YthglfmacjoecgaaGreatDoorMg09
import Derived.Test.YthglfmacjoecgaaGreatDoorMg05
namespace Go.Proofs.YthglfmacjoecgaaGreatDoor
open Go.RowKit

theorem popT_in (c : Int) : 0 ≤ popT c ∧ popT c ≤ 2 := by unfold popT; (repeat' split) <;> omega
theorem popG_in (c : Int) : 0 ≤ popG c ∧ popG c ≤ 2 := by unfold popG; (repeat' split) <;> omega

set_option maxRecDepth 100000 in
set_option maxHeartbeats 2000000 in
theorem rstep_p {w : World} {g cap N : Nat} {r : List ByteArray} (hl : RowT w g cap N (r)) (hr : r.length + 1 ≤ 8) (inV : Value)
    (s : ByteArray) (hs1 : 1 ≤ s.size) (hs : 1 < s.size) (hs2 : s.size ≤ 300) (hc : s[0] = 112) :
    Calls Tryz.prog 112 #[.slice (some ⟨g, 0, none⟩) N cap, .string s, inV] w (StepOk w (r ++ [s.extract 2 s.size]) (-1)) := by
  have hN : N = r.length := by rw [hl.len]
  have hc' : ((s[0].toNat : Nat) : Int) = 112 := by rw [hc]; rfl
  have hs0 : (0 : Int) < s.size := by omega
  have ht1 : decide ((1 : Int) < s.size) = true := by simp; omega
  have ht2 : (1 : Int) < s.size := by omega
  obtain ⟨n, hn⟩ : ∃ n, n = numN s := ⟨_, rfl⟩
  have hn2 : numN s = s[1].toNat := by unfold numN; rw [dif_pos hs]
  have hn' : ((s[1].toNat : Nat) : Int) = (n : Int) := by rw [hn, hn2]
  have hn256 : n < 256 := by have := s[1].toNat_lt; omega
  have ht3 : IntKind.i64.wrap (n : Int) = (n : Int) := IntWalk.i64_in _ (by omega)
  try rw [← hn]
  have p0 : ∀ w : World, Calls Tryz.prog 130 #[.int .u8 112] w (Rets (.tuple #[.int .i64 0, .int .i64 1]) (fun w' => w = w')) := fun w => rpop_any 112 w
  have t0 : N ≤ 900 := by omega
  have t1 : decide ((N : Int) < 0) = false := by simp <;> omega
  have t2 : IntKind.i64.wrap (N : Int) = (N : Int) := IntWalk.i64_in _ (by omega)
  have t3 : IntKind.i64.wrap ((N : Int) + 1) = (N : Int) + 1 := IntWalk.i64_in _ (by omega)
  have t4 : decide ((8 : Int) < (N : Int) + 1) = false := by simp; omega
  have hcap := hl.cap
  have t5 : (N : Int) ≤ (cap : Int) := by omega
  have ht4 : (2 : Int) ≤ (s.size : Int) := by omega
  have t9 : decide ((512 : Int) < (s.size : Int) - 2) = false := by simp; omega
  have t10 : (s.extract 2 s.size).size = s.size - 2 := by simp
  have t11 : decide ((512 : Int) < ((s.size - 2 : Nat) : Int)) = false := by simp; omega
  have hg : ¬ w.heap.size ≤ g := by have := hl.lt; omega
  have HL := hid hl
  have HN := hid hN
  clear hl hN hcap hr hn hn2
  go_enter Tryz.func112, Tryz.ntmps112
  go_wp2_with (first | (go_at_call 130; refine (p0 _).mono ?_; rintro e w' ⟨rfl, rfl⟩) | (guard_target =~ wpList _ _ _ (Oper.mk (some 60) _ _ _ _ _ :: _) _ _; refine wpList_fresh_rest rfl _ _ rfl HL.out rfl rfl (r := r) (by rw [HN.out]; simp) HN.out (by omega) ?_; intro g1 cap1 w1 hf1) | (guard_target =~ wpList _ _ _ (Oper.mk (some 175) _ _ _ _ _ :: _) _ _; refine wpList_fresh_new rfl _ _ rfl hf1 (by omega) rfl _ rfl ?_; intro g2 cap2 w2 hf2))
  refine bodyPost_ret (v := .tuple #[.slice (some ⟨g2, 0, none⟩) (N + 1) cap2, .int .i64 (-1), .int .i64 0]) (by simp [results, Tryz.results112, go_sem] <;> rfl) rfl ?_
  exact hf2.ok _

set_option maxRecDepth 100000 in
set_option maxHeartbeats 2000000 in
theorem rstep_i {w : World} {g cap N : Nat} {r : List ByteArray} (hl : RowT w g cap N (r)) (hr : r.length + 1 ≤ 8)
    (s : ByteArray) (hs1 : 1 ≤ s.size) (hs : 1 < s.size) (hs2 : s.size ≤ 300) (hc : s[0] = 105) {inV : Value} {ins : List ByteArray} (hin : StrsAt w inV ins) (hni : numN s < ins.length) (hall : ∀ x ∈ ins, x.size ≤ 512) :
    Calls Tryz.prog 112 #[.slice (some ⟨g, 0, none⟩) N cap, .string s, inV] w (StepOk w (r ++ [ins[numN s]]) (-1)) := by
  have hN : N = r.length := by rw [hl.len]
  have hc' : ((s[0].toNat : Nat) : Int) = 105 := by rw [hc]; rfl
  have hs0 : (0 : Int) < s.size := by omega
  have ht1 : decide ((1 : Int) < s.size) = true := by simp; omega
  have ht2 : (1 : Int) < s.size := by omega
  obtain ⟨n, hn⟩ : ∃ n, n = numN s := ⟨_, rfl⟩
  have hn2 : numN s = s[1].toNat := by unfold numN; rw [dif_pos hs]
  have hn' : ((s[1].toNat : Nat) : Int) = (n : Int) := by rw [hn, hn2]
  have hn256 : n < 256 := by have := s[1].toNat_lt; omega
  have ht3 : IntKind.i64.wrap (n : Int) = (n : Int) := IntWalk.i64_in _ (by omega)
  try rw [← hn]
  have p0 : ∀ w : World, Calls Tryz.prog 130 #[.int .u8 105] w (Rets (.tuple #[.int .i64 0, .int .i64 1]) (fun w' => w = w')) := fun w => rpop_any 105 w
  have t0 : N ≤ 900 := by omega
  have t1 : decide ((N : Int) < 0) = false := by simp <;> omega
  have t2 : IntKind.i64.wrap (N : Int) = (N : Int) := IntWalk.i64_in _ (by omega)
  have t3 : IntKind.i64.wrap ((N : Int) + 1) = (N : Int) + 1 := IntWalk.i64_in _ (by omega)
  have t4 : decide ((8 : Int) < (N : Int) + 1) = false := by simp; omega
  have hcap := hl.cap
  have t5 : (N : Int) ≤ (cap : Int) := by omega
  have hlenI := fun W ty => hin.len (P := Tryz.prog) Tryz.underlying22 W ty
  have hni' : (n : Int) < (ins.length : Int) := by omega
  have hn3 : decide ((ins.length : Int) ≤ (n : Int)) = false := by simp; omega
  have hx0 : ins[numN s].size ≤ 512 := hall _ (List.getElem_mem hni)
  obtain ⟨ad, hix, hadc, hadb⟩ := hin.ix (P := Tryz.prog) Tryz.underlying22 Tryz.sizeOf9 (numN s) hni
  obtain ⟨x, hx⟩ : ∃ x, x = ins[numN s] := ⟨_, rfl⟩
  rw [← hx] at hadc hx0 ⊢
  rw [← hn] at hix
  have hadg : ¬ w.heap.size ≤ ad.block := by omega
  have t9 : decide ((512 : Int) < (x.size : Int)) = false := by simp; omega
  have hg : ¬ w.heap.size ≤ g := by have := hl.lt; omega
  have HL := hid hl
  have HN := hid hN
  clear hl hN hcap hr hn hn2 hx hni hin hall hx0 hadb
  go_enter Tryz.func112, Tryz.ntmps112
  go_wp2_with (first | (go_at_call 130; refine (p0 _).mono ?_; rintro e w' ⟨rfl, rfl⟩) | (guard_target =~ wpList _ _ _ (Oper.mk (some 60) _ _ _ _ _ :: _) _ _; refine wpList_fresh_rest rfl _ _ rfl HL.out rfl rfl (r := r) (by rw [HN.out]; simp) HN.out (by omega) ?_; intro g1 cap1 w1 hf1; have d0 := hf1.cell hadc hadg) | (guard_target =~ wpList _ _ _ (Oper.mk (some 175) _ _ _ _ _ :: _) _ _; refine wpList_fresh_new rfl _ _ rfl hf1 (by omega) rfl _ rfl ?_; intro g2 cap2 w2 hf2))
  refine bodyPost_ret (v := .tuple #[.slice (some ⟨g2, 0, none⟩) (N + 1) cap2, .int .i64 (-1), .int .i64 0]) (by simp [results, Tryz.results112, go_sem] <;> rfl) rfl ?_
  exact hf2.ok _

set_option maxRecDepth 100000 in
set_option maxHeartbeats 2000000 in
theorem rstep_t1 {w : World} {g cap N : Nat} {r : List ByteArray} {b : ByteArray} (hl : RowT w g cap N (r ++ [b])) (hr : r.length + 1 ≤ 8) (_ : b.size ≤ 512) (inV : Value)
    (s : ByteArray) (hs1 : 1 ≤ s.size) (hs : 1 < s.size) (hs2 : s.size ≤ 300) (hc : s[0] = 116) (hnb : numN s < b.size) :
    Calls Tryz.prog 112 #[.slice (some ⟨g, 0, none⟩) N cap, .string s, inV] w (StepOk w (r ++ [b.extract 0 (numN s)]) (-1)) := by
  have hN : N = r.length + 1 := by rw [hl.len]; simp
  obtain ⟨R, hR⟩ : ∃ R, R = r.length := ⟨_, rfl⟩
  have hc' : ((s[0].toNat : Nat) : Int) = 116 := by rw [hc]; rfl
  have hs0 : (0 : Int) < s.size := by omega
  have ht1 : decide ((1 : Int) < s.size) = true := by simp; omega
  have ht2 : (1 : Int) < s.size := by omega
  obtain ⟨n, hn⟩ : ∃ n, n = numN s := ⟨_, rfl⟩
  have hn2 : numN s = s[1].toNat := by unfold numN; rw [dif_pos hs]
  have hn' : ((s[1].toNat : Nat) : Int) = (n : Int) := by rw [hn, hn2]
  have hn256 : n < 256 := by have := s[1].toNat_lt; omega
  have ht3 : IntKind.i64.wrap (n : Int) = (n : Int) := IntWalk.i64_in _ (by omega)
  try rw [← hn]
  have p0 : ∀ w : World, Calls Tryz.prog 130 #[.int .u8 116] w (Rets (.tuple #[.int .i64 1, .int .i64 1]) (fun w' => w = w')) := fun w => rpop_any 116 w
  have t0 : R ≤ 900 := by omega
  have t1 : decide ((N : Int) < 1) = false := by simp; omega
  have t2 : IntKind.i64.wrap ((N : Int) - 1) = (R : Int) := by rw [IntWalk.i64_in _ (by omega)]; omega
  have t3 : IntKind.i64.wrap ((R : Int) + 1) = (R : Int) + 1 := IntWalk.i64_in _ (by omega)
  have t4 : decide ((8 : Int) < (R : Int) + 1) = false := by simp; omega
  have hcap := hl.cap
  have t5 : (R : Int) ≤ (cap : Int) := by omega
  have t8 : (R : Int) < (N : Int) := by omega
  have c0 : w.cell? ⟨g, R, none⟩ = some (.string b) := hl.cellAt R b (by rw [hR]; simp)
  have hnb' : (n : Int) < (b.size : Int) := by omega
  have hnb2 : (n : Int) ≤ (b.size : Int) := by omega
  have t9 : decide ((512 : Int) < ((min n b.size : Nat) : Int)) = false := by simp; omega
  have t10 : (b.extract 0 n).size = min n b.size := by simp
  have t11 : ¬ (512 : Int) < ((min n b.size : Nat) : Int) := by omega
  have hg : ¬ w.heap.size ≤ g := by have := hl.lt; omega
  have HL := hid hl
  have HN := hid hN
  have HR := hid hR
  clear hl hN hcap hr hR hn hn2 hnb
  go_enter Tryz.func112, Tryz.ntmps112
  go_wp2_with (first | (go_at_call 130; refine (p0 _).mono ?_; rintro e w' ⟨rfl, rfl⟩) | (guard_target =~ wpList _ _ _ (Oper.mk (some 60) _ _ _ _ _ :: _) _ _; refine wpList_fresh_rest rfl _ _ rfl HL.out rfl rfl (r := r) (by rw [HR.out]; simp) HR.out (by omega) ?_; intro g1 cap1 w1 hf1; have d0 := hf1.cell c0 hg) | (guard_target =~ wpList _ _ _ (Oper.mk (some 175) _ _ _ _ _ :: _) _ _; refine wpList_fresh_new rfl _ _ rfl hf1 (by omega) rfl _ rfl ?_; intro g2 cap2 w2 hf2))
  refine bodyPost_ret (v := .tuple #[.slice (some ⟨g2, 0, none⟩) (R + 1) cap2, .int .i64 (-1), .int .i64 0]) (by simp [results, Tryz.results112, go_sem] <;> rfl) rfl ?_
  exact hf2.ok _

set_option maxRecDepth 100000 in
set_option maxHeartbeats 2000000 in
theorem rstep_t0 {w : World} {g cap N : Nat} {r : List ByteArray} {b : ByteArray} (hl : RowT w g cap N (r ++ [b])) (hr : r.length + 1 ≤ 8) (hb : b.size ≤ 512) (inV : Value)
    (s : ByteArray) (hs1 : 1 ≤ s.size) (hs : 1 < s.size) (hs2 : s.size ≤ 300) (hc : s[0] = 116) (hnb : ¬ numN s < b.size) :
    Calls Tryz.prog 112 #[.slice (some ⟨g, 0, none⟩) N cap, .string s, inV] w (StepOk w (r ++ [b]) (-1)) := by
  have hN : N = r.length + 1 := by rw [hl.len]; simp
  obtain ⟨R, hR⟩ : ∃ R, R = r.length := ⟨_, rfl⟩
  have hc' : ((s[0].toNat : Nat) : Int) = 116 := by rw [hc]; rfl
  have hs0 : (0 : Int) < s.size := by omega
  have ht1 : decide ((1 : Int) < s.size) = true := by simp; omega
  have ht2 : (1 : Int) < s.size := by omega
  obtain ⟨n, hn⟩ : ∃ n, n = numN s := ⟨_, rfl⟩
  have hn2 : numN s = s[1].toNat := by unfold numN; rw [dif_pos hs]
  have hn' : ((s[1].toNat : Nat) : Int) = (n : Int) := by rw [hn, hn2]
  have hn256 : n < 256 := by have := s[1].toNat_lt; omega
  have ht3 : IntKind.i64.wrap (n : Int) = (n : Int) := IntWalk.i64_in _ (by omega)
  try rw [← hn]
  have p0 : ∀ w : World, Calls Tryz.prog 130 #[.int .u8 116] w (Rets (.tuple #[.int .i64 1, .int .i64 1]) (fun w' => w = w')) := fun w => rpop_any 116 w
  have t0 : R ≤ 900 := by omega
  have t1 : decide ((N : Int) < 1) = false := by simp; omega
  have t2 : IntKind.i64.wrap ((N : Int) - 1) = (R : Int) := by rw [IntWalk.i64_in _ (by omega)]; omega
  have t3 : IntKind.i64.wrap ((R : Int) + 1) = (R : Int) + 1 := IntWalk.i64_in _ (by omega)
  have t4 : decide ((8 : Int) < (R : Int) + 1) = false := by simp; omega
  have hcap := hl.cap
  have t5 : (R : Int) ≤ (cap : Int) := by omega
  have t8 : (R : Int) < (N : Int) := by omega
  have c0 : w.cell? ⟨g, R, none⟩ = some (.string b) := hl.cellAt R b (by rw [hR]; simp)
  have hnb' : ¬ (n : Int) < (b.size : Int) := by omega
  have hnb2 : ¬ n < b.size := by omega
  have t9 : decide ((512 : Int) < (b.size : Int)) = false := by simp; omega
  have hg : ¬ w.heap.size ≤ g := by have := hl.lt; omega
  have HL := hid hl
  have HN := hid hN
  have HR := hid hR
  clear hl hN hcap hr hR hn hn2 hb hnb
  go_enter Tryz.func112, Tryz.ntmps112
  go_wp2_with (first | (go_at_call 130; refine (p0 _).mono ?_; rintro e w' ⟨rfl, rfl⟩) | (guard_target =~ wpList _ _ _ (Oper.mk (some 60) _ _ _ _ _ :: _) _ _; refine wpList_fresh_rest rfl _ _ rfl HL.out rfl rfl (r := r) (by rw [HR.out]; simp) HR.out (by omega) ?_; intro g1 cap1 w1 hf1; have d0 := hf1.cell c0 hg) | (guard_target =~ wpList _ _ _ (Oper.mk (some 175) _ _ _ _ _ :: _) _ _; refine wpList_fresh_new rfl _ _ rfl hf1 (by omega) rfl _ rfl ?_; intro g2 cap2 w2 hf2))
  refine bodyPost_ret (v := .tuple #[.slice (some ⟨g2, 0, none⟩) (R + 1) cap2, .int .i64 (-1), .int .i64 0]) (by simp [results, Tryz.results112, go_sem] <;> rfl) rfl ?_
  exact hf2.ok _

set_option maxRecDepth 100000 in
set_option maxHeartbeats 2000000 in
theorem rstep_k1 {w : World} {g cap N : Nat} {r : List ByteArray} {b : ByteArray} (hl : RowT w g cap N (r ++ [b])) (hr : r.length + 1 ≤ 8) (hb : b.size ≤ 512) (inV : Value)
    (s : ByteArray) (hs1 : 1 ≤ s.size) (hs : 1 < s.size) (hs2 : s.size ≤ 300) (hc : s[0] = 107) (hnb : numN s < b.size) :
    Calls Tryz.prog 112 #[.slice (some ⟨g, 0, none⟩) N cap, .string s, inV] w (StepOk w (r ++ [b.extract (numN s) b.size]) (-1)) := by
  have hN : N = r.length + 1 := by rw [hl.len]; simp
  obtain ⟨R, hR⟩ : ∃ R, R = r.length := ⟨_, rfl⟩
  have hc' : ((s[0].toNat : Nat) : Int) = 107 := by rw [hc]; rfl
  have hs0 : (0 : Int) < s.size := by omega
  have ht1 : decide ((1 : Int) < s.size) = true := by simp; omega
  have ht2 : (1 : Int) < s.size := by omega
  obtain ⟨n, hn⟩ : ∃ n, n = numN s := ⟨_, rfl⟩
  have hn2 : numN s = s[1].toNat := by unfold numN; rw [dif_pos hs]
  have hn' : ((s[1].toNat : Nat) : Int) = (n : Int) := by rw [hn, hn2]
  have hn256 : n < 256 := by have := s[1].toNat_lt; omega
  have ht3 : IntKind.i64.wrap (n : Int) = (n : Int) := IntWalk.i64_in _ (by omega)
  try rw [← hn]
  have p0 : ∀ w : World, Calls Tryz.prog 130 #[.int .u8 107] w (Rets (.tuple #[.int .i64 1, .int .i64 1]) (fun w' => w = w')) := fun w => rpop_any 107 w
  have t0 : R ≤ 900 := by omega
  have t1 : decide ((N : Int) < 1) = false := by simp; omega
  have t2 : IntKind.i64.wrap ((N : Int) - 1) = (R : Int) := by rw [IntWalk.i64_in _ (by omega)]; omega
  have t3 : IntKind.i64.wrap ((R : Int) + 1) = (R : Int) + 1 := IntWalk.i64_in _ (by omega)
  have t4 : decide ((8 : Int) < (R : Int) + 1) = false := by simp; omega
  have hcap := hl.cap
  have t5 : (R : Int) ≤ (cap : Int) := by omega
  have t8 : (R : Int) < (N : Int) := by omega
  have c0 : w.cell? ⟨g, R, none⟩ = some (.string b) := hl.cellAt R b (by rw [hR]; simp)
  have hnb' : (n : Int) < (b.size : Int) := by omega
  have hnb2 : (n : Int) ≤ (b.size : Int) := by omega
  have t10 : (b.extract n b.size).size = b.size - n := by simp
  have t9 : decide ((512 : Int) < ((b.size - n : Nat) : Int)) = false := by simp; omega
  have hg : ¬ w.heap.size ≤ g := by have := hl.lt; omega
  have HL := hid hl
  have HN := hid hN
  have HR := hid hR
  clear hl hN hcap hr hR hn hn2 hb hnb
  go_enter Tryz.func112, Tryz.ntmps112
  go_wp2_with (first | (go_at_call 130; refine (p0 _).mono ?_; rintro e w' ⟨rfl, rfl⟩) | (guard_target =~ wpList _ _ _ (Oper.mk (some 60) _ _ _ _ _ :: _) _ _; refine wpList_fresh_rest rfl _ _ rfl HL.out rfl rfl (r := r) (by rw [HR.out]; simp) HR.out (by omega) ?_; intro g1 cap1 w1 hf1; have d0 := hf1.cell c0 hg) | (guard_target =~ wpList _ _ _ (Oper.mk (some 175) _ _ _ _ _ :: _) _ _; refine wpList_fresh_new rfl _ _ rfl hf1 (by omega) rfl _ rfl ?_; intro g2 cap2 w2 hf2))
  refine bodyPost_ret (v := .tuple #[.slice (some ⟨g2, 0, none⟩) (R + 1) cap2, .int .i64 (-1), .int .i64 0]) (by simp [results, Tryz.results112, go_sem] <;> rfl) rfl ?_
  exact hf2.ok _

set_option maxRecDepth 100000 in
set_option maxHeartbeats 2000000 in
theorem rstep_k0 {w : World} {g cap N : Nat} {r : List ByteArray} {b : ByteArray} (hl : RowT w g cap N (r ++ [b])) (hr : r.length + 1 ≤ 8) (_ : b.size ≤ 512) (inV : Value)
    (s : ByteArray) (hs1 : 1 ≤ s.size) (hs : 1 < s.size) (hs2 : s.size ≤ 300) (hc : s[0] = 107) (hnb : ¬ numN s < b.size) :
    Calls Tryz.prog 112 #[.slice (some ⟨g, 0, none⟩) N cap, .string s, inV] w (StepOk w (r ++ [{ data := #[] }]) (-1)) := by
  have hN : N = r.length + 1 := by rw [hl.len]; simp
  obtain ⟨R, hR⟩ : ∃ R, R = r.length := ⟨_, rfl⟩
  have hc' : ((s[0].toNat : Nat) : Int) = 107 := by rw [hc]; rfl
  have hs0 : (0 : Int) < s.size := by omega
  have ht1 : decide ((1 : Int) < s.size) = true := by simp; omega
  have ht2 : (1 : Int) < s.size := by omega
  obtain ⟨n, hn⟩ : ∃ n, n = numN s := ⟨_, rfl⟩
  have hn2 : numN s = s[1].toNat := by unfold numN; rw [dif_pos hs]
  have hn' : ((s[1].toNat : Nat) : Int) = (n : Int) := by rw [hn, hn2]
  have hn256 : n < 256 := by have := s[1].toNat_lt; omega
  have ht3 : IntKind.i64.wrap (n : Int) = (n : Int) := IntWalk.i64_in _ (by omega)
  try rw [← hn]
  have p0 : ∀ w : World, Calls Tryz.prog 130 #[.int .u8 107] w (Rets (.tuple #[.int .i64 1, .int .i64 1]) (fun w' => w = w')) := fun w => rpop_any 107 w
  have t0 : R ≤ 900 := by omega
  have t1 : decide ((N : Int) < 1) = false := by simp; omega
  have t2 : IntKind.i64.wrap ((N : Int) - 1) = (R : Int) := by rw [IntWalk.i64_in _ (by omega)]; omega
  have t3 : IntKind.i64.wrap ((R : Int) + 1) = (R : Int) + 1 := IntWalk.i64_in _ (by omega)
  have t4 : decide ((8 : Int) < (R : Int) + 1) = false := by simp; omega
  have hcap := hl.cap
  have t5 : (R : Int) ≤ (cap : Int) := by omega
  have t8 : (R : Int) < (N : Int) := by omega
  have c0 : w.cell? ⟨g, R, none⟩ = some (.string b) := hl.cellAt R b (by rw [hR]; simp)
  have hnb' : ¬ (n : Int) < (b.size : Int) := by omega
  have hnb2 : ¬ n < b.size := by omega
  have hg : ¬ w.heap.size ≤ g := by have := hl.lt; omega
  have HL := hid hl
  have HN := hid hN
  have HR := hid hR
  clear hl hN hcap hr hR hn hn2 hnb
  go_enter Tryz.func112, Tryz.ntmps112
  go_wp2_with (first | (go_at_call 130; refine (p0 _).mono ?_; rintro e w' ⟨rfl, rfl⟩) | (guard_target =~ wpList _ _ _ (Oper.mk (some 60) _ _ _ _ _ :: _) _ _; refine wpList_fresh_rest rfl _ _ rfl HL.out rfl rfl (r := r) (by rw [HR.out]; simp) HR.out (by omega) ?_; intro g1 cap1 w1 hf1; have d0 := hf1.cell c0 hg) | (guard_target =~ wpList _ _ _ (Oper.mk (some 175) _ _ _ _ _ :: _) _ _; refine wpList_fresh_new rfl _ _ rfl hf1 (by omega) rfl _ rfl ?_; intro g2 cap2 w2 hf2))
  refine bodyPost_ret (v := .tuple #[.slice (some ⟨g2, 0, none⟩) (R + 1) cap2, .int .i64 (-1), .int .i64 0]) (by simp [results, Tryz.results112, go_sem] <;> rfl) rfl ?_
  exact hf2.ok _

set_option maxRecDepth 100000 in
set_option maxHeartbeats 2000000 in
theorem rstep_l {w : World} {g cap N : Nat} {r : List ByteArray} {b : ByteArray} (hl : RowT w g cap N (r ++ [b])) (hr : r.length + 1 ≤ 8) (hb : b.size ≤ 512) (inV : Value)
    (s : ByteArray) (hs1 : 1 ≤ s.size) (hs : s.size = 1) (hc : s[0] = 108) :
    Calls Tryz.prog 112 #[.slice (some ⟨g, 0, none⟩) N cap, .string s, inV] w (StepOk w (r ++ [decS b.size]) (-1)) := by
  have hN : N = r.length + 1 := by rw [hl.len]; simp
  obtain ⟨R, hR⟩ : ∃ R, R = r.length := ⟨_, rfl⟩
  have hc' : ((s[0].toNat : Nat) : Int) = 108 := by rw [hc]; rfl
  have hs0 : (0 : Int) < s.size := by omega
  have ht1 : decide ((1 : Int) < s.size) = false := by simp; omega
  have p0 : ∀ w : World, Calls Tryz.prog 130 #[.int .u8 108] w (Rets (.tuple #[.int .i64 1, .int .i64 1]) (fun w' => w = w')) := fun w => rpop_any 108 w
  have t0 : R ≤ 900 := by omega
  have t1 : decide ((N : Int) < 1) = false := by simp; omega
  have t2 : IntKind.i64.wrap ((N : Int) - 1) = (R : Int) := by rw [IntWalk.i64_in _ (by omega)]; omega
  have t3 : IntKind.i64.wrap ((R : Int) + 1) = (R : Int) + 1 := IntWalk.i64_in _ (by omega)
  have t4 : decide ((8 : Int) < (R : Int) + 1) = false := by simp; omega
  have hcap := hl.cap
  have t5 : (R : Int) ≤ (cap : Int) := by omega
  have t8 : (R : Int) < (N : Int) := by omega
  have c0 : w.cell? ⟨g, R, none⟩ = some (.string b) := hl.cellAt R b (by rw [hR]; simp)
  have hdg : ∀ w : World, Calls Tryz.prog 131 #[.int .i64 b.size] w (Rets (.string (decS b.size)) (fun w' => ∃ m, w' = w.drewN m)) := fun w => rdigits_any b.size (by omega) w
  have hds := decS_digs b.size (by omega)
  obtain ⟨q, hq⟩ : ∃ q, q = decS b.size := ⟨_, rfl⟩
  rw [← hq] at hdg hds ⊢
  have t9 : decide ((512 : Int) < (q.size : Int)) = false := by simp; omega
  have hg : ¬ w.heap.size ≤ g := by have := hl.lt; omega
  have HL := hid hl
  have HN := hid hN
  have HR := hid hR
  have HS := hid hs
  clear hl hs hN hcap hr hR hb hq hds
  go_enter Tryz.func112, Tryz.ntmps112
  go_wp2_with (first | (go_at_call 130; refine (p0 _).mono ?_; rintro e w' ⟨rfl, rfl⟩) | (guard_target =~ wpList _ _ _ (Oper.mk (some 60) _ _ _ _ _ :: _) _ _; refine wpList_fresh_rest rfl _ _ rfl HL.out rfl rfl (r := r) (by rw [HR.out]; simp) HR.out (by omega) ?_; intro g1 cap1 w1 hf1; have d0 := hf1.cell c0 hg) | (go_at_call 131; refine (hdg _).mono ?_; rintro e w2 ⟨rfl, m, hw⟩; have hf2 := hf1.moveN hw; clear hw) | (guard_target =~ wpList _ _ _ (Oper.mk (some 175) _ _ _ _ _ :: _) _ _; refine wpList_fresh_new rfl _ _ rfl hf2 (by omega) rfl _ rfl ?_; intro g3 cap3 w3 hf3))
  refine bodyPost_ret (v := .tuple #[.slice (some ⟨g3, 0, none⟩) (R + 1) cap3, .int .i64 (-1), .int .i64 0]) (by simp [results, Tryz.results112, go_sem] <;> rfl) rfl ?_
  exact hf3.ok _

set_option maxRecDepth 100000 in
set_option maxHeartbeats 2000000 in
theorem rstep_h {w : World} {g cap N : Nat} {r : List ByteArray} {b : ByteArray} (hl : RowT w g cap N (r ++ [b])) (hr : r.length + 1 ≤ 8) (hb : b.size ≤ 512) (inV : Value)
    (s : ByteArray) (hs1 : 1 ≤ s.size) (hs : s.size = 1) (hc : s[0] = 104) :
    Calls Tryz.prog 112 #[.slice (some ⟨g, 0, none⟩) N cap, .string s, inV] w (StepOk w (r ++ [hashS b]) (-1)) := by
  have hN : N = r.length + 1 := by rw [hl.len]; simp
  obtain ⟨R, hR⟩ : ∃ R, R = r.length := ⟨_, rfl⟩
  have hc' : ((s[0].toNat : Nat) : Int) = 104 := by rw [hc]; rfl
  have hs0 : (0 : Int) < s.size := by omega
  have ht1 : decide ((1 : Int) < s.size) = false := by simp; omega
  have p0 : ∀ w : World, Calls Tryz.prog 130 #[.int .u8 104] w (Rets (.tuple #[.int .i64 1, .int .i64 1]) (fun w' => w = w')) := fun w => rpop_any 104 w
  have t0 : R ≤ 900 := by omega
  have t1 : decide ((N : Int) < 1) = false := by simp; omega
  have t2 : IntKind.i64.wrap ((N : Int) - 1) = (R : Int) := by rw [IntWalk.i64_in _ (by omega)]; omega
  have t3 : IntKind.i64.wrap ((R : Int) + 1) = (R : Int) + 1 := IntWalk.i64_in _ (by omega)
  have t4 : decide ((8 : Int) < (R : Int) + 1) = false := by simp; omega
  have hcap := hl.cap
  have t5 : (R : Int) ≤ (cap : Int) := by omega
  have t8 : (R : Int) < (N : Int) := by omega
  have c0 : w.cell? ⟨g, R, none⟩ = some (.string b) := hl.cellAt R b (by rw [hR]; simp)
  have hof : ∀ w : World, Calls Tryz.prog 70 #[.string b] w (Rets (.agg (rowB 32 (ofB [b]))) (Chg (fun _ => False) w)) := fun w => rof_any b (by omega) w
  have hby : ∀ w : World, Calls Tryz.prog 69 #[.agg (rowB 32 (ofB [b]))] w (Rets (.string (hashS b)) (Chg (fun _ => False) w)) := fun w => rBytes_any (ofB [b]) w
  have hds := hashS_size b
  obtain ⟨q, hq⟩ : ∃ q, q = hashS b := ⟨_, rfl⟩
  rw [← hq] at hby hds ⊢
  generalize ofB [b] = D at hof hby
  have t9 : decide ((512 : Int) < (q.size : Int)) = false := by simp; omega
  have hg : ¬ w.heap.size ≤ g := by have := hl.lt; omega
  have HL := hid hl
  have HN := hid hN
  have HR := hid hR
  have HS := hid hs
  clear hl hs hN hcap hr hR hb hq hds
  go_enter Tryz.func112, Tryz.ntmps112
  go_wp2_with (first | (go_at_call 130; refine (p0 _).mono ?_; rintro e w' ⟨rfl, rfl⟩) | (guard_target =~ wpList _ _ _ (Oper.mk (some 60) _ _ _ _ _ :: _) _ _; refine wpList_fresh_rest rfl _ _ rfl HL.out rfl rfl (r := r) (by rw [HR.out]; simp) HR.out (by omega) ?_; intro g1 cap1 w1 hf1; have d0 := hf1.cell c0 hg) | (go_at_call 70; refine (hof _).mono ?_; rintro e w2 ⟨rfl, hc2⟩; have hf2 := hf1.move hc2; clear hc2) | (go_at_call 69; refine (hby _).mono ?_; rintro e w3 ⟨rfl, hc3⟩; have hf3 := hf2.move hc3; clear hc3) | (guard_target =~ wpList _ _ _ (Oper.mk (some 175) _ _ _ _ _ :: _) _ _; refine wpList_fresh_new rfl _ _ rfl hf3 (by omega) rfl _ rfl ?_; intro g4 cap4 w4 hf4))
  refine bodyPost_ret (v := .tuple #[.slice (some ⟨g4, 0, none⟩) (R + 1) cap4, .int .i64 (-1), .int .i64 0]) (by simp [results, Tryz.results112, go_sem] <;> rfl) rfl ?_
  exact hf4.ok _

set_option maxRecDepth 100000 in
set_option maxHeartbeats 2000000 in
theorem rstep_r {w : World} {g cap N : Nat} {r : List ByteArray} {b : ByteArray} (hl : RowT w g cap N (r ++ [b])) (hr : r.length + 1 ≤ 8) (hb : b.size ≤ 512) (inV : Value)
    (s : ByteArray) (hs1 : 1 ≤ s.size) (hs : s.size = 1) (hc : s[0] = 114) :
    Calls Tryz.prog 112 #[.slice (some ⟨g, 0, none⟩) N cap, .string s, inV] w (StepOk w (r ++ [revS b]) (-1)) := by
  have hN : N = r.length + 1 := by rw [hl.len]; simp
  obtain ⟨R, hR⟩ : ∃ R, R = r.length := ⟨_, rfl⟩
  have hc' : ((s[0].toNat : Nat) : Int) = 114 := by rw [hc]; rfl
  have hs0 : (0 : Int) < s.size := by omega
  have ht1 : decide ((1 : Int) < s.size) = false := by simp; omega
  have p0 : ∀ w : World, Calls Tryz.prog 130 #[.int .u8 114] w (Rets (.tuple #[.int .i64 1, .int .i64 1]) (fun w' => w = w')) := fun w => rpop_any 114 w
  have t0 : R ≤ 900 := by omega
  have t1 : decide ((N : Int) < 1) = false := by simp; omega
  have t2 : IntKind.i64.wrap ((N : Int) - 1) = (R : Int) := by rw [IntWalk.i64_in _ (by omega)]; omega
  have t3 : IntKind.i64.wrap ((R : Int) + 1) = (R : Int) + 1 := IntWalk.i64_in _ (by omega)
  have t4 : decide ((8 : Int) < (R : Int) + 1) = false := by simp; omega
  have hcap := hl.cap
  have t5 : (R : Int) ≤ (cap : Int) := by omega
  have t8 : (R : Int) < (N : Int) := by omega
  have c0 : w.cell? ⟨g, R, none⟩ = some (.string b) := hl.cellAt R b (by rw [hR]; simp)
  have hrv0 := frev_all b
  have hb63 : b.size ≤ 512 := hb
  have t9 : decide ((512 : Int) < ((revS b).size : Int)) = false := by rw [revS_size]; simp; omega
  obtain ⟨q, hq⟩ : ∃ q, q = revS b := ⟨_, rfl⟩
  rw [← hq] at hrv0 t9 ⊢
  have hrv := hid hrv0
  have hg : ¬ w.heap.size ≤ g := by have := hl.lt; omega
  have HL := hid hl
  have HN := hid hN
  have HR := hid hR
  have HS := hid hs
  clear hl hs hN hcap hr hR hb hq hrv0
  go_enter Tryz.func112, Tryz.ntmps112
  go_wp2_with (first | (go_at_call 130; refine (p0 _).mono ?_; rintro e w' ⟨rfl, rfl⟩) | (guard_target =~ wpList _ _ _ (Oper.mk (some 60) _ _ _ _ _ :: _) _ _; refine wpList_fresh_rest rfl _ _ rfl HL.out rfl rfl (r := r) (by rw [HR.out]; simp) HR.out (by omega) ?_; intro g1 cap1 w1 hf1; have d0 := hf1.cell c0 hg))
  go_loop [17, 18] (fun t i => ∃ k : Nat, k ≤ b.size ∧ i = .int .i64 k ∧ t = .string (revS (b.extract 0 k))) (fun _ i => b.size - (intOf i).toNat)
  case atStart => exact ⟨0, Nat.zero_le _, rfl, by simp [revS]⟩
  case round =>
    obtain ⟨k, hk, rfl, rfl⟩ := hrel
    by_cases hkn : k < b.size
    · have hkn' : (k : Int) < (b.size : Int) := by omega
      have hk1 : (k : Int) + 1 ≤ (b.size : Int) := by omega
      have hk2 : (k : Int) ≤ (k : Int) + 1 := by omega
      have hk3 : IntKind.i64.wrap ((k : Int) + 1) = (k : Int) + 1 := IntWalk.i64_in _ (by omega)
      have hk4 : ((k : Int) + 1).toNat = k + 1 := by omega
      have zk : ¬ 9223372036854775807 < (b.extract k (k + 1)).size + (revS (b.extract 0 k)).size := by rw [revS_size, ByteArray.size_extract, ByteArray.size_extract]; omega
      go_wp2_with fail
      go_round
      case rel => exact ⟨k + 1, by omega, by go_num, by rw [frev_next b k hkn]⟩
      case measure => simp [intOf]; omega
    · obtain rfl : k = b.size := by omega
      rw [hrv.out]
      go_wp2_with (first | (guard_target =~ wpList _ _ _ (Oper.mk (some 175) _ _ _ _ _ :: _) _ _; refine wpList_fresh_new rfl _ _ rfl hf1 (by omega) rfl _ rfl ?_; intro g2 cap2 w2 hf2))
      refine bodyPost_ret (v := .tuple #[.slice (some ⟨g2, 0, none⟩) (R + 1) cap2, .int .i64 (-1), .int .i64 0]) (by simp [results, Tryz.results112, go_sem] <;> rfl) rfl ?_
      exact hf2.ok _

set_option maxRecDepth 100000 in
set_option maxHeartbeats 2000000 in
theorem rstep_bad {w : World} (lv : Value) {inV : Value} {ins : List ByteArray} (hin : StrsAt w inV ins) (s : ByteArray) (hs1 : 1 ≤ s.size) (hs : 1 < s.size) (hc : s[0] = 105) (hn : ins.length ≤ numN s) :
    Calls Tryz.prog 112 #[lv, .string s, inV] w (Rets (.tuple #[.slice none 0 0, .int .i64 (-1), .int .i64 32]) (Chg (fun _ => False) w)) := by
  have hc' : ((s[0].toNat : Nat) : Int) = 105 := by rw [hc]; rfl
  have hs0 : (0 : Int) < s.size := by omega
  have ht1 : decide ((1 : Int) < s.size) = true := by simp; omega
  have ht2 : (1 : Int) < s.size := by omega
  obtain ⟨n, hn'⟩ : ∃ n, n = numN s := ⟨_, rfl⟩
  have hn2 : numN s = s[1].toNat := by unfold numN; rw [dif_pos hs]
  have hn3 : ((s[1].toNat : Nat) : Int) = (n : Int) := by rw [hn', hn2]
  have hn256 : n < 256 := by have := s[1].toNat_lt; omega
  have ht3 : IntKind.i64.wrap (n : Int) = (n : Int) := IntWalk.i64_in _ (by omega)
  have hn4 : (ins.length : Int) ≤ (n : Int) := by omega
  have hlenI := fun W ty => hin.len (P := Tryz.prog) Tryz.underlying22 W ty
  clear hn hn' hn2 hin
  go_enter Tryz.func112, Tryz.ntmps112
  go_wp2_with fail
  refine bodyPost_ret (v := .tuple #[.slice none 0 0, .int .i64 (-1), .int .i64 32]) (by simp [results, Tryz.results112, go_sem] <;> rfl) rfl ?_
  exact ⟨rfl, Chg.refl _ w⟩

set_option maxRecDepth 100000 in
set_option maxHeartbeats 2000000 in
theorem rstep_few0 {w : World} (oa : Option Addr) (N cap : Nat) (_ : N ≤ 8) {inV : Value} (s : ByteArray) (hs1 : 1 ≤ s.size) (hs : ¬ 1 < s.size) (hc : s[0] ≠ 105) (hl : (N : Int) < popT (s[0].toNat : Nat)) :
    Calls Tryz.prog 112 #[.slice oa N cap, .string s, inV] w (Rets (.tuple #[.slice none 0 0, .int .i64 (-1), .int .i64 31]) (Chg (fun _ => False) w)) := by
  have hs0 : (0 : Int) < s.size := by omega
  have ht1 : decide ((1 : Int) < s.size) = false := by simp; omega
  have hc' : ((s[0].toNat : Nat) : Int) ≠ 105 := by
    intro e
    exact hc (UInt8.toNat_inj.1 (by have : (105 : UInt8).toNat = 105 := rfl; omega))
  have p0 : ∀ w : World, Calls Tryz.prog 130 #[.int .u8 (s[0].toNat : Nat)] w (Rets (.tuple #[.int .i64 (popT (s[0].toNat : Nat)), .int .i64 (popG (s[0].toNat : Nat))]) (fun w' => w = w')) := fun w => rpop_any _ w
  have hP := popT_in (s[0].toNat : Nat)
  have hG := popG_in (s[0].toNat : Nat)
  obtain ⟨c, hcs⟩ : ∃ c, ((s[0].toNat : Nat) : Int) = c := ⟨_, rfl⟩
  rw [hcs] at hc' p0 hP hG hl
  have hc2 : (c == 105) = false := by simp; exact hc'
  generalize popT c = P at hl p0 hP
  generalize popG c = G at p0 hG
  have t1 : decide ((N : Int) < P) = true := by simp; omega
  clear hl hP hG hs
  go_enter Tryz.func112, Tryz.ntmps112
  go_wp2_with (go_at_call 130; refine (p0 _).mono ?_; rintro e w' ⟨rfl, rfl⟩)
  refine bodyPost_ret (v := .tuple #[.slice none 0 0, .int .i64 (-1), .int .i64 31]) (by simp [results, Tryz.results112, go_sem] <;> rfl) rfl ?_
  exact ⟨rfl, Chg.refl _ w⟩

set_option maxRecDepth 100000 in
set_option maxHeartbeats 2000000 in
theorem rstep_few1 {w : World} (oa : Option Addr) (N cap : Nat) (_ : N ≤ 8) {inV : Value} (s : ByteArray) (hs1 : 1 ≤ s.size) (hs : 1 < s.size) (hc : s[0] ≠ 105) (hl : (N : Int) < popT (s[0].toNat : Nat)) :
    Calls Tryz.prog 112 #[.slice oa N cap, .string s, inV] w (Rets (.tuple #[.slice none 0 0, .int .i64 (-1), .int .i64 31]) (Chg (fun _ => False) w)) := by
  have hs0 : (0 : Int) < s.size := by omega
  have ht1 : decide ((1 : Int) < s.size) = true := by simp; omega
  have ht2 : (1 : Int) < s.size := by omega
  obtain ⟨n, hn⟩ : ∃ n, n = numN s := ⟨_, rfl⟩
  have hn2 : numN s = s[1].toNat := by unfold numN; rw [dif_pos hs]
  have hn' : ((s[1].toNat : Nat) : Int) = (n : Int) := by rw [hn, hn2]
  have hn256 : n < 256 := by have := s[1].toNat_lt; omega
  have ht3 : IntKind.i64.wrap (n : Int) = (n : Int) := IntWalk.i64_in _ (by omega)
  have hc' : ((s[0].toNat : Nat) : Int) ≠ 105 := by
    intro e
    exact hc (UInt8.toNat_inj.1 (by have : (105 : UInt8).toNat = 105 := rfl; omega))
  have p0 : ∀ w : World, Calls Tryz.prog 130 #[.int .u8 (s[0].toNat : Nat)] w (Rets (.tuple #[.int .i64 (popT (s[0].toNat : Nat)), .int .i64 (popG (s[0].toNat : Nat))]) (fun w' => w = w')) := fun w => rpop_any _ w
  have hP := popT_in (s[0].toNat : Nat)
  have hG := popG_in (s[0].toNat : Nat)
  obtain ⟨c, hcs⟩ : ∃ c, ((s[0].toNat : Nat) : Int) = c := ⟨_, rfl⟩
  rw [hcs] at hc' p0 hP hG hl
  have hc2 : (c == 105) = false := by simp; exact hc'
  generalize popT c = P at hl p0 hP
  generalize popG c = G at p0 hG
  have t1 : decide ((N : Int) < P) = true := by simp; omega
  clear hl hP hG hn hn2
  go_enter Tryz.func112, Tryz.ntmps112
  go_wp2_with (go_at_call 130; refine (p0 _).mono ?_; rintro e w' ⟨rfl, rfl⟩)
  refine bodyPost_ret (v := .tuple #[.slice none 0 0, .int .i64 (-1), .int .i64 31]) (by simp [results, Tryz.results112, go_sem] <;> rfl) rfl ?_
  exact ⟨rfl, Chg.refl _ w⟩

set_option maxRecDepth 100000 in
set_option maxHeartbeats 2000000 in
theorem rstep_full0 {w : World} (oa : Option Addr) (N cap : Nat) (hN : N ≤ 8) {inV : Value} (s : ByteArray) (hs1 : 1 ≤ s.size) (hs : ¬ 1 < s.size) (hc : s[0] ≠ 105) (hl : ¬ (N : Int) < popT (s[0].toNat : Nat)) (hf : 8 < (N : Int) - popT (s[0].toNat : Nat) + popG (s[0].toNat : Nat)) :
    Calls Tryz.prog 112 #[.slice oa N cap, .string s, inV] w (Rets (.tuple #[.slice none 0 0, .int .i64 (-1), .int .i64 31]) (Chg (fun _ => False) w)) := by
  have hs0 : (0 : Int) < s.size := by omega
  have ht1 : decide ((1 : Int) < s.size) = false := by simp; omega
  have hc' : ((s[0].toNat : Nat) : Int) ≠ 105 := by
    intro e
    exact hc (UInt8.toNat_inj.1 (by have : (105 : UInt8).toNat = 105 := rfl; omega))
  have p0 : ∀ w : World, Calls Tryz.prog 130 #[.int .u8 (s[0].toNat : Nat)] w (Rets (.tuple #[.int .i64 (popT (s[0].toNat : Nat)), .int .i64 (popG (s[0].toNat : Nat))]) (fun w' => w = w')) := fun w => rpop_any _ w
  have hP := popT_in (s[0].toNat : Nat)
  have hG := popG_in (s[0].toNat : Nat)
  obtain ⟨c, hcs⟩ : ∃ c, ((s[0].toNat : Nat) : Int) = c := ⟨_, rfl⟩
  rw [hcs] at hc' p0 hP hG hl hf
  have hc2 : (c == 105) = false := by simp; exact hc'
  generalize popT c = P at hl hf p0 hP
  generalize popG c = G at hf p0 hG
  have t1 : decide ((N : Int) < P) = false := by simp; omega
  have t2 : IntKind.i64.wrap ((N : Int) - P) = (N : Int) - P := IntWalk.i64_in _ (by omega)
  have t3 : IntKind.i64.wrap ((N : Int) - P + G) = (N : Int) - P + G := IntWalk.i64_in _ (by omega)
  have t4 : decide ((8 : Int) < (N : Int) - P + G) = true := by simp; omega
  clear hl hP hG hN hf hs
  go_enter Tryz.func112, Tryz.ntmps112
  go_wp2_with (go_at_call 130; refine (p0 _).mono ?_; rintro e w' ⟨rfl, rfl⟩)
  refine bodyPost_ret (v := .tuple #[.slice none 0 0, .int .i64 (-1), .int .i64 31]) (by simp [results, Tryz.results112, go_sem] <;> rfl) rfl ?_
  exact ⟨rfl, Chg.refl _ w⟩

set_option maxRecDepth 100000 in
set_option maxHeartbeats 2000000 in
theorem rstep_full1 {w : World} (oa : Option Addr) (N cap : Nat) (hN : N ≤ 8) {inV : Value} (s : ByteArray) (hs1 : 1 ≤ s.size) (hs : 1 < s.size) (hc : s[0] ≠ 105) (hl : ¬ (N : Int) < popT (s[0].toNat : Nat)) (hf : 8 < (N : Int) - popT (s[0].toNat : Nat) + popG (s[0].toNat : Nat)) :
    Calls Tryz.prog 112 #[.slice oa N cap, .string s, inV] w (Rets (.tuple #[.slice none 0 0, .int .i64 (-1), .int .i64 31]) (Chg (fun _ => False) w)) := by
  have hs0 : (0 : Int) < s.size := by omega
  have ht1 : decide ((1 : Int) < s.size) = true := by simp; omega
  have ht2 : (1 : Int) < s.size := by omega
  obtain ⟨n, hn⟩ : ∃ n, n = numN s := ⟨_, rfl⟩
  have hn2 : numN s = s[1].toNat := by unfold numN; rw [dif_pos hs]
  have hn' : ((s[1].toNat : Nat) : Int) = (n : Int) := by rw [hn, hn2]
  have hn256 : n < 256 := by have := s[1].toNat_lt; omega
  have ht3 : IntKind.i64.wrap (n : Int) = (n : Int) := IntWalk.i64_in _ (by omega)
  have hc' : ((s[0].toNat : Nat) : Int) ≠ 105 := by
    intro e
    exact hc (UInt8.toNat_inj.1 (by have : (105 : UInt8).toNat = 105 := rfl; omega))
  have p0 : ∀ w : World, Calls Tryz.prog 130 #[.int .u8 (s[0].toNat : Nat)] w (Rets (.tuple #[.int .i64 (popT (s[0].toNat : Nat)), .int .i64 (popG (s[0].toNat : Nat))]) (fun w' => w = w')) := fun w => rpop_any _ w
  have hP := popT_in (s[0].toNat : Nat)
  have hG := popG_in (s[0].toNat : Nat)
  obtain ⟨c, hcs⟩ : ∃ c, ((s[0].toNat : Nat) : Int) = c := ⟨_, rfl⟩
  rw [hcs] at hc' p0 hP hG hl hf
  have hc2 : (c == 105) = false := by simp; exact hc'
  generalize popT c = P at hl hf p0 hP
  generalize popG c = G at hf p0 hG
  have t1 : decide ((N : Int) < P) = false := by simp; omega
  have t2 : IntKind.i64.wrap ((N : Int) - P) = (N : Int) - P := IntWalk.i64_in _ (by omega)
  have t3 : IntKind.i64.wrap ((N : Int) - P + G) = (N : Int) - P + G := IntWalk.i64_in _ (by omega)
  have t4 : decide ((8 : Int) < (N : Int) - P + G) = true := by simp; omega
  clear hl hP hG hN hf hn hn2
  go_enter Tryz.func112, Tryz.ntmps112
  go_wp2_with (go_at_call 130; refine (p0 _).mono ?_; rintro e w' ⟨rfl, rfl⟩)
  refine bodyPost_ret (v := .tuple #[.slice none 0 0, .int .i64 (-1), .int .i64 31]) (by simp [results, Tryz.results112, go_sem] <;> rfl) rfl ?_
  exact ⟨rfl, Chg.refl _ w⟩

set_option maxRecDepth 100000 in
set_option maxHeartbeats 2000000 in
theorem rstep_fulli {w : World} (oa : Option Addr) (N cap : Nat) (hN : N ≤ 8) {inV : Value} {ins : List ByteArray} (hin : StrsAt w inV ins) (s : ByteArray) (hs1 : 1 ≤ s.size) (hs : 1 < s.size) (hc : s[0] = 105) (hni : numN s < ins.length) (hl : ¬ (N : Int) < popT (s[0].toNat : Nat)) (hf : 8 < (N : Int) - popT (s[0].toNat : Nat) + popG (s[0].toNat : Nat)) :
    Calls Tryz.prog 112 #[.slice oa N cap, .string s, inV] w (Rets (.tuple #[.slice none 0 0, .int .i64 (-1), .int .i64 31]) (Chg (fun _ => False) w)) := by
  have hs0 : (0 : Int) < s.size := by omega
  have ht1 : decide ((1 : Int) < s.size) = true := by simp; omega
  have ht2 : (1 : Int) < s.size := by omega
  obtain ⟨n, hn⟩ : ∃ n, n = numN s := ⟨_, rfl⟩
  have hn2 : numN s = s[1].toNat := by unfold numN; rw [dif_pos hs]
  have hn' : ((s[1].toNat : Nat) : Int) = (n : Int) := by rw [hn, hn2]
  have hn256 : n < 256 := by have := s[1].toNat_lt; omega
  have ht3 : IntKind.i64.wrap (n : Int) = (n : Int) := IntWalk.i64_in _ (by omega)
  have hc' : ((s[0].toNat : Nat) : Int) = 105 := by rw [hc]; rfl
  have hlenI := fun W ty => hin.len (P := Tryz.prog) Tryz.underlying22 W ty
  have hni' : ¬ (ins.length : Int) ≤ (n : Int) := by omega
  rw [hc'] at hl hf
  have hP : popT 105 = 0 := rfl
  have hG : popG 105 = 1 := rfl
  have p0 : ∀ w : World, Calls Tryz.prog 130 #[.int .u8 105] w (Rets (.tuple #[.int .i64 (popT 105), .int .i64 (popG 105)]) (fun w' => w = w')) := fun w => rpop_any _ w
  generalize popT 105 = P at hl hf p0 hP
  generalize popG 105 = G at hf p0 hG
  have t1 : decide ((N : Int) < P) = false := by simp; omega
  have t2 : IntKind.i64.wrap ((N : Int) - P) = (N : Int) - P := IntWalk.i64_in _ (by omega)
  have t3 : IntKind.i64.wrap ((N : Int) - P + G) = (N : Int) - P + G := IntWalk.i64_in _ (by omega)
  have t4 : decide ((8 : Int) < (N : Int) - P + G) = true := by simp; omega
  clear hl hP hG hN hf hni hn hn2 hin
  go_enter Tryz.func112, Tryz.ntmps112
  go_wp2_with (go_at_call 130; refine (p0 _).mono ?_; rintro e w' ⟨rfl, rfl⟩)
  refine bodyPost_ret (v := .tuple #[.slice none 0 0, .int .i64 (-1), .int .i64 31]) (by simp [results, Tryz.results112, go_sem] <;> rfl) rfl ?_
  exact ⟨rfl, Chg.refl _ w⟩

end Go.Proofs.YthglfmacjoecgaaGreatDoor
namespace Go.Proofs.YthglfmacjoecgaaGreatDoor
open Go.RowKit

/-- What the document's step answers, said by stepR's triple. -/
def RDone (nx : Nat) (q : Nat × Nat × List ByteArray) (w : World) (e : Ending) (w' : World) : Prop :=
  Chg (fun _ => False) w w' ∧ ((q.1 ≠ 0 ∧ e = .returned (.tuple #[.slice none 0 0, .int .i64 (-1), .int .i64 q.1])) ∨
    (q.1 = 0 ∧ ∃ g cap to2, e = .returned (.tuple #[.slice (some ⟨g, 0, none⟩) q.2.2.length cap, .int .i64 to2, .int .i64 0]) ∧ RowT w' g cap q.2.2.length q.2.2 ∧ ((to2 = -1 ∧ q.2.1 = nx) ∨ to2 = (q.2.1 : Int))))

theorem rdone_ok {f : FuncId} {args : Array Value} {w : World} {l' : List ByteArray} {to2 : Int} {nx k : Nat} {p : Nat × List ByteArray} (h : Calls Tryz.prog f args w (StepOk w l' to2)) (hq : p = (0, l')) (hto : (to2 = -1 ∧ k = nx) ∨ to2 = (k : Int)) :
    Calls Tryz.prog f args w (RDone nx (p.1, k, p.2) w) := by
  subst hq
  refine h.mono ?_
  rintro e w' ⟨g, cap, rfl, h1, h2⟩
  exact ⟨h2, .inr ⟨rfl, g, cap, to2, rfl, h1, hto⟩⟩
theorem rdone_bad {f : FuncId} {args : Array Value} {w : World} {nx c : Nat} {q : Nat × Nat × List ByteArray} (h : Calls Tryz.prog f args w (Rets (.tuple #[.slice none 0 0, .int .i64 (-1), .int .i64 c]) (Chg (fun _ => False) w))) (hq : q.1 = c) (hc : c ≠ 0) :
    Calls Tryz.prog f args w (RDone nx q w) := by
  refine h.mono ?_
  rintro e w' ⟨rfl, h2⟩
  exact ⟨h2, .inl ⟨by omega, by rw [hq]⟩⟩

theorem push_one {r : List ByteArray} {x : ByteArray} (hr : r.length + 1 ≤ 8) (hx : x.size ≤ 512) : pushR r [x] = (0, r ++ [x]) := by
  rw [pushR_cons, if_neg (by omega), if_neg (by omega), pushR_nil]
theorem push_two {r : List ByteArray} {x y : ByteArray} (hr : r.length + 2 ≤ 8) (hx : x.size ≤ 512) (hy : y.size ≤ 512) : pushR r [x, y] = (0, r ++ [x] ++ [y]) := by
  rw [pushR_cons, if_neg (by omega), if_neg (by omega)]
  exact push_one (by simp; omega) hy
theorem push_full {r : List ByteArray} {x : ByteArray} {ss : List ByteArray} (hr : 8 ≤ r.length) : (pushR r (x :: ss)).1 = 31 := by
  rw [pushR_cons, if_pos hr]
theorem push_full2 {r : List ByteArray} {x y : ByteArray} (hr : r.length = 7) (hx : x.size ≤ 512) : (pushR r [x, y]).1 = 31 := by
  rw [pushR_cons, if_neg (by omega), if_neg (by omega)]
  exact push_full (by simp; omega)

theorem rstep_any {w : World} {g cap N : Nat} {l : List ByteArray} (hl : RowT w g cap N l) (hl8 : l.length ≤ 8) (hall : ∀ x ∈ l, x.size ≤ 512) {inV : Value} {ins : List ByteArray} (hin : StrsAt w inV ins) (hins : ∀ x ∈ ins, x.size ≤ 512)
    (s : ByteArray) (hs1 : 1 ≤ s.size) (hs2 : s.size ≤ 300) (hok : okL s[0] = true) (hw1 : plainB s[0] = true → s.size = 1) (hw2 : plainB s[0] = false → 1 < s.size) (at_ : Nat) :
    Calls Tryz.prog 112 #[.slice (some ⟨g, 0, none⟩) N cap, .string s, inV] w (RDone (at_ + s.size) (stepRM hashS ins s[0] (numN s) s at_ l) w) := by
  have hN : N = l.length := hl.len
  by_cases hi : s[0] = 105 ∧ ins.length ≤ numN s
  · refine rdone_bad (c := 32) (rstep_bad _ hin s hs1 (hw2 (by rw [hi.1]; rfl)) hi.1 hi.2) ?_ (by decide)
    unfold stepRM; rw [if_pos hi]
  have few : (∀ k, s[0] = k → k ≠ 105) → (N : Int) < popT (s[0].toNat : Nat) → l.length < takeN s[0] → Calls Tryz.prog 112 #[.slice (some ⟨g, 0, none⟩) N cap, .string s, inV] w (RDone (at_ + s.size) (stepRM hashS ins s[0] (numN s) s at_ l) w) := by
    intro h5 hP hf
    have h5' : s[0] ≠ 105 := h5 _ rfl
    have hq : (stepRM hashS ins s[0] (numN s) s at_ l).1 = 31 := by unfold stepRM; rw [if_neg hi, if_pos hf]
    by_cases hsz : 1 < s.size
    · exact rdone_bad (c := 31) (rstep_few1 _ N cap (by omega) s hs1 hsz h5' hP) hq (by decide)
    · exact rdone_bad (c := 31) (rstep_few0 _ N cap (by omega) s hs1 hsz h5' hP) hq (by decide)
  have few2 : (∀ k, s[0] = k → k ≠ 105) → popT (s[0].toNat : Nat) = takeN s[0] → l.length < takeN s[0] → Calls Tryz.prog 112 #[.slice (some ⟨g, 0, none⟩) N cap, .string s, inV] w (RDone (at_ + s.size) (stepRM hashS ins s[0] (numN s) s at_ l) w) :=
    fun h5 hP hf => few h5 (by rw [hP]; omega) hf
  clear few
  have hr : ∀ k, (l.take (l.length - k)).length = l.length - k := fun k => by simp
  have hl1 := fun h1 : 1 ≤ l.length => (show RowT w g cap N (l.take (l.length - 1) ++ [(l.drop (l.length - 1)).getD 0 .empty]) by rw [split1 h1]; exact hl)
  have hl2 := fun h2 : 2 ≤ l.length => (show RowT w g cap N (l.take (l.length - 2) ++ [(l.drop (l.length - 2)).getD 0 .empty, (l.drop (l.length - 2)).getD 1 .empty]) by rw [split2 h2]; exact hl)
  have hl0 : RowT w g cap N (l.take (l.length - 0)) := by simpa using hl
  have hm1 := fun h1 : 1 ≤ l.length => hall _ (mem1 h1 (by decide) h1 0 (by decide))
  have hm2 := fun h1 : 2 ≤ l.length => hall _ (mem1 (by omega) (by decide) h1 0 (by decide))
  have hm3 := fun h1 : 2 ≤ l.length => hall _ (mem1 (by omega) (by decide) h1 1 (by decide))
  have st : ¬ l.length < takeN s[0] → stepRM hashS ins s[0] (numN s) s at_ l = ((pushR (l.take (l.length - takeN s[0])) (putsR hashS ins s[0] (numN s) s ((l.drop (l.length - takeN s[0])).getD 0 .empty) ((l.drop (l.length - takeN s[0])).getD 1 .empty))).1, goesR s[0] (numN s) (at_ + s.size) ((l.drop (l.length - takeN s[0])).getD 0 .empty), (pushR (l.take (l.length - takeN s[0])) (putsR hashS ins s[0] (numN s) s ((l.drop (l.length - takeN s[0])).getD 0 .empty) ((l.drop (l.length - takeN s[0])).getD 1 .empty))).2) := by
    intro hf
    unfold stepRM
    rw [if_neg hi, if_neg hf]
  by_cases hf : l.length < takeN s[0]
  · rcases okL_mem _ hok with e | e | e | e | e | e | e | e | e | e | e | e | e | e <;>
      first
      | exact few2 (by rw [e]; rintro _ rfl; decide) (by rw [e]; rfl) hf
      | (rw [e] at hf; exact absurd hf (Nat.not_lt_zero _))
  rw [st hf]
  clear st few2
  rcases okL_mem _ hok with e | e | e | e | e | e | e | e | e | e | e | e | e | e
  all_goals (rw [e] at hf hw1 hw2)
  all_goals (simp only [e])
  -- c
  · have h2 : 2 ≤ l.length := Nat.le_of_not_lt hf
    have h8 := hr 2
    by_cases hsz : ((l.drop (l.length - 2)).getD 0 .empty ++ (l.drop (l.length - 2)).getD 1 .empty).size ≤ 512
    · exact rdone_ok (rstep_c (hl2 h2) (by omega) (hm2 h2) (hm3 h2) inV s hs1 (hw1 rfl) e hsz) (push_one (by show (l.take (l.length - 2)).length + 1 ≤ 8; omega) hsz) (.inl ⟨rfl, rfl⟩)
    · refine rdone_bad (c := 33) (rstep_c33 (hl2 h2) (by omega) (hm2 h2) (hm3 h2) inV s hs1 (hw1 rfl) e (by omega)) ?_ (by decide)
      show (pushR (l.take (l.length - 2)) [(l.drop (l.length - 2)).getD 0 .empty ++ (l.drop (l.length - 2)).getD 1 .empty]).1 = 33
      rw [pushR_cons, if_neg (by omega), if_pos (by omega)]
  -- d
  · have h2 : 1 ≤ l.length := Nat.le_of_not_lt hf
    have h8 := hr 1
    by_cases hfull : l.length = 8
    · refine rdone_bad (c := 31) (rstep_full0 _ N cap (by omega) s hs1 (by have := hw1 rfl; omega) (by rw [e]; decide) (by rw [e]; show ¬ (N : Int) < 1; omega) (by rw [e]; show 8 < (N : Int) - 1 + 2; omega)) ?_ (by decide)
      exact push_full2 (by show (l.take (l.length - 1)).length = 7; omega) (hm1 h2)
    · exact rdone_ok (rstep_d (hl1 h2) (by omega) (hm1 h2) inV s hs1 (hw1 rfl) e) (push_two (by show (l.take (l.length - 1)).length + 2 ≤ 8; omega) (hm1 h2) (hm1 h2)) (.inl ⟨rfl, rfl⟩)
  -- s
  · have h2 : 2 ≤ l.length := Nat.le_of_not_lt hf
    have h8 := hr 2
    exact rdone_ok (rstep_s (hl2 h2) (by omega) (hm2 h2) (hm3 h2) inV s hs1 (hw1 rfl) e) (push_two (by show (l.take (l.length - 2)).length + 2 ≤ 8; omega) (hm3 h2) (hm2 h2)) (.inl ⟨rfl, rfl⟩)
  -- x
  · have h2 : 1 ≤ l.length := Nat.le_of_not_lt hf
    have h8 := hr 1
    exact rdone_ok (rstep_x (hl1 h2) (by omega) (hm1 h2) inV s hs1 (hw1 rfl) e) rfl (.inl ⟨rfl, rfl⟩)
  -- r
  · have h2 : 1 ≤ l.length := Nat.le_of_not_lt hf
    have h8 := hr 1
    exact rdone_ok (rstep_r (hl1 h2) (by omega) (hm1 h2) inV s hs1 (hw1 rfl) e) (push_one (by show (l.take (l.length - 1)).length + 1 ≤ 8; omega) (by rw [revS_size]; exact hm1 h2)) (.inl ⟨rfl, rfl⟩)
  -- h
  · have h2 : 1 ≤ l.length := Nat.le_of_not_lt hf
    have h8 := hr 1
    exact rdone_ok (rstep_h (hl1 h2) (by omega) (hm1 h2) inV s hs1 (hw1 rfl) e) (push_one (by show (l.take (l.length - 1)).length + 1 ≤ 8; omega) (by rw [hashS_size]; omega)) (.inl ⟨rfl, rfl⟩)
  -- l
  · have h2 : 1 ≤ l.length := Nat.le_of_not_lt hf
    have h8 := hr 1
    refine rdone_ok (rstep_l (hl1 h2) (by omega) (hm1 h2) inV s hs1 (hw1 rfl) e) ?_ (.inl ⟨rfl, rfl⟩)
    rw [← itoaS_dec]
    exact push_one (by show (l.take (l.length - 1)).length + 1 ≤ 8; omega) (by rw [itoaS_dec]; exact decS_digs _ (hm1 h2))
  -- =
  · have h2 : 2 ≤ l.length := Nat.le_of_not_lt hf
    have h8 := hr 2
    by_cases hab : (l.drop (l.length - 2)).getD 0 .empty = (l.drop (l.length - 2)).getD 1 .empty
    · refine rdone_ok (rstep_eq1 (hl2 h2) (by omega) (hm2 h2) (hm3 h2) inV s hs1 (hw1 rfl) e hab) ?_ (.inl ⟨rfl, rfl⟩)
      show pushR (l.take (l.length - 2)) [sameS ((l.drop (l.length - 2)).getD 0 .empty) ((l.drop (l.length - 2)).getD 1 .empty)] = _
      unfold sameS
      rw [if_pos hab]
      exact push_one (by omega) (by decide)
    · refine rdone_ok (rstep_eq0 (hl2 h2) (by omega) (hm2 h2) (hm3 h2) inV s hs1 (hw1 rfl) e hab) ?_ (.inl ⟨rfl, rfl⟩)
      show pushR (l.take (l.length - 2)) [sameS ((l.drop (l.length - 2)).getD 0 .empty) ((l.drop (l.length - 2)).getD 1 .empty)] = _
      unfold sameS
      rw [if_neg hab]
      exact push_one (by omega) (by decide)
  -- i
  · have hni : numN s < ins.length := Nat.lt_of_not_le fun hh => hi ⟨e, hh⟩
    have h8 := hr 0
    have e2 : putsR hashS ins 105 (numN s) s ((l.drop (l.length - takeN 105)).getD 0 .empty) ((l.drop (l.length - takeN 105)).getD 1 .empty) = [ins[numN s]] := by
      show [ins.getD (numN s) .empty] = _
      rw [List.getD_eq_getElem?_getD, List.getElem?_eq_getElem hni]; rfl
    rw [e2]
    by_cases hfull : l.length = 8
    · refine rdone_bad (c := 31) (rstep_fulli _ N cap (by omega) hin s hs1 (hw2 rfl) e hni (by rw [e]; show ¬ (N : Int) < 0; omega) (by rw [e]; show 8 < (N : Int) - 0 + 1; omega)) ?_ (by decide)
      exact push_full (by show 8 ≤ (l.take (l.length - 0)).length; omega)
    · exact rdone_ok (rstep_i hl0 (by omega) s hs1 (hw2 rfl) hs2 e hin hni hins) (push_one (by show (l.take (l.length - 0)).length + 1 ≤ 8; omega) (hins _ (List.getElem_mem hni))) (.inl ⟨rfl, rfl⟩)
  -- t
  · have h2 : 1 ≤ l.length := Nat.le_of_not_lt hf
    have h8 := hr 1
    have hb := hm1 h2
    by_cases hnb : numN s < ((l.drop (l.length - 1)).getD 0 .empty).size
    · refine rdone_ok (rstep_t1 (hl1 h2) (by omega) (hm1 h2) inV s hs1 (hw2 rfl) hs2 e hnb) ?_ (.inl ⟨rfl, rfl⟩)
      show pushR (l.take (l.length - 1)) [((l.drop (l.length - 1)).getD 0 .empty).extract 0 (min (numN s : Int) (((l.drop (l.length - 1)).getD 0 .empty).size : Int)).toNat] = _
      rw [show (min (numN s : Int) (((l.drop (l.length - 1)).getD 0 .empty).size : Int)).toNat = numN s by omega]
      exact push_one (by omega) (by rw [ByteArray.size_extract]; omega)
    · refine rdone_ok (rstep_t0 (hl1 h2) (by omega) (hm1 h2) inV s hs1 (hw2 rfl) hs2 e hnb) ?_ (.inl ⟨rfl, rfl⟩)
      show pushR (l.take (l.length - 1)) [((l.drop (l.length - 1)).getD 0 .empty).extract 0 (min (numN s : Int) (((l.drop (l.length - 1)).getD 0 .empty).size : Int)).toNat] = _
      rw [show (min (numN s : Int) (((l.drop (l.length - 1)).getD 0 .empty).size : Int)).toNat = ((l.drop (l.length - 1)).getD 0 .empty).size by omega, ByteArray.extract_zero_size]
      exact push_one (by omega) hb
  -- k
  · have h2 : 1 ≤ l.length := Nat.le_of_not_lt hf
    have h8 := hr 1
    have hb := hm1 h2
    by_cases hnb : numN s < ((l.drop (l.length - 1)).getD 0 .empty).size
    · refine rdone_ok (rstep_k1 (hl1 h2) (by omega) (hm1 h2) inV s hs1 (hw2 rfl) hs2 e hnb) ?_ (.inl ⟨rfl, rfl⟩)
      show pushR (l.take (l.length - 1)) [((l.drop (l.length - 1)).getD 0 .empty).extract (min (numN s : Int) (((l.drop (l.length - 1)).getD 0 .empty).size : Int)).toNat ((l.drop (l.length - 1)).getD 0 .empty).size] = _
      rw [show (min (numN s : Int) (((l.drop (l.length - 1)).getD 0 .empty).size : Int)).toNat = numN s by omega]
      exact push_one (by omega) (by rw [ByteArray.size_extract]; omega)
    · refine rdone_ok (rstep_k0 (hl1 h2) (by omega) (hm1 h2) inV s hs1 (hw2 rfl) hs2 e hnb) ?_ (.inl ⟨rfl, rfl⟩)
      show pushR (l.take (l.length - 1)) [((l.drop (l.length - 1)).getD 0 .empty).extract (min (numN s : Int) (((l.drop (l.length - 1)).getD 0 .empty).size : Int)).toNat ((l.drop (l.length - 1)).getD 0 .empty).size] = _
      rw [show (min (numN s : Int) (((l.drop (l.length - 1)).getD 0 .empty).size : Int)).toNat = ((l.drop (l.length - 1)).getD 0 .empty).size by omega, show ∀ x : ByteArray, x.extract x.size x.size = { data := #[] } from fun x => by apply ByteArray.ext; simp]
      exact push_one (by omega) (by decide)
  -- j
  · have h2 : 1 ≤ l.length := Nat.le_of_not_lt hf
    have h8 := hr 1
    by_cases hz : (l.drop (l.length - 1)).getD 0 .empty = ByteArray.empty
    · refine rdone_ok (rstep_j0 (hl1 h2) (by omega) (hm1 h2) inV s hs1 (hw2 rfl) hs2 e hz) rfl (.inr ?_)
      show _ = (((if (l.drop (l.length - 1)).getD 0 .empty = ByteArray.empty then numN s else at_ + s.size : Nat)) : Int)
      rw [if_pos hz]
    · refine rdone_ok (rstep_j1 (hl1 h2) (by omega) (hm1 h2) inV s hs1 (hw2 rfl) hs2 e hz) rfl (.inl ⟨rfl, ?_⟩)
      show (if (l.drop (l.length - 1)).getD 0 .empty = ByteArray.empty then numN s else at_ + s.size) = _
      rw [if_neg hz]
  -- g
  · have h8 := hr 0
    exact rdone_ok (rstep_g hl0 (by omega) inV s hs1 (hw2 rfl) hs2 e) rfl (.inr rfl)
  -- p
  · have h8 := hr 0
    by_cases hfull : l.length = 8
    · refine rdone_bad (c := 31) (rstep_full1 _ N cap (by omega) s hs1 (hw2 rfl) (by rw [e]; decide) (by rw [e]; show ¬ (N : Int) < 0; omega) (by rw [e]; show 8 < (N : Int) - 0 + 1; omega)) ?_ (by decide)
      exact push_full (by show 8 ≤ (l.take (l.length - 0)).length; omega)
    · exact rdone_ok (rstep_p hl0 (by omega) inV s hs1 (hw2 rfl) hs2 e) (push_one (by show (l.take (l.length - 0)).length + 1 ≤ 8; omega) (by rw [ByteArray.size_extract]; omega)) (.inl ⟨rfl, rfl⟩)
end Go.Proofs.YthglfmacjoecgaaGreatDoor
namespace Go.Proofs.YthglfmacjoecgaaGreatDoor
open Go.RowKit

/-- A code's steps from a place on; none: there is none at a place. -/
def stepsG (code : ByteArray) : Nat → Nat → Option (List ByteArray)
  | 0, at_ => if code.size ≤ at_ then some [] else none
  | f + 1, at_ => if code.size ≤ at_ then some [] else if widN code at_ = 0 then none else (stepsG code f (at_ + widN code at_)).map (code.extract at_ (at_ + widN code at_) :: ·)
theorem stepsG_end (code : ByteArray) (f at_ : Nat) (h : code.size ≤ at_) : stepsG code f at_ = some [] := by
  cases f <;> simp [stepsG, h]
theorem widN_le (code : ByteArray) (i : Nat) : i + widN code i ≤ code.size ∨ widN code i = 0 := by
  unfold widN
  split
  · split <;> omega
  · omega
theorem wid_rest (code : ByteArray) (i : Nat) (h : i < code.size) : widN (code.extract i code.size) 0 = widN code i := by
  have hs : (code.extract i code.size).size = code.size - i := by simp
  have g : ∀ k (hk : k < (code.extract i code.size).size), (code.extract i code.size)[k] = code[i + k]'(by rw [hs] at hk; omega) := fun k hk => by simp [ByteArray.getElem_extract]
  unfold widN
  rw [dif_pos (by omega), dif_pos h]
  have e : wid0 (code.extract i code.size) 0 (by omega) = wid0 code i h := by
    unfold wid0
    simp only [g]
    have e0 : (code[i + 0]'(by omega)) = code[i] := rfl
    simp only [Nat.add_zero, Nat.zero_add]
    by_cases h2 : i + 1 < code.size
    · have h3 : 1 < (code.extract i code.size).size := by omega
      simp only [h2, h3, and_true]
    · have h3 : ¬ 1 < (code.extract i code.size).size := by omega
      simp only [h2, h3, and_false, dite_false]
  rw [e, hs]
  simp

def sizeV : Value → Nat
  | .string s => s.size
  | _ => 0
theorem ba_isEmptyM (s : ByteArray) : s.toList.isEmpty = decide (s.size = 0) := by
  have e : (s.toList == (ByteArray.mk #[]).toList) = decide (s = ByteArray.mk #[]) := by rw [← beq_toListBytes, ba_eqM]
  have e2 : (ByteArray.mk #[]).toList = [] := by unfold ByteArray.toList ByteArray.toList.loop; simp [ByteArray.size]
  have e3 : s.size = 0 ↔ s = ByteArray.mk #[] := ⟨fun h => ByteArray.ext (Array.eq_empty_of_size_eq_zero h), fun h => by rw [h]; rfl⟩
  rw [e2] at e
  have e4 : s.toList.isEmpty = (s.toList == []) := by cases s.toList <;> rfl
  rw [e4, e]
  by_cases h : s.size = 0
  · rw [decide_eq_true h, decide_eq_true (e3.1 h)]
  · rw [decide_eq_false h, decide_eq_false (fun hh => h (e3.2 hh))]
/-- What Steps answers. -/
def stepsOut (code : ByteArray) : Option (List ByteArray) := stepsG code 64 0

end Go.Proofs.YthglfmacjoecgaaGreatDoor
