/- Texts of the proof, one behind the other: apiaryref06.step, a theorem a letter (printed by genr.py): p i t k l h r; what is none. -/
import Derived.Test.YthglfmacjoecgaaGreatDoorMg31
import Derived.Test.YthglfmacjoecgaaGreatDoorMg18
namespace Go.Proofs.YthglfmacjoecgaaGreatDoor
open Go.RowKit

theorem popT_in (c : Int) : 0 ≤ popT c ∧ popT c ≤ 2 := by unfold popT; (repeat' split) <;> omega
theorem popG_in (c : Int) : 0 ≤ popG c ∧ popG c ≤ 2 := by unfold popG; (repeat' split) <;> omega

set_option maxRecDepth 100000 in
set_option maxHeartbeats 2000000 in
theorem rstep_p {w : World} {g cap N : Nat} {r : List ByteArray} (hl : RowT w g cap N (r)) (hr : r.length + 1 ≤ 8) (inV : Value)
    (s : ByteArray) (hs1 : 1 ≤ s.size) (hs : 1 < s.size) (hs2 : s.size ≤ 300) (hc : s[0] = 112) :
    Calls Tryz.prog 112 #[.slice (some ⟨g, 0, none⟩) N cap, .string s, inV] w (StepOk w (r ++ [s.extract 2 s.size]) (-1)) := by
  have hN : N = r.length := by rw [hl.len]
  have hc' : ((s[0].toNat : Nat) : Int) = 112 := by rw [hc]; rfl
  have hs0 : (0 : Int) < s.size := by omega
  have ht1 : decide ((1 : Int) < s.size) = true := by simp; omega
  have ht2 : (1 : Int) < s.size := by omega
  obtain ⟨n, hn⟩ : ∃ n, n = numN s := ⟨_, rfl⟩
  have hn2 : numN s = s[1].toNat := by unfold numN; rw [dif_pos hs]
  have hn' : ((s[1].toNat : Nat) : Int) = (n : Int) := by rw [hn, hn2]
  have hn256 : n < 256 := by have := s[1].toNat_lt; omega
  have ht3 : IntKind.i64.wrap (n : Int) = (n : Int) := IntWalk.i64_in _ (by omega)
  try rw [← hn]
  have p0 : ∀ w : World, Calls Tryz.prog 130 #[.int .u8 112] w (Rets (.tuple #[.int .i64 0, .int .i64 1]) (fun w' => w = w')) := fun w => rpop_any 112 w
  have t0 : N ≤ 900 := by omega
  have t1 : decide ((N : Int) < 0) = false := by simp <;> omega
  have t2 : IntKind.i64.wrap (N : Int) = (N : Int) := IntWalk.i64_in _ (by omega)
  have t3 : IntKind.i64.wrap ((N : Int) + 1) = (N : Int) + 1 := IntWalk.i64_in _ (by omega)
  have t4 : decide ((8 : Int) < (N : Int) + 1) = false := by simp; omega
  have hcap := hl.cap
  have t5 : (N : Int) ≤ (cap : Int) := by omega
  have ht4 : (2 : Int) ≤ (s.size : Int) := by omega
  have t9 : decide ((512 : Int) < (s.size : Int) - 2) = false := by simp; omega
  have t10 : (s.extract 2 s.size).size = s.size - 2 := by simp
  have t11 : decide ((512 : Int) < ((s.size - 2 : Nat) : Int)) = false := by simp; omega
  have hg : ¬ w.heap.size ≤ g := by have := hl.lt; omega
  have HL := hid hl
  have HN := hid hN
  clear hl hN hcap hr hn hn2
  go_enter Tryz.func112, Tryz.ntmps112
  go_wp2_with (first | (go_at_call 130; refine (p0 _).mono ?_; rintro e w' ⟨rfl, rfl⟩) | (guard_target =~ wpList _ _ _ (Oper.mk (some 60) _ _ _ _ _ :: _) _ _; refine wpList_fresh_rest rfl _ _ rfl HL.out rfl rfl (r := r) (by rw [HN.out]; simp) HN.out (by omega) ?_; intro g1 cap1 w1 hf1) | (guard_target =~ wpList _ _ _ (Oper.mk (some 175) _ _ _ _ _ :: _) _ _; refine wpList_fresh_new rfl _ _ rfl hf1 (by omega) rfl _ rfl ?_; intro g2 cap2 w2 hf2))
  refine bodyPost_ret (v := .tuple #[.slice (some ⟨g2, 0, none⟩) (N + 1) cap2, .int .i64 (-1), .int .i64 0]) (by simp [results, Tryz.results112, go_sem] <;> rfl) rfl ?_
  exact hf2.ok _

set_option maxRecDepth 100000 in
set_option maxHeartbeats 2000000 in
theorem rstep_i {w : World} {g cap N : Nat} {r : List ByteArray} (hl : RowT w g cap N (r)) (hr : r.length + 1 ≤ 8)
    (s : ByteArray) (hs1 : 1 ≤ s.size) (hs : 1 < s.size) (hs2 : s.size ≤ 300) (hc : s[0] = 105) {inV : Value} {ins : List ByteArray} (hin : StrsAt w inV ins) (hni : numN s < ins.length) (hall : ∀ x ∈ ins, x.size ≤ 512) :
    Calls Tryz.prog 112 #[.slice (some ⟨g, 0, none⟩) N cap, .string s, inV] w (StepOk w (r ++ [ins[numN s]]) (-1)) := by
  have hN : N = r.length := by rw [hl.len]
  have hc' : ((s[0].toNat : Nat) : Int) = 105 := by rw [hc]; rfl
  have hs0 : (0 : Int) < s.size := by omega
  have ht1 : decide ((1 : Int) < s.size) = true := by simp; omega
  have ht2 : (1 : Int) < s.size := by omega
  obtain ⟨n, hn⟩ : ∃ n, n = numN s := ⟨_, rfl⟩
  have hn2 : numN s = s[1].toNat := by unfold numN; rw [dif_pos hs]
  have hn' : ((s[1].toNat : Nat) : Int) = (n : Int) := by rw [hn, hn2]
  have hn256 : n < 256 := by have := s[1].toNat_lt; omega
  have ht3 : IntKind.i64.wrap (n : Int) = (n : Int) := IntWalk.i64_in _ (by omega)
  try rw [← hn]
  have p0 : ∀ w : World, Calls Tryz.prog 130 #[.int .u8 105] w (Rets (.tuple #[.int .i64 0, .int .i64 1]) (fun w' => w = w')) := fun w => rpop_any 105 w
  have t0 : N ≤ 900 := by omega
  have t1 : decide ((N : Int) < 0) = false := by simp <;> omega
  have t2 : IntKind.i64.wrap (N : Int) = (N : Int) := IntWalk.i64_in _ (by omega)
  have t3 : IntKind.i64.wrap ((N : Int) + 1) = (N : Int) + 1 := IntWalk.i64_in _ (by omega)
  have t4 : decide ((8 : Int) < (N : Int) + 1) = false := by simp; omega
  have hcap := hl.cap
  have t5 : (N : Int) ≤ (cap : Int) := by omega
  have hlenI := fun W ty => hin.len (P := Tryz.prog) Tryz.underlying22 W ty
  have hni' : (n : Int) < (ins.length : Int) := by omega
  have hn3 : decide ((ins.length : Int) ≤ (n : Int)) = false := by simp; omega
  have hx0 : ins[numN s].size ≤ 512 := hall _ (List.getElem_mem hni)
  obtain ⟨ad, hix, hadc, hadb⟩ := hin.ix (P := Tryz.prog) Tryz.underlying22 Tryz.sizeOf9 (numN s) hni
  obtain ⟨x, hx⟩ : ∃ x, x = ins[numN s] := ⟨_, rfl⟩
  rw [← hx] at hadc hx0 ⊢
  rw [← hn] at hix
  have hadg : ¬ w.heap.size ≤ ad.block := by omega
  have t9 : decide ((512 : Int) < (x.size : Int)) = false := by simp; omega
  have hg : ¬ w.heap.size ≤ g := by have := hl.lt; omega
  have HL := hid hl
  have HN := hid hN
  clear hl hN hcap hr hn hn2 hx hni hin hall hx0 hadb
  go_enter Tryz.func112, Tryz.ntmps112
  go_wp2_with (first | (go_at_call 130; refine (p0 _).mono ?_; rintro e w' ⟨rfl, rfl⟩) | (guard_target =~ wpList _ _ _ (Oper.mk (some 60) _ _ _ _ _ :: _) _ _; refine wpList_fresh_rest rfl _ _ rfl HL.out rfl rfl (r := r) (by rw [HN.out]; simp) HN.out (by omega) ?_; intro g1 cap1 w1 hf1; have d0 := hf1.cell hadc hadg) | (guard_target =~ wpList _ _ _ (Oper.mk (some 175) _ _ _ _ _ :: _) _ _; refine wpList_fresh_new rfl _ _ rfl hf1 (by omega) rfl _ rfl ?_; intro g2 cap2 w2 hf2))
  refine bodyPost_ret (v := .tuple #[.slice (some ⟨g2, 0, none⟩) (N + 1) cap2, .int .i64 (-1), .int .i64 0]) (by simp [results, Tryz.results112, go_sem] <;> rfl) rfl ?_
  exact hf2.ok _

set_option maxRecDepth 100000 in
set_option maxHeartbeats 2000000 in
theorem rstep_t1 {w : World} {g cap N : Nat} {r : List ByteArray} {b : ByteArray} (hl : RowT w g cap N (r ++ [b])) (hr : r.length + 1 ≤ 8) (_ : b.size ≤ 512) (inV : Value)
    (s : ByteArray) (hs1 : 1 ≤ s.size) (hs : 1 < s.size) (hs2 : s.size ≤ 300) (hc : s[0] = 116) (hnb : numN s < b.size) :
    Calls Tryz.prog 112 #[.slice (some ⟨g, 0, none⟩) N cap, .string s, inV] w (StepOk w (r ++ [b.extract 0 (numN s)]) (-1)) := by
  have hN : N = r.length + 1 := by rw [hl.len]; simp
  obtain ⟨R, hR⟩ : ∃ R, R = r.length := ⟨_, rfl⟩
  have hc' : ((s[0].toNat : Nat) : Int) = 116 := by rw [hc]; rfl
  have hs0 : (0 : Int) < s.size := by omega
  have ht1 : decide ((1 : Int) < s.size) = true := by simp; omega
  have ht2 : (1 : Int) < s.size := by omega
  obtain ⟨n, hn⟩ : ∃ n, n = numN s := ⟨_, rfl⟩
  have hn2 : numN s = s[1].toNat := by unfold numN; rw [dif_pos hs]
  have hn' : ((s[1].toNat : Nat) : Int) = (n : Int) := by rw [hn, hn2]
  have hn256 : n < 256 := by have := s[1].toNat_lt; omega
  have ht3 : IntKind.i64.wrap (n : Int) = (n : Int) := IntWalk.i64_in _ (by omega)
  try rw [← hn]
  have p0 : ∀ w : World, Calls Tryz.prog 130 #[.int .u8 116] w (Rets (.tuple #[.int .i64 1, .int .i64 1]) (fun w' => w = w')) := fun w => rpop_any 116 w
  have t0 : R ≤ 900 := by omega
  have t1 : decide ((N : Int) < 1) = false := by simp; omega
  have t2 : IntKind.i64.wrap ((N : Int) - 1) = (R : Int) := by rw [IntWalk.i64_in _ (by omega)]; omega
  have t3 : IntKind.i64.wrap ((R : Int) + 1) = (R : Int) + 1 := IntWalk.i64_in _ (by omega)
  have t4 : decide ((8 : Int) < (R : Int) + 1) = false := by simp; omega
  have hcap := hl.cap
  have t5 : (R : Int) ≤ (cap : Int) := by omega
  have t8 : (R : Int) < (N : Int) := by omega
  have c0 : w.cell? ⟨g, R, none⟩ = some (.string b) := hl.cellAt R b (by rw [hR]; simp)
  have hnb' : (n : Int) < (b.size : Int) := by omega
  have hnb2 : (n : Int) ≤ (b.size : Int) := by omega
  have t9 : decide ((512 : Int) < ((min n b.size : Nat) : Int)) = false := by simp; omega
  have t10 : (b.extract 0 n).size = min n b.size := by simp
  have t11 : ¬ (512 : Int) < ((min n b.size : Nat) : Int) := by omega
  have hg : ¬ w.heap.size ≤ g := by have := hl.lt; omega
  have HL := hid hl
  have HN := hid hN
  have HR := hid hR
  clear hl hN hcap hr hR hn hn2 hnb
  go_enter Tryz.func112, Tryz.ntmps112
  go_wp2_with (first | (go_at_call 130; refine (p0 _).mono ?_; rintro e w' ⟨rfl, rfl⟩) | (guard_target =~ wpList _ _ _ (Oper.mk (some 60) _ _ _ _ _ :: _) _ _; refine wpList_fresh_rest rfl _ _ rfl HL.out rfl rfl (r := r) (by rw [HR.out]; simp) HR.out (by omega) ?_; intro g1 cap1 w1 hf1; have d0 := hf1.cell c0 hg) | (guard_target =~ wpList _ _ _ (Oper.mk (some 175) _ _ _ _ _ :: _) _ _; refine wpList_fresh_new rfl _ _ rfl hf1 (by omega) rfl _ rfl ?_; intro g2 cap2 w2 hf2))
  refine bodyPost_ret (v := .tuple #[.slice (some ⟨g2, 0, none⟩) (R + 1) cap2, .int .i64 (-1), .int .i64 0]) (by simp [results, Tryz.results112, go_sem] <;> rfl) rfl ?_
  exact hf2.ok _

set_option maxRecDepth 100000 in
set_option maxHeartbeats 2000000 in
theorem rstep_t0 {w : World} {g cap N : Nat} {r : List ByteArray} {b : ByteArray} (hl : RowT w g cap N (r ++ [b])) (hr : r.length + 1 ≤ 8) (hb : b.size ≤ 512) (inV : Value)
    (s : ByteArray) (hs1 : 1 ≤ s.size) (hs : 1 < s.size) (hs2 : s.size ≤ 300) (hc : s[0] = 116) (hnb : ¬ numN s < b.size) :
    Calls Tryz.prog 112 #[.slice (some ⟨g, 0, none⟩) N cap, .string s, inV] w (StepOk w (r ++ [b]) (-1)) := by
  have hN : N = r.length + 1 := by rw [hl.len]; simp
  obtain ⟨R, hR⟩ : ∃ R, R = r.length := ⟨_, rfl⟩
  have hc' : ((s[0].toNat : Nat) : Int) = 116 := by rw [hc]; rfl
  have hs0 : (0 : Int) < s.size := by omega
  have ht1 : decide ((1 : Int) < s.size) = true := by simp; omega
  have ht2 : (1 : Int) < s.size := by omega
  obtain ⟨n, hn⟩ : ∃ n, n = numN s := ⟨_, rfl⟩
  have hn2 : numN s = s[1].toNat := by unfold numN; rw [dif_pos hs]
  have hn' : ((s[1].toNat : Nat) : Int) = (n : Int) := by rw [hn, hn2]
  have hn256 : n < 256 := by have := s[1].toNat_lt; omega
  have ht3 : IntKind.i64.wrap (n : Int) = (n : Int) := IntWalk.i64_in _ (by omega)
  try rw [← hn]
  have p0 : ∀ w : World, Calls Tryz.prog 130 #[.int .u8 116] w (Rets (.tuple #[.int .i64 1, .int .i64 1]) (fun w' => w = w')) := fun w => rpop_any 116 w
  have t0 : R ≤ 900 := by omega
  have t1 : decide ((N : Int) < 1) = false := by simp; omega
  have t2 : IntKind.i64.wrap ((N : Int) - 1) = (R : Int) := by rw [IntWalk.i64_in _ (by omega)]; omega
  have t3 : IntKind.i64.wrap ((R : Int) + 1) = (R : Int) + 1 := IntWalk.i64_in _ (by omega)
  have t4 : decide ((8 : Int) < (R : Int) + 1) = false := by simp; omega
  have hcap := hl.cap
  have t5 : (R : Int) ≤ (cap : Int) := by omega
  have t8 : (R : Int) < (N : Int) := by omega
  have c0 : w.cell? ⟨g, R, none⟩ = some (.string b) := hl.cellAt R b (by rw [hR]; simp)
  have hnb' : ¬ (n : Int) < (b.size : Int) := by omega
  have hnb2 : ¬ n < b.size := by omega
  have t9 : decide ((512 : Int) < (b.size : Int)) = false := by simp; omega
  have hg : ¬ w.heap.size ≤ g := by have := hl.lt; omega
  have HL := hid hl
  have HN := hid hN
  have HR := hid hR
  clear hl hN hcap hr hR hn hn2 hb hnb
  go_enter Tryz.func112, Tryz.ntmps112
  go_wp2_with (first | (go_at_call 130; refine (p0 _).mono ?_; rintro e w' ⟨rfl, rfl⟩) | (guard_target =~ wpList _ _ _ (Oper.mk (some 60) _ _ _ _ _ :: _) _ _; refine wpList_fresh_rest rfl _ _ rfl HL.out rfl rfl (r := r) (by rw [HR.out]; simp) HR.out (by omega) ?_; intro g1 cap1 w1 hf1; have d0 := hf1.cell c0 hg) | (guard_target =~ wpList _ _ _ (Oper.mk (some 175) _ _ _ _ _ :: _) _ _; refine wpList_fresh_new rfl _ _ rfl hf1 (by omega) rfl _ rfl ?_; intro g2 cap2 w2 hf2))
  refine bodyPost_ret (v := .tuple #[.slice (some ⟨g2, 0, none⟩) (R + 1) cap2, .int .i64 (-1), .int .i64 0]) (by simp [results, Tryz.results112, go_sem] <;> rfl) rfl ?_
  exact hf2.ok _

set_option maxRecDepth 100000 in
set_option maxHeartbeats 2000000 in
theorem rstep_k1 {w : World} {g cap N : Nat} {r : List ByteArray} {b : ByteArray} (hl : RowT w g cap N (r ++ [b])) (hr : r.length + 1 ≤ 8) (hb : b.size ≤ 512) (inV : Value)
    (s : ByteArray) (hs1 : 1 ≤ s.size) (hs : 1 < s.size) (hs2 : s.size ≤ 300) (hc : s[0] = 107) (hnb : numN s < b.size) :
    Calls Tryz.prog 112 #[.slice (some ⟨g, 0, none⟩) N cap, .string s, inV] w (StepOk w (r ++ [b.extract (numN s) b.size]) (-1)) := by
  have hN : N = r.length + 1 := by rw [hl.len]; simp
  obtain ⟨R, hR⟩ : ∃ R, R = r.length := ⟨_, rfl⟩
  have hc' : ((s[0].toNat : Nat) : Int) = 107 := by rw [hc]; rfl
  have hs0 : (0 : Int) < s.size := by omega
  have ht1 : decide ((1 : Int) < s.size) = true := by simp; omega
  have ht2 : (1 : Int) < s.size := by omega
  obtain ⟨n, hn⟩ : ∃ n, n = numN s := ⟨_, rfl⟩
  have hn2 : numN s = s[1].toNat := by unfold numN; rw [dif_pos hs]
  have hn' : ((s[1].toNat : Nat) : Int) = (n : Int) := by rw [hn, hn2]
  have hn256 : n < 256 := by have := s[1].toNat_lt; omega
  have ht3 : IntKind.i64.wrap (n : Int) = (n : Int) := IntWalk.i64_in _ (by omega)
  try rw [← hn]
  have p0 : ∀ w : World, Calls Tryz.prog 130 #[.int .u8 107] w (Rets (.tuple #[.int .i64 1, .int .i64 1]) (fun w' => w = w')) := fun w => rpop_any 107 w
  have t0 : R ≤ 900 := by omega
  have t1 : decide ((N : Int) < 1) = false := by simp; omega
  have t2 : IntKind.i64.wrap ((N : Int) - 1) = (R : Int) := by rw [IntWalk.i64_in _ (by omega)]; omega
  have t3 : IntKind.i64.wrap ((R : Int) + 1) = (R : Int) + 1 := IntWalk.i64_in _ (by omega)
  have t4 : decide ((8 : Int) < (R : Int) + 1) = false := by simp; omega
  have hcap := hl.cap
  have t5 : (R : Int) ≤ (cap : Int) := by omega
  have t8 : (R : Int) < (N : Int) := by omega
  have c0 : w.cell? ⟨g, R, none⟩ = some (.string b) := hl.cellAt R b (by rw [hR]; simp)
  have hnb' : (n : Int) < (b.size : Int) := by omega
  have hnb2 : (n : Int) ≤ (b.size : Int) := by omega
  have t10 : (b.extract n b.size).size = b.size - n := by simp
  have t9 : decide ((512 : Int) < ((b.size - n : Nat) : Int)) = false := by simp; omega
  have hg : ¬ w.heap.size ≤ g := by have := hl.lt; omega
  have HL := hid hl
  have HN := hid hN
  have HR := hid hR
  clear hl hN hcap hr hR hn hn2 hb hnb
  go_enter Tryz.func112, Tryz.ntmps112
  go_wp2_with (first | (go_at_call 130; refine (p0 _).mono ?_; rintro e w' ⟨rfl, rfl⟩) | (guard_target =~ wpList _ _ _ (Oper.mk (some 60) _ _ _ _ _ :: _) _ _; refine wpList_fresh_rest rfl _ _ rfl HL.out rfl rfl (r := r) (by rw [HR.out]; simp) HR.out (by omega) ?_; intro g1 cap1 w1 hf1; have d0 := hf1.cell c0 hg) | (guard_target =~ wpList _ _ _ (Oper.mk (some 175) _ _ _ _ _ :: _) _ _; refine wpList_fresh_new rfl _ _ rfl hf1 (by omega) rfl _ rfl ?_; intro g2 cap2 w2 hf2))
  refine bodyPost_ret (v := .tuple #[.slice (some ⟨g2, 0, none⟩) (R + 1) cap2, .int .i64 (-1), .int .i64 0]) (by simp [results, Tryz.results112, go_sem] <;> rfl) rfl ?_
  exact hf2.ok _

set_option maxRecDepth 100000 in
set_option maxHeartbeats 2000000 in
theorem rstep_k0 {w : World} {g cap N : Nat} {r : List ByteArray} {b : ByteArray} (hl : RowT w g cap N (r ++ [b])) (hr : r.length + 1 ≤ 8) (_ : b.size ≤ 512) (inV : Value)
    (s : ByteArray) (hs1 : 1 ≤ s.size) (hs : 1 < s.size) (hs2 : s.size ≤ 300) (hc : s[0] = 107) (hnb : ¬ numN s < b.size) :
    Calls Tryz.prog 112 #[.slice (some ⟨g, 0, none⟩) N cap, .string s, inV] w (StepOk w (r ++ [{ data := #[] }]) (-1)) := by
  have hN : N = r.length + 1 := by rw [hl.len]; simp
  obtain ⟨R, hR⟩ : ∃ R, R = r.length := ⟨_, rfl⟩
  have hc' : ((s[0].toNat : Nat) : Int) = 107 := by rw [hc]; rfl
  have hs0 : (0 : Int) < s.size := by omega
  have ht1 : decide ((1 : Int) < s.size) = true := by simp; omega
  have ht2 : (1 : Int) < s.size := by omega
  obtain ⟨n, hn⟩ : ∃ n, n = numN s := ⟨_, rfl⟩
  have hn2 : numN s = s[1].toNat := by unfold numN; rw [dif_pos hs]
  have hn' : ((s[1].toNat : Nat) : Int) = (n : Int) := by rw [hn, hn2]
  have hn256 : n < 256 := by have := s[1].toNat_lt; omega
  have ht3 : IntKind.i64.wrap (n : Int) = (n : Int) := IntWalk.i64_in _ (by omega)
  try rw [← hn]
  have p0 : ∀ w : World, Calls Tryz.prog 130 #[.int .u8 107] w (Rets (.tuple #[.int .i64 1, .int .i64 1]) (fun w' => w = w')) := fun w => rpop_any 107 w
  have t0 : R ≤ 900 := by omega
  have t1 : decide ((N : Int) < 1) = false := by simp; omega
  have t2 : IntKind.i64.wrap ((N : Int) - 1) = (R : Int) := by rw [IntWalk.i64_in _ (by omega)]; omega
  have t3 : IntKind.i64.wrap ((R : Int) + 1) = (R : Int) + 1 := IntWalk.i64_in _ (by omega)
  have t4 : decide ((8 : Int) < (R : Int) + 1) = false := by simp; omega
  have hcap := hl.cap
  have t5 : (R : Int) ≤ (cap : Int) := by omega
  have t8 : (R : Int) < (N : Int) := by omega
  have c0 : w.cell? ⟨g, R, none⟩ = some (.string b) := hl.cellAt R b (by rw [hR]; simp)
  have hnb' : ¬ (n : Int) < (b.size : Int) := by omega
  have hnb2 : ¬ n < b.size := by omega
  have hg : ¬ w.heap.size ≤ g := by have := hl.lt; omega
  have HL := hid hl
  have HN := hid hN
  have HR := hid hR
  clear hl hN hcap hr hR hn hn2 hnb
  go_enter Tryz.func112, Tryz.ntmps112
  go_wp2_with (first | (go_at_call 130; refine (p0 _).mono ?_; rintro e w' ⟨rfl, rfl⟩) | (guard_target =~ wpList _ _ _ (Oper.mk (some 60) _ _ _ _ _ :: _) _ _; refine wpList_fresh_rest rfl _ _ rfl HL.out rfl rfl (r := r) (by rw [HR.out]; simp) HR.out (by omega) ?_; intro g1 cap1 w1 hf1; have d0 := hf1.cell c0 hg) | (guard_target =~ wpList _ _ _ (Oper.mk (some 175) _ _ _ _ _ :: _) _ _; refine wpList_fresh_new rfl _ _ rfl hf1 (by omega) rfl _ rfl ?_; intro g2 cap2 w2 hf2))
  refine bodyPost_ret (v := .tuple #[.slice (some ⟨g2, 0, none⟩) (R + 1) cap2, .int .i64 (-1), .int .i64 0]) (by simp [results, Tryz.results112, go_sem] <;> rfl) rfl ?_
  exact hf2.ok _

set_option maxRecDepth 100000 in
set_option maxHeartbeats 2000000 in
theorem rstep_l {w : World} {g cap N : Nat} {r : List ByteArray} {b : ByteArray} (hl : RowT w g cap N (r ++ [b])) (hr : r.length + 1 ≤ 8) (hb : b.size ≤ 512) (inV : Value)
    (s : ByteArray) (hs1 : 1 ≤ s.size) (hs : s.size = 1) (hc : s[0] = 108) :
    Calls Tryz.prog 112 #[.slice (some ⟨g, 0, none⟩) N cap, .string s, inV] w (StepOk w (r ++ [decS b.size]) (-1)) := by
  have hN : N = r.length + 1 := by rw [hl.len]; simp
  obtain ⟨R, hR⟩ : ∃ R, R = r.length := ⟨_, rfl⟩
  have hc' : ((s[0].toNat : Nat) : Int) = 108 := by rw [hc]; rfl
  have hs0 : (0 : Int) < s.size := by omega
  have ht1 : decide ((1 : Int) < s.size) = false := by simp; omega
  have p0 : ∀ w : World, Calls Tryz.prog 130 #[.int .u8 108] w (Rets (.tuple #[.int .i64 1, .int .i64 1]) (fun w' => w = w')) := fun w => rpop_any 108 w
  have t0 : R ≤ 900 := by omega
  have t1 : decide ((N : Int) < 1) = false := by simp; omega
  have t2 : IntKind.i64.wrap ((N : Int) - 1) = (R : Int) := by rw [IntWalk.i64_in _ (by omega)]; omega
  have t3 : IntKind.i64.wrap ((R : Int) + 1) = (R : Int) + 1 := IntWalk.i64_in _ (by omega)
  have t4 : decide ((8 : Int) < (R : Int) + 1) = false := by simp; omega
  have hcap := hl.cap
  have t5 : (R : Int) ≤ (cap : Int) := by omega
  have t8 : (R : Int) < (N : Int) := by omega
  have c0 : w.cell? ⟨g, R, none⟩ = some (.string b) := hl.cellAt R b (by rw [hR]; simp)
  have hdg : ∀ w : World, Calls Tryz.prog 131 #[.int .i64 b.size] w (Rets (.string (decS b.size)) (fun w' => ∃ m, w' = w.drewN m)) := fun w => rdigits_any b.size (by omega) w
  have hds := decS_digs b.size (by omega)
  obtain ⟨q, hq⟩ : ∃ q, q = decS b.size := ⟨_, rfl⟩
  rw [← hq] at hdg hds ⊢
  have t9 : decide ((512 : Int) < (q.size : Int)) = false := by simp; omega
  have hg : ¬ w.heap.size ≤ g := by have := hl.lt; omega
  have HL := hid hl
  have HN := hid hN
  have HR := hid hR
  have HS := hid hs
  clear hl hs hN hcap hr hR hb hq hds
  go_enter Tryz.func112, Tryz.ntmps112
  go_wp2_with (first | (go_at_call 130; refine (p0 _).mono ?_; rintro e w' ⟨rfl, rfl⟩) | (guard_target =~ wpList _ _ _ (Oper.mk (some 60) _ _ _ _ _ :: _) _ _; refine wpList_fresh_rest rfl _ _ rfl HL.out rfl rfl (r := r) (by rw [HR.out]; simp) HR.out (by omega) ?_; intro g1 cap1 w1 hf1; have d0 := hf1.cell c0 hg) | (go_at_call 131; refine (hdg _).mono ?_; rintro e w2 ⟨rfl, m, hw⟩; have hf2 := hf1.moveN hw; clear hw) | (guard_target =~ wpList _ _ _ (Oper.mk (some 175) _ _ _ _ _ :: _) _ _; refine wpList_fresh_new rfl _ _ rfl hf2 (by omega) rfl _ rfl ?_; intro g3 cap3 w3 hf3))
  refine bodyPost_ret (v := .tuple #[.slice (some ⟨g3, 0, none⟩) (R + 1) cap3, .int .i64 (-1), .int .i64 0]) (by simp [results, Tryz.results112, go_sem] <;> rfl) rfl ?_
  exact hf3.ok _

set_option maxRecDepth 100000 in
set_option maxHeartbeats 2000000 in
theorem rstep_h {w : World} {g cap N : Nat} {r : List ByteArray} {b : ByteArray} (hl : RowT w g cap N (r ++ [b])) (hr : r.length + 1 ≤ 8) (hb : b.size ≤ 512) (inV : Value)
    (s : ByteArray) (hs1 : 1 ≤ s.size) (hs : s.size = 1) (hc : s[0] = 104) :
    Calls Tryz.prog 112 #[.slice (some ⟨g, 0, none⟩) N cap, .string s, inV] w (StepOk w (r ++ [hashS b]) (-1)) := by
  have hN : N = r.length + 1 := by rw [hl.len]; simp
  obtain ⟨R, hR⟩ : ∃ R, R = r.length := ⟨_, rfl⟩
  have hc' : ((s[0].toNat : Nat) : Int) = 104 := by rw [hc]; rfl
  have hs0 : (0 : Int) < s.size := by omega
  have ht1 : decide ((1 : Int) < s.size) = false := by simp; omega
  have p0 : ∀ w : World, Calls Tryz.prog 130 #[.int .u8 104] w (Rets (.tuple #[.int .i64 1, .int .i64 1]) (fun w' => w = w')) := fun w => rpop_any 104 w
  have t0 : R ≤ 900 := by omega
  have t1 : decide ((N : Int) < 1) = false := by simp; omega
  have t2 : IntKind.i64.wrap ((N : Int) - 1) = (R : Int) := by rw [IntWalk.i64_in _ (by omega)]; omega
  have t3 : IntKind.i64.wrap ((R : Int) + 1) = (R : Int) + 1 := IntWalk.i64_in _ (by omega)
  have t4 : decide ((8 : Int) < (R : Int) + 1) = false := by simp; omega
  have hcap := hl.cap
  have t5 : (R : Int) ≤ (cap : Int) := by omega
  have t8 : (R : Int) < (N : Int) := by omega
  have c0 : w.cell? ⟨g, R, none⟩ = some (.string b) := hl.cellAt R b (by rw [hR]; simp)
  have hof : ∀ w : World, Calls Tryz.prog 70 #[.string b] w (Rets (.agg (rowB 32 (ofB [b]))) (Chg (fun _ => False) w)) := fun w => rof_any b (by omega) w
  have hby : ∀ w : World, Calls Tryz.prog 69 #[.agg (rowB 32 (ofB [b]))] w (Rets (.string (hashS b)) (Chg (fun _ => False) w)) := fun w => rBytes_any (ofB [b]) w
  have hds := hashS_size b
  obtain ⟨q, hq⟩ : ∃ q, q = hashS b := ⟨_, rfl⟩
  rw [← hq] at hby hds ⊢
  generalize ofB [b] = D at hof hby
  have t9 : decide ((512 : Int) < (q.size : Int)) = false := by simp; omega
  have hg : ¬ w.heap.size ≤ g := by have := hl.lt; omega
  have HL := hid hl
  have HN := hid hN
  have HR := hid hR
  have HS := hid hs
  clear hl hs hN hcap hr hR hb hq hds
  go_enter Tryz.func112, Tryz.ntmps112
  go_wp2_with (first | (go_at_call 130; refine (p0 _).mono ?_; rintro e w' ⟨rfl, rfl⟩) | (guard_target =~ wpList _ _ _ (Oper.mk (some 60) _ _ _ _ _ :: _) _ _; refine wpList_fresh_rest rfl _ _ rfl HL.out rfl rfl (r := r) (by rw [HR.out]; simp) HR.out (by omega) ?_; intro g1 cap1 w1 hf1; have d0 := hf1.cell c0 hg) | (go_at_call 70; refine (hof _).mono ?_; rintro e w2 ⟨rfl, hc2⟩; have hf2 := hf1.move hc2; clear hc2) | (go_at_call 69; refine (hby _).mono ?_; rintro e w3 ⟨rfl, hc3⟩; have hf3 := hf2.move hc3; clear hc3) | (guard_target =~ wpList _ _ _ (Oper.mk (some 175) _ _ _ _ _ :: _) _ _; refine wpList_fresh_new rfl _ _ rfl hf3 (by omega) rfl _ rfl ?_; intro g4 cap4 w4 hf4))
  refine bodyPost_ret (v := .tuple #[.slice (some ⟨g4, 0, none⟩) (R + 1) cap4, .int .i64 (-1), .int .i64 0]) (by simp [results, Tryz.results112, go_sem] <;> rfl) rfl ?_
  exact hf4.ok _

set_option maxRecDepth 100000 in
set_option maxHeartbeats 2000000 in
theorem rstep_r {w : World} {g cap N : Nat} {r : List ByteArray} {b : ByteArray} (hl : RowT w g cap N (r ++ [b])) (hr : r.length + 1 ≤ 8) (hb : b.size ≤ 512) (inV : Value)
    (s : ByteArray) (hs1 : 1 ≤ s.size) (hs : s.size = 1) (hc : s[0] = 114) :
    Calls Tryz.prog 112 #[.slice (some ⟨g, 0, none⟩) N cap, .string s, inV] w (StepOk w (r ++ [revS b]) (-1)) := by
  have hN : N = r.length + 1 := by rw [hl.len]; simp
  obtain ⟨R, hR⟩ : ∃ R, R = r.length := ⟨_, rfl⟩
  have hc' : ((s[0].toNat : Nat) : Int) = 114 := by rw [hc]; rfl
  have hs0 : (0 : Int) < s.size := by omega
  have ht1 : decide ((1 : Int) < s.size) = false := by simp; omega
  have p0 : ∀ w : World, Calls Tryz.prog 130 #[.int .u8 114] w (Rets (.tuple #[.int .i64 1, .int .i64 1]) (fun w' => w = w')) := fun w => rpop_any 114 w
  have t0 : R ≤ 900 := by omega
  have t1 : decide ((N : Int) < 1) = false := by simp; omega
  have t2 : IntKind.i64.wrap ((N : Int) - 1) = (R : Int) := by rw [IntWalk.i64_in _ (by omega)]; omega
  have t3 : IntKind.i64.wrap ((R : Int) + 1) = (R : Int) + 1 := IntWalk.i64_in _ (by omega)
  have t4 : decide ((8 : Int) < (R : Int) + 1) = false := by simp; omega
  have hcap := hl.cap
  have t5 : (R : Int) ≤ (cap : Int) := by omega
  have t8 : (R : Int) < (N : Int) := by omega
  have c0 : w.cell? ⟨g, R, none⟩ = some (.string b) := hl.cellAt R b (by rw [hR]; simp)
  have hrv0 := frev_all b
  have hb63 : b.size ≤ 512 := hb
  have t9 : decide ((512 : Int) < ((revS b).size : Int)) = false := by rw [revS_size]; simp; omega
  obtain ⟨q, hq⟩ : ∃ q, q = revS b := ⟨_, rfl⟩
  rw [← hq] at hrv0 t9 ⊢
  have hrv := hid hrv0
  have hg : ¬ w.heap.size ≤ g := by have := hl.lt; omega
  have HL := hid hl
  have HN := hid hN
  have HR := hid hR
  have HS := hid hs
  clear hl hs hN hcap hr hR hb hq hrv0
  go_enter Tryz.func112, Tryz.ntmps112
  go_wp2_with (first | (go_at_call 130; refine (p0 _).mono ?_; rintro e w' ⟨rfl, rfl⟩) | (guard_target =~ wpList _ _ _ (Oper.mk (some 60) _ _ _ _ _ :: _) _ _; refine wpList_fresh_rest rfl _ _ rfl HL.out rfl rfl (r := r) (by rw [HR.out]; simp) HR.out (by omega) ?_; intro g1 cap1 w1 hf1; have d0 := hf1.cell c0 hg))
  go_loop [17, 18] (fun t i => ∃ k : Nat, k ≤ b.size ∧ i = .int .i64 k ∧ t = .string (revS (b.extract 0 k))) (fun _ i => b.size - (intOf i).toNat)
  case atStart => exact ⟨0, Nat.zero_le _, rfl, by simp [revS]⟩
  case round =>
    obtain ⟨k, hk, rfl, rfl⟩ := hrel
    by_cases hkn : k < b.size
    · have hkn' : (k : Int) < (b.size : Int) := by omega
      have hk1 : (k : Int) + 1 ≤ (b.size : Int) := by omega
      have hk2 : (k : Int) ≤ (k : Int) + 1 := by omega
      have hk3 : IntKind.i64.wrap ((k : Int) + 1) = (k : Int) + 1 := IntWalk.i64_in _ (by omega)
      have hk4 : ((k : Int) + 1).toNat = k + 1 := by omega
      have zk : ¬ 9223372036854775807 < (b.extract k (k + 1)).size + (revS (b.extract 0 k)).size := by rw [revS_size, ByteArray.size_extract, ByteArray.size_extract]; omega
      go_wp2_with fail
      go_round
      case rel => exact ⟨k + 1, by omega, by go_num, by rw [frev_next b k hkn]⟩
      case measure => simp [intOf]; omega
    · obtain rfl : k = b.size := by omega
      rw [hrv.out]
      go_wp2_with (first | (guard_target =~ wpList _ _ _ (Oper.mk (some 175) _ _ _ _ _ :: _) _ _; refine wpList_fresh_new rfl _ _ rfl hf1 (by omega) rfl _ rfl ?_; intro g2 cap2 w2 hf2))
      refine bodyPost_ret (v := .tuple #[.slice (some ⟨g2, 0, none⟩) (R + 1) cap2, .int .i64 (-1), .int .i64 0]) (by simp [results, Tryz.results112, go_sem] <;> rfl) rfl ?_
      exact hf2.ok _

set_option maxRecDepth 100000 in
set_option maxHeartbeats 2000000 in
theorem rstep_bad {w : World} (lv : Value) {inV : Value} {ins : List ByteArray} (hin : StrsAt w inV ins) (s : ByteArray) (hs1 : 1 ≤ s.size) (hs : 1 < s.size) (hc : s[0] = 105) (hn : ins.length ≤ numN s) :
    Calls Tryz.prog 112 #[lv, .string s, inV] w (Rets (.tuple #[.slice none 0 0, .int .i64 (-1), .int .i64 32]) (Chg (fun _ => False) w)) := by
  have hc' : ((s[0].toNat : Nat) : Int) = 105 := by rw [hc]; rfl
  have hs0 : (0 : Int) < s.size := by omega
  have ht1 : decide ((1 : Int) < s.size) = true := by simp; omega
  have ht2 : (1 : Int) < s.size := by omega
  obtain ⟨n, hn'⟩ : ∃ n, n = numN s := ⟨_, rfl⟩
  have hn2 : numN s = s[1].toNat := by unfold numN; rw [dif_pos hs]
  have hn3 : ((s[1].toNat : Nat) : Int) = (n : Int) := by rw [hn', hn2]
  have hn256 : n < 256 := by have := s[1].toNat_lt; omega
  have ht3 : IntKind.i64.wrap (n : Int) = (n : Int) := IntWalk.i64_in _ (by omega)
  have hn4 : (ins.length : Int) ≤ (n : Int) := by omega
  have hlenI := fun W ty => hin.len (P := Tryz.prog) Tryz.underlying22 W ty
  clear hn hn' hn2 hin
  go_enter Tryz.func112, Tryz.ntmps112
  go_wp2_with fail
  refine bodyPost_ret (v := .tuple #[.slice none 0 0, .int .i64 (-1), .int .i64 32]) (by simp [results, Tryz.results112, go_sem] <;> rfl) rfl ?_
  exact ⟨rfl, Chg.refl _ w⟩

set_option maxRecDepth 100000 in
set_option maxHeartbeats 2000000 in
theorem rstep_few0 {w : World} (oa : Option Addr) (N cap : Nat) (_ : N ≤ 8) {inV : Value} (s : ByteArray) (hs1 : 1 ≤ s.size) (hs : ¬ 1 < s.size) (hc : s[0] ≠ 105) (hl : (N : Int) < popT (s[0].toNat : Nat)) :
    Calls Tryz.prog 112 #[.slice oa N cap, .string s, inV] w (Rets (.tuple #[.slice none 0 0, .int .i64 (-1), .int .i64 31]) (Chg (fun _ => False) w)) := by
  have hs0 : (0 : Int) < s.size := by omega
  have ht1 : decide ((1 : Int) < s.size) = false := by simp; omega
  have hc' : ((s[0].toNat : Nat) : Int) ≠ 105 := by
    intro e
    exact hc (UInt8.toNat_inj.1 (by have : (105 : UInt8).toNat = 105 := rfl; omega))
  have p0 : ∀ w : World, Calls Tryz.prog 130 #[.int .u8 (s[0].toNat : Nat)] w (Rets (.tuple #[.int .i64 (popT (s[0].toNat : Nat)), .int .i64 (popG (s[0].toNat : Nat))]) (fun w' => w = w')) := fun w => rpop_any _ w
  have hP := popT_in (s[0].toNat : Nat)
  have hG := popG_in (s[0].toNat : Nat)
  obtain ⟨c, hcs⟩ : ∃ c, ((s[0].toNat : Nat) : Int) = c := ⟨_, rfl⟩
  rw [hcs] at hc' p0 hP hG hl
  have hc2 : (c == 105) = false := by simp; exact hc'
  generalize popT c = P at hl p0 hP
  generalize popG c = G at p0 hG
  have t1 : decide ((N : Int) < P) = true := by simp; omega
  clear hl hP hG hs
  go_enter Tryz.func112, Tryz.ntmps112
  go_wp2_with (go_at_call 130; refine (p0 _).mono ?_; rintro e w' ⟨rfl, rfl⟩)
  refine bodyPost_ret (v := .tuple #[.slice none 0 0, .int .i64 (-1), .int .i64 31]) (by simp [results, Tryz.results112, go_sem] <;> rfl) rfl ?_
  exact ⟨rfl, Chg.refl _ w⟩

set_option maxRecDepth 100000 in
set_option maxHeartbeats 2000000 in
theorem rstep_few1 {w : World} (oa : Option Addr) (N cap : Nat) (_ : N ≤ 8) {inV : Value} (s : ByteArray) (hs1 : 1 ≤ s.size) (hs : 1 < s.size) (hc : s[0] ≠ 105) (hl : (N : Int) < popT (s[0].toNat : Nat)) :
    Calls Tryz.prog 112 #[.slice oa N cap, .string s, inV] w (Rets (.tuple #[.slice none 0 0, .int .i64 (-1), .int .i64 31]) (Chg (fun _ => False) w)) := by
  have hs0 : (0 : Int) < s.size := by omega
  have ht1 : decide ((1 : Int) < s.size) = true := by simp; omega
  have ht2 : (1 : Int) < s.size := by omega
  obtain ⟨n, hn⟩ : ∃ n, n = numN s := ⟨_, rfl⟩
  have hn2 : numN s = s[1].toNat := by unfold numN; rw [dif_pos hs]
  have hn' : ((s[1].toNat : Nat) : Int) = (n : Int) := by rw [hn, hn2]
  have hn256 : n < 256 := by have := s[1].toNat_lt; omega
  have ht3 : IntKind.i64.wrap (n : Int) = (n : Int) := IntWalk.i64_in _ (by omega)
  have hc' : ((s[0].toNat : Nat) : Int) ≠ 105 := by
    intro e
    exact hc (UInt8.toNat_inj.1 (by have : (105 : UInt8).toNat = 105 := rfl; omega))
  have p0 : ∀ w : World, Calls Tryz.prog 130 #[.int .u8 (s[0].toNat : Nat)] w (Rets (.tuple #[.int .i64 (popT (s[0].toNat : Nat)), .int .i64 (popG (s[0].toNat : Nat))]) (fun w' => w = w')) := fun w => rpop_any _ w
  have hP := popT_in (s[0].toNat : Nat)
  have hG := popG_in (s[0].toNat : Nat)
  obtain ⟨c, hcs⟩ : ∃ c, ((s[0].toNat : Nat) : Int) = c := ⟨_, rfl⟩
  rw [hcs] at hc' p0 hP hG hl
  have hc2 : (c == 105) = false := by simp; exact hc'
  generalize popT c = P at hl p0 hP
  generalize popG c = G at p0 hG
  have t1 : decide ((N : Int) < P) = true := by simp; omega
  clear hl hP hG hn hn2
  go_enter Tryz.func112, Tryz.ntmps112
  go_wp2_with (go_at_call 130; refine (p0 _).mono ?_; rintro e w' ⟨rfl, rfl⟩)
  refine bodyPost_ret (v := .tuple #[.slice none 0 0, .int .i64 (-1), .int .i64 31]) (by simp [results, Tryz.results112, go_sem] <;> rfl) rfl ?_
  exact ⟨rfl, Chg.refl _ w⟩

set_option maxRecDepth 100000 in
set_option maxHeartbeats 2000000 in
theorem rstep_full0 {w : World} (oa : Option Addr) (N cap : Nat) (hN : N ≤ 8) {inV : Value} (s : ByteArray) (hs1 : 1 ≤ s.size) (hs : ¬ 1 < s.size) (hc : s[0] ≠ 105) (hl : ¬ (N : Int) < popT (s[0].toNat : Nat)) (hf : 8 < (N : Int) - popT (s[0].toNat : Nat) + popG (s[0].toNat : Nat)) :
    Calls Tryz.prog 112 #[.slice oa N cap, .string s, inV] w (Rets (.tuple #[.slice none 0 0, .int .i64 (-1), .int .i64 31]) (Chg (fun _ => False) w)) := by
  have hs0 : (0 : Int) < s.size := by omega
  have ht1 : decide ((1 : Int) < s.size) = false := by simp; omega
  have hc' : ((s[0].toNat : Nat) : Int) ≠ 105 := by
    intro e
    exact hc (UInt8.toNat_inj.1 (by have : (105 : UInt8).toNat = 105 := rfl; omega))
  have p0 : ∀ w : World, Calls Tryz.prog 130 #[.int .u8 (s[0].toNat : Nat)] w (Rets (.tuple #[.int .i64 (popT (s[0].toNat : Nat)), .int .i64 (popG (s[0].toNat : Nat))]) (fun w' => w = w')) := fun w => rpop_any _ w
  have hP := popT_in (s[0].toNat : Nat)
  have hG := popG_in (s[0].toNat : Nat)
  obtain ⟨c, hcs⟩ : ∃ c, ((s[0].toNat : Nat) : Int) = c := ⟨_, rfl⟩
  rw [hcs] at hc' p0 hP hG hl hf
  have hc2 : (c == 105) = false := by simp; exact hc'
  generalize popT c = P at hl hf p0 hP
  generalize popG c = G at hf p0 hG
  have t1 : decide ((N : Int) < P) = false := by simp; omega
  have t2 : IntKind.i64.wrap ((N : Int) - P) = (N : Int) - P := IntWalk.i64_in _ (by omega)
  have t3 : IntKind.i64.wrap ((N : Int) - P + G) = (N : Int) - P + G := IntWalk.i64_in _ (by omega)
  have t4 : decide ((8 : Int) < (N : Int) - P + G) = true := by simp; omega
  clear hl hP hG hN hf hs
  go_enter Tryz.func112, Tryz.ntmps112
  go_wp2_with (go_at_call 130; refine (p0 _).mono ?_; rintro e w' ⟨rfl, rfl⟩)
  refine bodyPost_ret (v := .tuple #[.slice none 0 0, .int .i64 (-1), .int .i64 31]) (by simp [results, Tryz.results112, go_sem] <;> rfl) rfl ?_
  exact ⟨rfl, Chg.refl _ w⟩

set_option maxRecDepth 100000 in
set_option maxHeartbeats 2000000 in
theorem rstep_full1 {w : World} (oa : Option Addr) (N cap : Nat) (hN : N ≤ 8) {inV : Value} (s : ByteArray) (hs1 : 1 ≤ s.size) (hs : 1 < s.size) (hc : s[0] ≠ 105) (hl : ¬ (N : Int) < popT (s[0].toNat : Nat)) (hf : 8 < (N : Int) - popT (s[0].toNat : Nat) + popG (s[0].toNat : Nat)) :
    Calls Tryz.prog 112 #[.slice oa N cap, .string s, inV] w (Rets (.tuple #[.slice none 0 0, .int .i64 (-1), .int .i64 31]) (Chg (fun _ => False) w)) := by
  have hs0 : (0 : Int) < s.size := by omega
  have ht1 : decide ((1 : Int) < s.size) = true := by simp; omega
  have ht2 : (1 : Int) < s.size := by omega
  obtain ⟨n, hn⟩ : ∃ n, n = numN s := ⟨_, rfl⟩
  have hn2 : numN s = s[1].toNat := by unfold numN; rw [dif_pos hs]
  have hn' : ((s[1].toNat : Nat) : Int) = (n : Int) := by rw [hn, hn2]
  have hn256 : n < 256 := by have := s[1].toNat_lt; omega
  have ht3 : IntKind.i64.wrap (n : Int) = (n : Int) := IntWalk.i64_in _ (by omega)
  have hc' : ((s[0].toNat : Nat) : Int) ≠ 105 := by
    intro e
    exact hc (UInt8.toNat_inj.1 (by have : (105 : UInt8).toNat = 105 := rfl; omega))
  have p0 : ∀ w : World, Calls Tryz.prog 130 #[.int .u8 (s[0].toNat : Nat)] w (Rets (.tuple #[.int .i64 (popT (s[0].toNat : Nat)), .int .i64 (popG (s[0].toNat : Nat))]) (fun w' => w = w')) := fun w => rpop_any _ w
  have hP := popT_in (s[0].toNat : Nat)
  have hG := popG_in (s[0].toNat : Nat)
  obtain ⟨c, hcs⟩ : ∃ c, ((s[0].toNat : Nat) : Int) = c := ⟨_, rfl⟩
  rw [hcs] at hc' p0 hP hG hl hf
  have hc2 : (c == 105) = false := by simp; exact hc'
  generalize popT c = P at hl hf p0 hP
  generalize popG c = G at hf p0 hG
  have t1 : decide ((N : Int) < P) = false := by simp; omega
  have t2 : IntKind.i64.wrap ((N : Int) - P) = (N : Int) - P := IntWalk.i64_in _ (by omega)
  have t3 : IntKind.i64.wrap ((N : Int) - P + G) = (N : Int) - P + G := IntWalk.i64_in _ (by omega)
  have t4 : decide ((8 : Int) < (N : Int) - P + G) = true := by simp; omega
  clear hl hP hG hN hf hn hn2
  go_enter Tryz.func112, Tryz.ntmps112
  go_wp2_with (go_at_call 130; refine (p0 _).mono ?_; rintro e w' ⟨rfl, rfl⟩)
  refine bodyPost_ret (v := .tuple #[.slice none 0 0, .int .i64 (-1), .int .i64 31]) (by simp [results, Tryz.results112, go_sem] <;> rfl) rfl ?_
  exact ⟨rfl, Chg.refl _ w⟩

set_option maxRecDepth 100000 in
set_option maxHeartbeats 2000000 in
theorem rstep_fulli {w : World} (oa : Option Addr) (N cap : Nat) (hN : N ≤ 8) {inV : Value} {ins : List ByteArray} (hin : StrsAt w inV ins) (s : ByteArray) (hs1 : 1 ≤ s.size) (hs : 1 < s.size) (hc : s[0] = 105) (hni : numN s < ins.length) (hl : ¬ (N : Int) < popT (s[0].toNat : Nat)) (hf : 8 < (N : Int) - popT (s[0].toNat : Nat) + popG (s[0].toNat : Nat)) :
    Calls Tryz.prog 112 #[.slice oa N cap, .string s, inV] w (Rets (.tuple #[.slice none 0 0, .int .i64 (-1), .int .i64 31]) (Chg (fun _ => False) w)) := by
  have hs0 : (0 : Int) < s.size := by omega
  have ht1 : decide ((1 : Int) < s.size) = true := by simp; omega
  have ht2 : (1 : Int) < s.size := by omega
  obtain ⟨n, hn⟩ : ∃ n, n = numN s := ⟨_, rfl⟩
  have hn2 : numN s = s[1].toNat := by unfold numN; rw [dif_pos hs]
  have hn' : ((s[1].toNat : Nat) : Int) = (n : Int) := by rw [hn, hn2]
  have hn256 : n < 256 := by have := s[1].toNat_lt; omega
  have ht3 : IntKind.i64.wrap (n : Int) = (n : Int) := IntWalk.i64_in _ (by omega)
  have hc' : ((s[0].toNat : Nat) : Int) = 105 := by rw [hc]; rfl
  have hlenI := fun W ty => hin.len (P := Tryz.prog) Tryz.underlying22 W ty
  have hni' : ¬ (ins.length : Int) ≤ (n : Int) := by omega
  rw [hc'] at hl hf
  have hP : popT 105 = 0 := rfl
  have hG : popG 105 = 1 := rfl
  have p0 : ∀ w : World, Calls Tryz.prog 130 #[.int .u8 105] w (Rets (.tuple #[.int .i64 (popT 105), .int .i64 (popG 105)]) (fun w' => w = w')) := fun w => rpop_any _ w
  generalize popT 105 = P at hl hf p0 hP
  generalize popG 105 = G at hf p0 hG
  have t1 : decide ((N : Int) < P) = false := by simp; omega
  have t2 : IntKind.i64.wrap ((N : Int) - P) = (N : Int) - P := IntWalk.i64_in _ (by omega)
  have t3 : IntKind.i64.wrap ((N : Int) - P + G) = (N : Int) - P + G := IntWalk.i64_in _ (by omega)
  have t4 : decide ((8 : Int) < (N : Int) - P + G) = true := by simp; omega
  clear hl hP hG hN hf hni hn hn2 hin
  go_enter Tryz.func112, Tryz.ntmps112
  go_wp2_with (go_at_call 130; refine (p0 _).mono ?_; rintro e w' ⟨rfl, rfl⟩)
  refine bodyPost_ret (v := .tuple #[.slice none 0 0, .int .i64 (-1), .int .i64 31]) (by simp [results, Tryz.results112, go_sem] <;> rfl) rfl ?_
  exact ⟨rfl, Chg.refl _ w⟩

end Go.Proofs.YthglfmacjoecgaaGreatDoor
