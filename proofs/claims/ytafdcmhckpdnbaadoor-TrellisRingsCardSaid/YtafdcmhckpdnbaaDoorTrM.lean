/- apiarylaw08: action, in; apiaryref08.Ints walked. -/
import Derived.Test.YtafdcmhckpdnbaaDoorTrL
import Derived.Test.YtafdcmhckpdnbaaDoorTfD
namespace Go.Proofs.YtafdcmhckpdnbaaDoor
open Go.RowKit

set_option maxRecDepth 100000 in
theorem action_any (s : ByteArray) (o : Option Addr) (n c : Nat) (w : World) :
    Calls Tryd.prog 22 #[.string s, .slice o n c] w (Rets (.agg #[.string s, .slice o n c, .string { data := #[] }]) (Chg (fun _ => False) w)) := by
  go_enter Tryd.func22, Tryd.ntmps22
  go_wp2_with fail
  refine bodyPost_ret (v := .agg #[.string s, .slice o n c, .string { data := #[] }]) ?_ rfl ⟨rfl, ?_⟩
  · simp [results, Tryd.results22, go_sem]
  · exact (Chg.refl _ w).alloc _

set_option maxRecDepth 100000 in
theorem in_any (v : Value) (l : List Nm) (s : Nm) (w : World) (hl : NamesAt w v l) :
    Calls Tryd.prog 21 #[v, .string (bs s)] w (Rets (.bool (l.contains s)) (fun w' => w = w')) := by
  have hlen := hl.len
  have hmx := hl.le
  unfold maxLen at hmx
  have H := hid hl
  clear hl
  go_enter Tryd.func21, Tryd.ntmps21
  go_wp2_with fail
  go_loopw [5] (fun i wr => ∃ k : Nat, k ≤ l.length ∧ i = .int .i64 k ∧ wr = w ∧ ∀ j (h : j < l.length), j < k → ¬ l[j] = s) (fun i _ => l.length - (intOf i).toNat)
  case atStart => exact ⟨0, Nat.zero_le _, rfl, rfl, fun j _ h => absurd h (Nat.not_lt_zero _)⟩
  case round =>
    obtain ⟨k, hk, rfl, rfl, hall⟩ := hrel
    have HA := hid hall
    clear hall
    by_cases hkn : k < l.length
    · have hkn' : (k : Int) < l.length := by omega
      obtain ⟨ad, hix, hadc, hadb⟩ := H.out.ix k hkn
      by_cases he : l[k] = s
      · have hc : l.contains s = true := by simp; rw [← he]; exact List.getElem_mem hkn
        have HC := hid hc
        rw [he] at hadc
        clear he hc
        generalize bs s = x at *
        go_wp2_with fail
        go_ret
        exact ⟨by rw [HC.out]; rfl, rfl⟩
      · have hne := bs_eq l[k] s
        rw [decide_eq_false he] at hne
        have HE := hid he
        clear he
        generalize bs l[k] = x at *
        generalize bs s = y at *
        go_wp2_with fail
        go_roundw
        case rel =>
          refine ⟨k + 1, by omega, by go_num, by first | rfl | trivial, fun j hj hjk => ?_⟩
          by_cases e : j = k
          · subst e; exact HE.out
          · exact HA.out j hj (by omega)
        case measure => simp [intOf]; omega
    · obtain rfl : k = l.length := by omega
      have hc : l.contains s = false := by
        simp
        intro hm
        obtain ⟨j, hj, e⟩ := List.mem_iff_getElem.1 hm
        exact HA.out j hj hj e
      have HC := hid hc
      clear hc
      go_wp2_with fail
      go_ret
      exact ⟨by rw [HC.out]; rfl, rfl⟩

/-- v is a slice of the numbers l (read only). -/
def IntsAt (w : World) (v : Value) (l : List Nat) : Prop := RowsAt w v 1 l.length (fun i => [natV (l.getD i 0)])
theorem IntsAt.of_owns {w : World} {v : Value} {l : List Nat} (h : w.ownsRow 0 3 1 v l.length (l.map natV)) : IntsAt w v l := by
  rcases h.2 with ⟨rfl, h0⟩ | ⟨g, cap, cur, rfl, _, hg, hnc, hcm, hcs, ht⟩
  · exact ⟨.inl ⟨rfl, h0⟩, by rw [h0]; exact Nat.zero_le _, fun i hi => rfl⟩
  · refine ⟨.inr ⟨_, cap, rfl, fun i hi j hj => ?_⟩, by omega, fun i hi => rfl⟩
    obtain rfl : j = 0 := by omega
    have := h.cellAt i (by simpa using hi)
    have hadd : (⟨g, 0, none⟩ : Addr).add (i * 1 + 0) = ⟨g, i, none⟩ := by unfold Addr.add; split <;> simp_all
    rw [hadd, this]
    simp [hi]
theorem IntsAt.chg {F : Nat → Prop} {w w' : World} {v : Value} {l : List Nat} (h : IntsAt w v l) (hc : Chg F w w') (hF : ∀ k, k < w.heap.size → ¬ F k) : IntsAt w' v l := RowsAt.chg h hc hF
theorem IntsAt.len {w0 : World} {v : Value} {l : List Nat} (h : IntsAt w0 v l) (w : World) (ty : TypeId) : (Builtin.len_ #[31] ty #[v]).run Tryd.prog w = .ok (.int .i64 l.length) w :=
  RowsAt.len (P := Tryd.prog) h Tryd.underlying31 w ty
theorem IntsAt.ix {w : World} {v : Value} {l : List Nat} (h : IntsAt w v l) (k : Nat) (hk : k < l.length) :
    ∃ bb oo, (∀ w, (Instr.indexAt 31 v (.int .i64 k)).run Tryd.prog w = .ok (.pointer (some ⟨bb, oo, none⟩)) w) ∧ w.cell? ⟨bb, oo, none⟩ = some (.int .i64 l[k]) ∧ bb < w.heap.size := by
  obtain ⟨bb, oo, h1, h2, h3⟩ := RowsAt.ix (P := Tryd.prog) h Tryd.underlying31 (fun w => by kernel_rfl) (by decide) k hk
  refine ⟨bb, oo, h1, ?_, h3⟩
  have := h2 0 (by decide)
  exact this.trans (by simp [hk])
theorem IntsAt.form {w : World} {v : Value} {l : List Nat} (h : IntsAt w v l) : ∃ oa c, v = .slice oa l.length c := by
  rcases RowsAt.form h with ⟨h1, h2⟩ | ⟨a, cap, h1, _⟩
  · exact ⟨none, 0, by rw [h1, h2]⟩
  · exact ⟨some a, cap, h1⟩

set_option maxRecDepth 100000 in
set_option maxHeartbeats 1000000 in
theorem ints_any (v u : Value) (a b : List Nat) (w : World) (hv : IntsAt w v a) (hu : IntsAt w u b) :
    Calls Tryd.prog 13 #[v, u] w (Ans (a = b) w) := by
  have hl1 := hv.len
  have hl2 := hu.len
  have hm1 := RowsAt.le hv
  unfold maxLen at hm1
  have HV := hid hv
  have HU := hid hu
  clear hv hu
  by_cases hl : a.length = b.length
  · have hl' : (a.length : Int) = b.length := by omega
    rw [← hl] at hl2
    go_enter Tryd.func13, Tryd.ntmps13
    go_wp2_with fail
    go_loopw [5] (fun i wr => ∃ k : Nat, k ≤ a.length ∧ i = .int .i64 k ∧ Chg (fun _ => False) w wr ∧ a.take k = b.take k) (fun i _ => a.length - (intOf i).toNat)
    case atStart => exact ⟨0, Nat.zero_le _, rfl, Chg.refl _ _, rfl⟩
    case round =>
      obtain ⟨k, hk, rfl, hch, htk⟩ := hrel
      have HC := hid hch
      have HT := hid htk
      have S1 := HV.out.chg hch (fun _ _ h => h)
      have S2 := HU.out.chg hch (fun _ _ h => h)
      clear hch htk
      by_cases hkn : k < a.length
      · have hkn' : (k : Int) < a.length := by omega
        obtain ⟨bb, oo, hix, hadc, hadb⟩ := S1.ix k hkn
        obtain ⟨bb2, oo2, hix2, hadc2, hadb2⟩ := S2.ix k (by omega)
        clear S1 S2
        by_cases he : a[k] = b[k]'(by omega)
        · rw [← he] at hadc2
          have hst : a.take (k + 1) = b.take (k + 1) := by rw [List.take_succ_eq_append_getElem hkn, List.take_succ_eq_append_getElem (by omega), HT.out, he]
          have HST := hid hst
          clear hst he
          generalize a[k] = x at *
          go_wp2_with fail
          go_quiet (fail)
          go_wp2_with fail
          go_roundw
          case rel => exact ⟨k + 1, by omega, by go_num, HC.out.drewN _, HST.out⟩
          case measure => simp [intOf]; omega
        · have HE : Hid (¬ a = b) := hid (fun h => he (by subst h; rfl))
          have hne : ¬ ((a[k] : Nat) : Int) = (b[k]'(by omega) : Nat) := by omega
          clear he
          generalize a[k] = x at *
          generalize b[k]'(by omega) = y at *
          go_wp2_with fail
          go_quiet (fail)
          go_wp2_with fail
          go_ret
          exact ⟨false, rfl, ⟨fun h => (Bool.false_ne_true h).elim, fun h => absurd h HE.out⟩, HC.out.drewN _⟩
      · obtain rfl : k = a.length := by omega
        clear S1 S2
        go_wp2_with fail
        go_ret
        refine ⟨true, rfl, ⟨fun _ => ?_, fun _ => rfl⟩, HC.out⟩
        have := HT.out
        rw [List.take_length, hl, List.take_length] at this
        exact this
  · have hl' : ¬ (a.length : Int) = b.length := by omega
    go_enter Tryd.func13, Tryd.ntmps13
    go_wp2_with fail
    go_ret
    exact ⟨false, rfl, ⟨fun h => (Bool.false_ne_true h).elim, fun h => absurd (congrArg List.length h) hl⟩, Chg.refl _ _⟩
end Go.Proofs.YtafdcmhckpdnbaaDoor
