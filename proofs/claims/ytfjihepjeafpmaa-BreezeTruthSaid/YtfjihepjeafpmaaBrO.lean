/- BreezeTruth: the walk. -/
import Derived.Test.YtfjihepjeafpmaaBrN
namespace Go.Proofs.Ytfjihepjeafpmaa
open Go.RowKit

/-- Where the law stands: the Breeze, and what was put, in a slice of the law's own. -/
def TrSt (B b mb : Nat) (w0 w : World) (vp : Value) (puts ls : List Ld) : Prop :=
  ∃ v l, BrAt w b mb v ls l ∧ w.ownsRow 0 29 4 vp puts.length (flat puts) ∧ (∀ k, vp.ownBlock = some k → B ≤ k ∧ k ≠ b ∧ k ≠ mb ∧ v.ownBlock ≠ some k) ∧ (∀ k, v.ownBlock = some k → B ≤ k) ∧ Chg (fun k => B ≤ k) w0 w
section
variable {B b mb : Nat} {w0 w w' : World} {vp : Value} {puts ls ls' : List Ld}
theorem TrSt.step {v : Value} {l l' : List ((Int × Int) × Bool)} (h1 : BrAt w b mb v ls l) (h2 : w.ownsRow 0 29 4 vp puts.length (flat puts)) (h3 : ∀ k, vp.ownBlock = some k → B ≤ k ∧ k ≠ b ∧ k ≠ mb ∧ v.ownBlock ≠ some k)
    (h4 : ∀ k, v.ownBlock = some k → B ≤ k) (h5 : Chg (fun k => B ≤ k) w0 w) (hb : B ≤ b) (hm : B ≤ mb) (hp : BrPost w b mb v ls' l' w') : TrSt B b mb w0 w' vp puts ls' := by
  obtain ⟨v', g1, g2, g3⟩ := hp
  have hlt := heap_lt h1.blk
  refine ⟨v', l', g1, g2.owns h2 (fun k hk h => ?_), fun k hk => ?_, fun k hk => ?_, h5.upto g2 (fun k h => ?_)⟩
  · obtain ⟨a1, a2, a3, a4⟩ := h3 k hk
    rcases h with h | h | h
    · exact a2 h
    · exact a3 h
    · exact a4 h
  · obtain ⟨a1, a2, a3, a4⟩ := h3 k hk
    refine ⟨a1, a2, a3, fun e => ?_⟩
    have := (h2.lt k hk).2
    rcases g3 k e with h | h
    · exact a4 h
    · omega
  · rcases g3 k hk with h | h
    · exact h4 k h
    · omega
  · rcases h with rfl | rfl | h
    · exact hb
    · exact hm
    · exact h4 k h
theorem TrSt.chg (h : TrSt B b mb w0 w vp puts ls) (hc : Chg (fun _ => False) w w') : TrSt B b mb w0 w' vp puts ls := by
  obtain ⟨v, l, h1, h2, h3, h4, h5⟩ := h
  exact ⟨v, l, h1.chg hc (fun h => h) (fun h => h) (fun _ _ h => h), hc.owns h2 (fun _ _ h => h), h3, h4, h5.upto hc (fun _ h => h.elim)⟩
theorem TrSt.more {g cap : Nat} {p : Ld} {v : Value} {l : List ((Int × Int) × Bool)} (h1 : BrAt w b mb v ls l) (h3 : ∀ k, vp.ownBlock = some k → B ≤ k ∧ k ≠ b ∧ k ≠ mb ∧ v.ownBlock ≠ some k)
    (h4 : ∀ k, v.ownBlock = some k → B ≤ k) (h5 : Chg (fun k => B ≤ k) w0 w) (hb : B ≤ b) (ho : w'.ownsRow 0 29 4 (.slice (some ⟨g, 0, none⟩) (puts.length + 1) cap) (puts.length + 1) (flat puts ++ p.cells)) (hc : Chg (fun k => vp.ownBlock = some k) w w')
    (hg : vp.ownBlock = some g ∨ w.heap.size ≤ g) : TrSt B b mb w0 w' (.slice (some ⟨g, 0, none⟩) (puts.length + 1) cap) (puts ++ [p]) ls := by
  have hlt := heap_lt h1.blk
  refine ⟨v, l, h1.chg hc (fun h => (h3 b h).2.1 rfl) (fun h => (h3 mb h).2.2.1 rfl) (fun k hk h => (h3 k h).2.2.2 hk), ?_, fun k hk => ?_, h4, h5.upto hc (fun k h => (h3 k h).1)⟩
  · have e : flat (puts ++ [p]) = flat puts ++ p.cells := by simp [flat]
    rw [List.length_append, e]
    exact ho
  · simp only [Value.ownBlock, Option.some.injEq] at hk
    subst hk
    rcases hg with h | h
    · exact h3 g h
    · have hm := h1.map.lt
      exact ⟨by omega, by omega, by omega, fun e => by have := (h1.own.lt g e).2; omega⟩
end

theorem ix_own {P : Program} {w0 : World} {t e : TypeId} {size bytes : Nat} (T : ElT P t e size bytes) {v : Value} {n : Nat} {xs : List Value} (h : w0.ownsRow 0 e size v n xs) (k : Nat) (hk : k < n) :
    ∃ g cap, v = .slice (some ⟨g, 0, none⟩) n cap ∧ ∀ w, (Instr.indexAt t v (.int .i64 k)).run P w = .ok (.pointer (some ⟨g, k * size, none⟩)) w := by
  obtain ⟨g, cap, rfl, _, _⟩ := owns_some h (by omega)
  obtain ⟨i, z, hi, _, hs, _⟩ := T.info
  refine ⟨g, cap, rfl, fun w => ?_⟩
  have hb : (k : Int) < (n : Int) := by omega
  have hadd : (⟨g, 0, none⟩ : Addr).add (k * size) = ⟨g, k * size, none⟩ := by unfold Addr.add; split <;> simp_all
  simp [Instr.indexAt, run_underlying T.ht, asIntOf, hk, sizeOf, typeInfo, hi, hs, hadd]

set_option maxRecDepth 100000 in
set_option maxHeartbeats 4000000 in
theorem truth_walk (w : World) (v : Value) (xs : List Deed) (hS : ActsAt w v xs) :
    Calls Try.prog 6 #[v] w (Rets (.bool true) (fun w' => Chg (fun _ => False) w w')) := by
  have hlen := hS.1.len (P := Try.prog) Try.underlying37
  by_cases hgr : greatB xs 250 = true
  · go_enter Try.func6, Try.ntmps6
    go_wp2_with (first | (go_at_call 8; refine (awake_any _).mono ?_; rintro e w1 ⟨rfl, hc1⟩) | (go_at_call 14; refine (great_any _ _ xs ⟨hS.1.chg hc1 (fun _ _ h => h), hS.2⟩).mono ?_; rintro e w1' ⟨rfl, rfl⟩))
    go_ret
    exact ⟨rfl, hc1⟩
  · have hgr' : greatB xs 250 = false := by simpa using hgr
    clear hgr
    go_enter Try.func6, Try.ntmps6
    go_wp2_with (first | (go_at_call 8; refine (awake_any _).mono ?_; rintro e w1 ⟨rfl, hc1⟩) | (go_at_call 14; refine (great_any _ _ xs ⟨hS.1.chg hc1 (fun _ _ h => h), hS.2⟩).mono ?_; rintro e w1' ⟨rfl, rfl⟩) | (go_at_call 9; refine (new_in _).mono ?_; rintro e w2 ⟨rfl, hB2, hc2⟩))
    have hst : TrSt w1.heap.size (w1.heap.size + 1) w1.heap.size w1 (w2.alloc (.cells #[] 29)) (.slice (some ⟨w2.heap.size, 0, none⟩) 0 0) [] [] := by
      obtain ⟨v2, g1, g2, g3, g4, g5⟩ := hB2
      have hl1 := heap_lt g1.blk
      have hc3 : Chg (fun _ => False) w2 (w2.alloc (.cells #[] 29)) := (Chg.refl _ _).alloc _
      refine ⟨v2, _, g1.chg hc3 (fun h => h) (fun h => h) (fun _ _ h => h), World.ownsRow_lit w2 #[] 0 (Nat.zero_le _) (Nat.zero_le _) rfl, fun k hk => ?_, g4, (hc2.mono (fun _ _ h => h.elim)).trans hc3 (fun _ _ h => h.elim)⟩
      simp only [Value.ownBlock, Option.some.injEq] at hk
      subst hk
      exact ⟨by omega, by omega, by omega, fun e => by have := (g1.own.lt _ e).2; omega⟩
    have hbi1 : w1.heap.size + 1 < w2.heap.size := by obtain ⟨v2, g1, _⟩ := hB2; exact heap_lt g1.blk
    clear hB2 hc2
    go_loopw [4, 5, 6] (fun s n i wr => ∃ k : Nat, k ≤ xs.length ∧ i = .int .i64 k ∧ ∃ vp puts ls, s = vp ∧ n = .int .i64 (ls : List Ld).length ∧ puts.length ≤ k ∧ k ≤ 250 ∧ (∀ p ∈ puts, (p : Ld).by_.size ≤ maxLen) ∧ Truth puts ls ∧ TrSt w1.heap.size (w1.heap.size + 1) w1.heap.size w1 wr vp puts ls) (fun _ _ i _ => xs.length - (intOf i).toNat)
    case atStart => exact ⟨0, Nat.zero_le _, rfl, _, [], [], rfl, rfl, Nat.zero_le _, Nat.zero_le _, (fun x hx => by simp at hx), (fun x hx => by simp at hx), hst⟩
    case round =>
      obtain ⟨k, hk, rfl, vp, puts, ls, rfl, rfl, hpk, hk2, hts, hT, hI⟩ := hrel
      by_cases hkn : k < xs.length ∧ k < 250
      · obtain ⟨hkn, hk250⟩ := hkn
        have hkn' : (k : Int) < xs.length := by omega
        have hk250' : (k : Int) < 250 := by omega
        obtain ⟨bb, oo, hix, hcs, hlt, hok⟩ := hS.at k hkn
        generalize xs[k] = d at *
        have hs1 := hc1.size
        have cAt : ∀ j u, d.cells[j]? = some u → wr.cell? ⟨bb, oo + j, none⟩ = some u := by
          intro j u hu
          obtain ⟨_, _, _, _, _, _, g5⟩ := hI
          exact g5.cell (hc1.cell (hcs j u hu) (fun h => h)) (by simp; omega)
        have c0 := cAt 0 _ rfl
        have c1 := cAt 1 _ rfl
        have c2 := cAt 2 _ rfl
        have c3 := cAt 3 _ rfl
        have c4 := cAt 4 _ rfl
        have c5 := cAt 5 _ rfl
        have c6 := cAt 6 _ rfl
        have hbl := hok.1
        clear hcs cAt hok
        obtain ⟨kd, fr, to, by_, at_, pl, ms⟩ := d
        simp only at c0 c1 c2 c3 c4 c5 c6 hbl
        obtain ⟨q, l', q1, q2, q3, q4, q5⟩ := hI
        have nb : ¬ (wr.heap.size = w1.heap.size + 1 ∨ wr.heap.size = w1.heap.size ∨ q.ownBlock = some wr.heap.size) := fun h => Nat.lt_irrefl _ (q1.lt _ h)
        have hb0 : w1.heap.size ≤ w1.heap.size + 1 := by omega
        have hlw : w1.heap.size + 1 < wr.heap.size := q1.lt _ (.inl rfl)
        have r1 := q1.al (.cells #[.int .i64 kd, .int .i64 fr, .int .i64 to, .string by_, .int .i64 at_, .int .i64 pl, .int .i64 ms] 46)
        have r2 := q2.alloc (.cells #[.int .i64 kd, .int .i64 fr, .int .i64 to, .string by_, .int .i64 at_, .int .i64 pl, .int .i64 ms] 46)
        have r5 := q5.alloc (.cells #[.int .i64 kd, .int .i64 fr, .int .i64 to, .string by_, .int .i64 at_, .int .i64 pl, .int .i64 ms] 46)
        have kb := heap_alloc_new wr (.cells #[.int .i64 kd, .int .i64 fr, .int .i64 to, .string by_, .int .i64 at_, .int .i64 pl, .int .i64 ms] 46)
        simp only [Nat.add_zero] at c0
        clear q1 q2 q5
        have hle := r1.le
        rcases (show kd = 1 ∨ kd = 2 ∨ kd = 3 ∨ kd = 4 ∨ (kd ≠ 1 ∧ kd ≠ 2 ∧ kd ≠ 3 ∧ kd ≠ 4) by omega) with rfl | rfl | rfl | rfl | hkd
        · have hbl' : by_.size ≤ 9223372036854775807 := by unfold maxLen at hbl; omega
          by_cases hr : putRes ls fr to by_ = 0
          · have hl1 : putLs ls fr to by_ = ls ++ [⟨fr, to, by_, false⟩] := by unfold putLs; rw [if_pos hr]
            have HL := hid hl1
            have hts1 : ∀ p ∈ puts ++ [(⟨fr, to, by_, false⟩ : Ld)], p.by_.size ≤ maxLen := by
              intro p hp
              rcases List.mem_append.1 hp with h | h
              · exact hts p h
              · rw [List.mem_singleton.1 h]; exact hbl
            have HTS := hid hts1
            clear hl1 hts1
            go_wp2_with (first | (go_at_call 10; refine (put_any fr to by_ r1 hbl').mono ?_; rintro e w5 ⟨rfl, hp5⟩; have hst5 := TrSt.step r1 r2 q3 q4 r5 hb0 (Nat.le_refl _) hp5; rw [HL.out] at hst5; obtain ⟨vq, lq, x1, x2, x3, x4, x5⟩ := hst5; have kb5 := hp5.elim fun _ h => h.2.1.obj kb nb; have z5 := cell_of kb5; have zl := heap_lt kb5) | (at_builtin; (refine wpList_append_new rfl _ _ 54 rfl elLoad x2 rfl _ 1 1 rfl rfl rfl (by unfold maxLen; omega) (by omega) (by decide) ?_; intro g cap w6 hown6 hchg6 hg6; have hst6 := TrSt.more (p := ⟨fr, to, by_, false⟩) x1 x3 x4 x5 hb0 hown6 hchg6 hg6; obtain ⟨vy, ly, y1, y2, y3, y4, y5⟩ := hst6; have y0 := y1.le; simp only [List.length_append, List.length_cons, List.length_nil] at y0)))
            have y0' : (ls.length : Int) + 1 ≤ 200 := by omega
            refine (len_any y1).mono ?_
            rintro e wl ⟨rfl, rfl⟩
            rw [show (((ls ++ [(⟨fr, to, by_, false⟩ : Ld)]).length : Nat) : Int) = (ls.length : Int) + 1 from by simp]
            go_wp2_with fail
            go_roundw
            case rel => exact ⟨k + 1, by omega, by go_num, _, puts ++ [⟨fr, to, by_, false⟩], ls ++ [⟨fr, to, by_, false⟩], rfl, by simp, by (try simp only [List.length_append, List.length_cons, List.length_nil]); omega, by omega, HTS.out, hT.put _ rfl hbl, ⟨_, _, y1, y2, y3, y4, y5⟩⟩
            case measure => simp [intOf]; omega
          · have hr' : (putRes ls fr to by_ == 0) = false := by simp [hr]
            have hl1 : putLs ls fr to by_ = ls := by unfold putLs; rw [if_neg hr]
            have HL := hid hl1
            clear hl1 hr
            go_wp2_with (go_at_call 10; refine (put_any fr to by_ r1 hbl').mono ?_; rintro e w5 ⟨rfl, hp5⟩; have hst5 := TrSt.step r1 r2 q3 q4 r5 hb0 (Nat.le_refl _) hp5; rw [HL.out] at hst5; obtain ⟨vq, lq, y1, y2, y3, y4, y5⟩ := hst5)
            have y0' : (ls.length : Int) ≤ 200 := by have := y1.le; omega
            refine (len_any y1).mono ?_
            rintro e wl ⟨rfl, rfl⟩
            go_wp2_with fail
            go_roundw
            case rel => exact ⟨k + 1, by omega, by go_num, _, puts, ls, rfl, rfl, by (try simp only [List.length_append, List.length_cons, List.length_nil]); omega, by omega, hts, hT, ⟨_, _, y1, y2, y3, y4, y5⟩⟩
            case measure => simp [intOf]; omega
        · by_cases hr : isB ls at_ = true
          · have hC := hT.take at_
            have hl1 := takeLs_len hr
            obtain ⟨pz, hpz1, hpz2⟩ := hT.fits (takeLd_mem hr)
            have hany : (puts.any fun p => fitsB p (takeLd ls at_)) = true := List.any_eq_true.2 ⟨pz, hpz1, hpz2⟩
            have hxs : (takeLd ls at_).by_.size ≤ maxLen := (hT _ (takeLd_mem hr)).1
            have hpos : 0 < ls.length := by
              rcases Nat.eq_zero_or_pos ls.length with h | h
              · simp [isB, h] at hr; omega
              · exact h
            have HL := hid hl1
            have HA := hid hany
            have HP := hid hpz1
            clear hl1 hany hpz1 hpz2
            go_wp2_with (go_at_call 11; refine (take_any r1 at_).mono ?_; rintro e w5 ⟨rfl, hp5⟩; have hst5 := TrSt.step r1 r2 q3 q4 r5 hb0 (Nat.le_refl _) hp5; obtain ⟨vq, lq, y1, y2, y3, y4, y5⟩ := hst5; generalize takeLd ls at_ = x at *; unfold Ld.val)
            obtain ⟨W8, hW8⟩ : ∃ W8, W8 = w5.alloc (.cells #[.int .i64 x.fr, .int .i64 x.to, .string x.by_, .bool x.fl] 29) := ⟨_, rfl⟩
            rw [← hW8]
            have ch8 : Chg (fun _ => False) w5 W8 := by rw [hW8]; exact (Chg.refl _ w5).alloc _
            have kx : W8.heap[w5.heap.size]? = some (.cells #[.int .i64 x.fr, .int .i64 x.to, .string x.by_, .bool x.fl] 29 (0, 0)) := by rw [hW8]; exact heap_alloc_new w5 _
            have o8 := ch8.owns y2 (fun _ _ h => h)
            have hlenp := run_len_own (P := Try.prog) Try.underlying54 o8
            clear hW8
            go_loopw [10, 11] (fun f j wx => ∃ m : Nat, m ≤ puts.length ∧ j = .int .i64 m ∧ f = .bool ((puts.take m).any fun p => fitsB p x) ∧ Chg (fun _ => False) W8 wx) (fun _ j _ => puts.length - (intOf j).toNat)
            case atStart => exact ⟨0, Nat.zero_le _, rfl, rfl, Chg.refl _ _⟩
            case round =>
              obtain ⟨m, hm, rfl, rfl, hcx⟩ := hrel
              have o9 := hcx.owns o8 (fun _ _ h => h)
              have zx9 := cell_of (hcx.obj kx (fun h => h))
              by_cases hmn : m < puts.length
              · have hmn' : (m : Int) < puts.length := by omega
                obtain ⟨g, cap, hvp, hix2⟩ := ix_own elLoad o9 m hmn
                obtain ⟨p0, p1, p2, p3⟩ := load_cells (by rw [← hvp]; exact o9) (List.getElem?_eq_getElem hmn)
                have hps := hts puts[m] (List.getElem_mem _)
                have hstep : ((puts.take (m + 1)).any fun p => fitsB p x) = (((puts.take m).any fun p => fitsB p x) || fitsB puts[m] x) := by
                  rw [List.take_succ_eq_append_getElem hmn, List.any_append]; simp
                have HS := hid hstep
                clear hstep hvp
                generalize puts[m] = p at *
                generalize ((puts.take m).any fun p => fitsB p x) = f0 at *
                go_wp2_with fail
                go_quiet ((go_at_call 25; exact Calls.quiet_of (near_any _ _ _ hps hxs)))
                have fin : ∀ (b : Bool), b = (f0 || fitsB p x) → b = ((puts.take (m + 1)).any fun p => fitsB p x) := fun b h => h.trans HS.out.symm
                have FN := hid fin
                clear fin
                cases f0
                · by_cases e1 : (p.fr == x.fr) = true
                  · by_cases e2 : (p.to == x.to) = true
                    · by_cases e3 : (nearI p.by_ x.by_ == 0) = true
                      · by_cases e4 : x.fl = true
                        · have e5 : (nearI p.by_ x.by_ == 1) = false := by simp at e3 ⊢; omega
                          have e6 := FN.out false (by simp [fitsB, e1, e2, e3, e4, e5])
                          have E6 := hid e6
                          clear e6
                          go_wp2_with fail
                          go_quiet (fail)
                          go_wp2_with fail
                          go_roundw
                          case rel => exact ⟨m + 1, by omega, by go_num, by rw [← E6.out], hcx.drewN _⟩
                          case measure => simp [intOf]; omega
                        · have e4' : x.fl = false := by simpa using e4
                          clear e4
                          have e6 := FN.out true (by simp [fitsB, e1, e2, e3, e4'])
                          have E6 := hid e6
                          clear e6
                          go_wp2_with fail
                          go_quiet (fail)
                          go_wp2_with fail
                          go_roundw
                          case rel => exact ⟨m + 1, by omega, by go_num, by rw [← E6.out], hcx.drewN _⟩
                          case measure => simp [intOf]; omega
                      · have e3' : (nearI p.by_ x.by_ == 0) = false := by simpa using e3
                        clear e3
                        by_cases e5 : (nearI p.by_ x.by_ == 1) = true
                        · by_cases e4 : x.fl = true
                          · have e6 := FN.out true (by simp [fitsB, e1, e2, e3', e4, e5])
                            have E6 := hid e6
                            clear e6
                            go_wp2_with fail
                            go_quiet (fail)
                            go_wp2_with fail
                            go_roundw
                            case rel => exact ⟨m + 1, by omega, by go_num, by rw [← E6.out], hcx.drewN _⟩
                            case measure => simp [intOf]; omega
                          · have e4' : x.fl = false := by simpa using e4
                            clear e4
                            have e6 := FN.out false (by simp [fitsB, e1, e2, e3', e4'])
                            have E6 := hid e6
                            clear e6
                            go_wp2_with fail
                            go_quiet (fail)
                            go_wp2_with fail
                            go_roundw
                            case rel => exact ⟨m + 1, by omega, by go_num, by rw [← E6.out], hcx.drewN _⟩
                            case measure => simp [intOf]; omega
                        · have e5' : (nearI p.by_ x.by_ == 1) = false := by simpa using e5
                          clear e5
                          have e6 := FN.out false (by simp [fitsB, e1, e2, e3', e5'])
                          have E6 := hid e6
                          clear e6
                          go_wp2_with fail
                          go_quiet (fail)
                          go_wp2_with fail
                          go_roundw
                          case rel => exact ⟨m + 1, by omega, by go_num, by rw [← E6.out], hcx.drewN _⟩
                          case measure => simp [intOf]; omega
                    · have e2' : (p.to == x.to) = false := by simpa using e2
                      clear e2
                      have e6 := FN.out false (by simp [fitsB, e2'])
                      have E6 := hid e6
                      clear e6
                      go_wp2_with fail
                      go_quiet (fail)
                      go_wp2_with fail
                      go_roundw
                      case rel => exact ⟨m + 1, by omega, by go_num, by rw [← E6.out], hcx.drewN _⟩
                      case measure => simp [intOf]; omega
                  · have e1' : (p.fr == x.fr) = false := by simpa using e1
                    clear e1
                    have e6 := FN.out false (by simp [fitsB, e1'])
                    have E6 := hid e6
                    clear e6
                    go_wp2_with fail
                    go_quiet (fail)
                    go_wp2_with fail
                    go_roundw
                    case rel => exact ⟨m + 1, by omega, by go_num, by rw [← E6.out], hcx.drewN _⟩
                    case measure => simp [intOf]; omega
                · have e6 := FN.out true (by simp)
                  have E6 := hid e6
                  clear e6
                  go_wp2_with fail
                  go_quiet (fail)
                  go_wp2_with fail
                  go_roundw
                  case rel => exact ⟨m + 1, by omega, by go_num, by rw [← E6.out], hcx.drewN _⟩
                  case measure => simp [intOf]; omega
              · obtain rfl : m = puts.length := by omega
                have HA2 := HA.out
                rw [List.take_of_length_le (Nat.le_refl _), HA2]
                clear HA2
                have ch9 := ch8.trans hcx (fun _ _ h => h)
                have hst9 := TrSt.chg ⟨_, _, y1, y2, y3, y4, y5⟩ ch9
                have hL9 : ((takeLs ls at_).length : Int) = (ls.length : Int) - 1 := by rw [HL.out]; omega
                have hL8 := y1.le
                have y1' := y1.chg ch9 (fun h => h) (fun h => h) (fun _ _ h => h)
                have y0' : (ls.length : Int) - 1 ≤ 200 := by omega
                have HL9 := hid hL9
                clear hL9
                go_wp2_with fail
                refine (len_any y1').mono ?_
                rintro e wl ⟨rfl, rfl⟩
                rw [HL9.out]
                go_wp2_with fail
                go_roundw
                case rel => exact ⟨k + 1, by omega, by go_num, _, puts, takeLs ls at_, rfl, by rw [HL9.out], by omega, by omega, hts, hC, hst9⟩
                case measure => simp [intOf]; omega
          · have hr' : isB ls at_ = false := by simpa using hr
            have hl1 : takeLs ls at_ = ls := by unfold takeLs; rw [if_neg hr]
            have HL := hid hl1
            clear hl1 hr
            go_wp2_with (go_at_call 11; refine (take_any r1 at_).mono ?_; rintro e w5 ⟨rfl, hp5⟩; have hst5 := TrSt.step r1 r2 q3 q4 r5 hb0 (Nat.le_refl _) hp5; rw [HL.out] at hst5; obtain ⟨vq, lq, y1, y2, y3, y4, y5⟩ := hst5; generalize takeLd ls at_ = x; unfold Ld.val)
            go_roundw
            case rel => exact ⟨k + 1, by omega, by go_num, _, puts, ls, rfl, rfl, by omega, by omega, hts, hT, TrSt.chg ⟨_, _, y1, y2, y3, y4, y5⟩ ((Chg.refl _ w5).alloc _)⟩
            case measure => simp [intOf]; omega
        · have hC := hT.copy at_
          by_cases hr : copyB ls at_ = true
          · have hl1 : (copyLs ls at_).length = ls.length + 1 := by unfold copyLs; rw [if_pos hr]; simp
            have HL := hid hl1
            clear hl1
            go_wp2_with (go_at_call 12; refine (copy_any r1 at_).mono ?_; rintro e w5 ⟨rfl, hp5⟩; have hst5 := TrSt.step r1 r2 q3 q4 r5 hb0 (Nat.le_refl _) hp5; obtain ⟨vq, lq, y1, y2, y3, y4, y5⟩ := hst5)
            have y0' : (ls.length : Int) + 1 ≤ 200 := by have := y1.le; rw [HL.out] at this; omega
            refine (len_any y1).mono ?_
            rintro e wl ⟨rfl, rfl⟩
            rw [HL.out, show ((ls.length + 1 : Nat) : Int) = (ls.length : Int) + 1 from by simp]
            go_wp2_with fail
            go_roundw
            case rel => exact ⟨k + 1, by omega, by go_num, _, puts, copyLs ls at_, rfl, by rw [HL.out]; go_num, by (try simp only [List.length_append, List.length_cons, List.length_nil]); omega, by omega, hts, hC, ⟨_, _, y1, y2, y3, y4, y5⟩⟩
            case measure => simp [intOf]; omega
          · have hr' : copyB ls at_ = false := by simpa using hr
            have hl1 : copyLs ls at_ = ls := by unfold copyLs; rw [if_neg hr]
            have HL := hid hl1
            clear hl1 hr
            go_wp2_with (go_at_call 12; refine (copy_any r1 at_).mono ?_; rintro e w5 ⟨rfl, hp5⟩; have hst5 := TrSt.step r1 r2 q3 q4 r5 hb0 (Nat.le_refl _) hp5; rw [HL.out] at hst5; obtain ⟨vq, lq, y1, y2, y3, y4, y5⟩ := hst5)
            have y0' : (ls.length : Int) ≤ 200 := by have := y1.le; omega
            refine (len_any y1).mono ?_
            rintro e wl ⟨rfl, rfl⟩
            go_wp2_with fail
            go_roundw
            case rel => exact ⟨k + 1, by omega, by go_num, _, puts, ls, rfl, rfl, by (try simp only [List.length_append, List.length_cons, List.length_nil]); omega, by omega, hts, hT, ⟨_, _, y1, y2, y3, y4, y5⟩⟩
            case measure => simp [intOf]; omega
        · have hC := hT.flip at_ pl ms
          have hl1 := flipLs_len ls at_ pl ms
          have HL := hid hl1
          clear hl1
          go_wp2_with (go_at_call 13; refine (flip_any r1 at_ pl ms).mono ?_; rintro e w5 ⟨rfl, hp5⟩; have hst5 := TrSt.step r1 r2 q3 q4 r5 hb0 (Nat.le_refl _) hp5; obtain ⟨vq, lq, y1, y2, y3, y4, y5⟩ := hst5)
          have y0' : (ls.length : Int) ≤ 200 := by have := y1.le; rw [HL.out] at this; omega
          refine (len_any y1).mono ?_
          rintro e wl ⟨rfl, rfl⟩
          rw [HL.out]
          go_wp2_with fail
          go_roundw
          case rel => exact ⟨k + 1, by omega, by go_num, _, puts, flipLs ls at_ pl ms, rfl, by rw [HL.out], by (try simp only [List.length_append, List.length_cons, List.length_nil]); omega, by omega, hts, hC, ⟨_, _, y1, y2, y3, y4, y5⟩⟩
          case measure => simp [intOf]; omega
        · obtain ⟨n1, n2, n3, n4⟩ := hkd
          have n1' : (kd == 1) = false := by simp [n1]
          have n2' : (kd == 2) = false := by simp [n2]
          have n3' : (kd == 3) = false := by simp [n3]
          have n4' : (kd == 4) = false := by simp [n4]
          clear n1 n2 n3 n4
          have y1 := r1
          have y0' : (ls.length : Int) ≤ 200 := by omega
          go_wp2_with fail
          refine (len_any y1).mono ?_
          rintro e wl ⟨rfl, rfl⟩
          go_wp2_with fail
          go_roundw
          case rel => exact ⟨k + 1, by omega, by go_num, _, puts, ls, rfl, rfl, by (try simp only [List.length_append, List.length_cons, List.length_nil]); omega, by omega, hts, hT, ⟨_, _, r1, r2, q3, q4, r5⟩⟩
          case measure => simp [intOf]; omega
      · have hor : (k : Int) < xs.length → 250 ≤ (k : Int) := by omega
        obtain ⟨q, l', q1, q2, q3, q4, q5⟩ := hI
        have hcl := hc1.trans q5 (fun i hi h => by have := hc1.size; omega)
        go_wp2_with fail
        all_goals first | (exfalso; omega) | skip
        all_goals
          clear hor hlen
          refine (nil_cut _ 1 2).mono ?_
          rintro e wl ⟨rfl, rfl⟩
          go_wp2_with fail
          refine (nil_heal _ 1 2).mono ?_
          rintro e wl ⟨rfl, rfl⟩
          go_wp2_with fail
          refine (nil_take _).mono ?_
          rintro e wt ⟨rfl, hct⟩
          go_wp2_with fail
          refine (nil_put _ _ 1 2).mono ?_
          rintro e wl ⟨rfl, rfl⟩
          go_wp2_with fail
          refine (nil_copy _).mono ?_
          rintro e wl ⟨rfl, rfl⟩
          go_wp2_with fail
          refine (nil_flip _ 0 0 1).mono ?_
          rintro e wl ⟨rfl, rfl⟩
          go_wp2_with fail
          refine (nil_len _).mono ?_
          rintro e wl ⟨rfl, rfl⟩
          go_wp2_with fail
          refine (nil_apart _ 1 2).mono ?_
          rintro e wl ⟨rfl, rfl⟩
          go_wp2_with fail
          go_ret
          exact ⟨rfl, (hcl.trans hct (fun _ _ h => h)).alloc _⟩
end Go.Proofs.Ytfjihepjeafpmaa
