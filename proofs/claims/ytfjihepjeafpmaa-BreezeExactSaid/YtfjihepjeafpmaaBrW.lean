/- Both Breezes side by side: what stands, and what each call leaves of it. -/
import Derived.Test.YtfjihepjeafpmaaBrV
import Derived.Test.YtfjihepjeafpmaaBrM
namespace Go.Proofs.Ytfjihepjeafpmaa
open Go.RowKit
section
variable {w : World} {u : Nat} {v : Value} {ls : List Ld} {A : List Bool}

theorem rtake_any (hB : RfAt w u v ls A) (at_ : Int) :
    Calls Try.prog 16 #[.pointer (some ⟨u, 0, none⟩), .int .i64 at_] w
      (Rets (.tuple #[(takeLd ls at_).val, .bool (isB ls at_)]) (RfPost w u v (takeLs ls at_) A)) := by
  by_cases h : isB ls at_ = true
  · obtain ⟨i, rfl, hi, hg⟩ := isB_get h
    have := rtake_yes hB i _ hg
    unfold takeLd takeLs
    rw [if_pos h, if_pos h, h]
    simpa [Ld.val] using this
  · have h' : isB ls at_ = false := by simpa using h
    have := rtake_no hB at_ h'
    unfold takeLd takeLs
    rw [if_neg h, if_neg h, h']
    exact this
theorem rcopy_any (hB : RfAt w u v ls A) (at_ : Int) :
    Calls Try.prog 17 #[.pointer (some ⟨u, 0, none⟩), .int .i64 at_] w (Rets (.bool (copyB ls at_)) (RfPost w u v (copyLs ls at_) A)) := by
  by_cases h : copyB ls at_ = true
  · have h2 := h
    simp [copyB] at h2
    obtain ⟨i, rfl, hi, hg⟩ := isB_get h2.1
    have := rcopy_yes hB i _ hg h2.2
    unfold copyLs
    rw [if_pos h, h]
    simpa using this
  · have h' : copyB ls at_ = false := by simpa using h
    have h2 := h'
    simp [copyB] at h2
    refine (rcopy_no hB at_ ?_).mono ?_
    · by_cases hb : isB ls at_ = true
      · exact .inr (h2 hb)
      · exact .inl (by simpa using hb)
    · rintro e w' ⟨rfl, rfl⟩
      unfold copyLs
      rw [if_neg h, h']
      exact ⟨rfl, hB.post⟩
theorem rflip_any (hB : RfAt w u v ls A) (hs : ∀ x ∈ ls, x.by_.size ≤ 100000) (at_ pl mk : Int) :
    Calls Try.prog 18 #[.pointer (some ⟨u, 0, none⟩), .int .i64 at_, .int .i64 pl, .int .i64 mk] w (Rets (.int .i64 (flipR ls at_ pl mk)) (RfPost w u v (flipLs ls at_ pl mk) A)) := by
  by_cases h : isB ls at_ = true
  · obtain ⟨i, rfl, hi, hg⟩ := isB_get h
    have e : flipR ls i pl mk = flipRes (ls.getD i Ld.none) pl mk := by unfold flipR; rw [if_pos h]; rfl
    by_cases hr : flipRes (ls.getD i Ld.none) pl mk = 0
    · have hr2 := hr
      unfold flipRes at hr2
      split at hr2
      · omega
      · rename_i hf
        split at hr2
        · omega
        · rename_i ho
          have := rflip_yes hB i _ hg pl.toNat mk (by simpa using hf) (by omega) (by omega) (by omega) (hs _ (List.mem_of_getElem? hg))
          rw [show ((pl.toNat : Nat) : Int) = pl from by omega] at this
          unfold flipLs
          rw [if_pos (e.trans hr), e.trans hr]
          simpa using this
    · refine (rflip_no hB i _ hg pl mk hr).mono ?_
      rintro e' w' ⟨rfl, hp⟩
      unfold flipLs
      rw [if_neg (by rw [e]; exact hr), e]
      exact ⟨rfl, hp⟩
  · have h' : isB ls at_ = false := by simpa using h
    refine (rflip_none hB at_ pl mk h').mono ?_
    rintro e' w' ⟨rfl, rfl⟩
    have e : flipR ls at_ pl mk = 12 := by unfold flipR; rw [if_neg h]
    unfold flipLs
    rw [if_neg (by omega), e]
    exact ⟨rfl, hB.post⟩
theorem rlen_any (hB : RfAt w u v ls A) (W : World) (ty : TypeId) : (Builtin.len_ #[40] ty #[v]).run Try.prog W = .ok (.int .i64 ls.length) W :=
  run_len_own (P := Try.prog) Try.underlying40 hB.own W ty
end

/-- Both Breezes, and blocks bl, which no call on them touches. -/
structure ExSt (B b mb u : Nat) (bl : List (Nat × Obj)) (w0 w : World) (ls lu : List Ld) (A : List Bool) (l : List ((Int × Int) × Bool)) (v vu : Value) : Prop where
  br : BrAt w b mb v ls l
  rf : RfAt w u vu lu A
  ov : ∀ k, v.ownBlock = some k → B ≤ k ∧ k ≠ u ∧ vu.ownBlock ≠ some k
  ou : ∀ k, vu.ownBlock = some k → B ≤ k ∧ k ≠ b ∧ k ≠ mb
  blk : ∀ p ∈ bl, w.heap[p.1]? = some p.2 ∧ p.1 ≠ b ∧ p.1 ≠ mb ∧ p.1 ≠ u ∧ v.ownBlock ≠ some p.1 ∧ vu.ownBlock ≠ some p.1
  ch : Chg (fun k => B ≤ k) w0 w
  apart : B ≤ b ∧ B ≤ mb ∧ B ≤ u ∧ u ≠ b ∧ u ≠ mb
def Ex (B b mb u : Nat) (bl : List (Nat × Obj)) (w0 w : World) (ls lu : List Ld) (A : List Bool) (l : List ((Int × Int) × Bool)) : Prop := ∃ v vu, ExSt B b mb u bl w0 w ls lu A l v vu
section
variable {B b mb u : Nat} {bl : List (Nat × Obj)} {w0 w w' : World} {ls lu ls' lu' : List Ld} {A A' : List Bool} {l l' : List ((Int × Int) × Bool)} {v vu : Value}
theorem ExSt.stepB (h : ExSt B b mb u bl w0 w ls lu A l v vu) (hp : BrPost w b mb v ls' l' w') : Ex B b mb u bl w0 w' ls' lu A l' := by
  obtain ⟨v', g1, g2, g3⟩ := hp
  obtain ⟨a1, a2, a3, a4, a5⟩ := h.apart
  have hu := heap_lt h.rf.blk
  have hb := heap_lt h.br.blk
  have hF : ∀ k, vu.ownBlock = some k → ¬ (k = b ∨ k = mb ∨ v.ownBlock = some k) := fun k hk e => by
    rcases e with e | e | e
    · exact (h.ou k hk).2.1 e
    · exact (h.ou k hk).2.2 e
    · exact (h.ov k e).2.2 hk
  refine ⟨v', vu, g1, h.rf.chg g2 (fun e => ?_) hF, fun k hk => ?_, h.ou, fun p hp => ?_, h.ch.upto g2 (fun k e => ?_), h.apart⟩
  · rcases e with e | e | e
    · exact a4 e
    · exact a5 e
    · exact (h.ov _ e).2.1 rfl
  · rcases g3 k hk with e | e
    · exact h.ov k e
    · have := h.ch.size
      refine ⟨by omega, by omega, fun e2 => ?_⟩
      have := (h.rf.own.lt k e2).2
      omega
  · obtain ⟨p1, p2, p3, p4, p5, p6⟩ := h.blk p hp
    have hlt := heap_lt p1
    refine ⟨g2.obj p1 (fun e => ?_), p2, p3, p4, fun e => ?_, p6⟩
    · rcases e with e | e | e
      · exact p2 e
      · exact p3 e
      · exact p5 e
    · rcases g3 _ e with e | e
      · exact p5 e
      · omega
  · rcases e with e | e | e
    · omega
    · omega
    · exact (h.ov _ e).1
theorem ExSt.stepU (h : ExSt B b mb u bl w0 w ls lu A l v vu) (hp : RfPost w u vu lu' A' w') : Ex B b mb u bl w0 w' ls lu' A' l := by
  obtain ⟨v', g1, g2, g3⟩ := hp
  obtain ⟨a1, a2, a3, a4, a5⟩ := h.apart
  have hb := heap_lt h.br.blk
  have hm := h.br.map.lt
  have hF : ∀ k, v.ownBlock = some k → ¬ (k = u ∨ vu.ownBlock = some k) := fun k hk e => by
    rcases e with e | e
    · exact (h.ov k hk).2.1 e
    · exact (h.ov k hk).2.2 e
  refine ⟨v, v', h.br.chg g2 (fun e => ?_) (fun e => ?_) hF, g1, fun k hk => ⟨(h.ov k hk).1, (h.ov k hk).2.1, fun e2 => ?_⟩, fun k hk => ?_, fun p hp => ?_, h.ch.upto g2 (fun k e => ?_), h.apart⟩
  · rcases e with e | e
    · exact a4 e.symm
    · exact (h.ou _ e).2.1 rfl
  · rcases e with e | e
    · exact a5 e.symm
    · exact (h.ou _ e).2.2 rfl
  · rcases g3 k e2 with e | e
    · exact (h.ov k hk).2.2 e
    · have := (h.br.own.lt k hk).2
      omega
  · rcases g3 k hk with e | e
    · exact h.ou k e
    · have := h.ch.size
      exact ⟨by omega, by omega, by omega⟩
  · obtain ⟨p1, p2, p3, p4, p5, p6⟩ := h.blk p hp
    have hlt := heap_lt p1
    refine ⟨g2.obj p1 (fun e => ?_), p2, p3, p4, p5, fun e => ?_⟩
    · rcases e with e | e
      · exact p4 e
      · exact p6 e
    · rcases g3 _ e with e | e
      · exact p6 e
      · omega
  · rcases e with e | e
    · omega
    · exact (h.ou _ e).1
theorem Ex.chg (h : Ex B b mb u bl w0 w ls lu A l) (hc : Chg (fun _ => False) w w') : Ex B b mb u bl w0 w' ls lu A l := by
  obtain ⟨v, vu, h⟩ := h
  exact ⟨v, vu, h.br.chg hc (fun h => h) (fun h => h) (fun _ _ h => h), h.rf.chg hc (fun h => h) (fun _ _ h => h), h.ov, h.ou, fun p hp => ⟨hc.obj (h.blk p hp).1 (fun h => h), (h.blk p hp).2⟩, h.ch.trans hc (fun _ _ h => h.elim), h.apart⟩
theorem Ex.cell {X : Nat} {xc : Array Value} {T : TypeId} (h : Ex B b mb u ((X, .cells xc T (0, 0)) :: bl) w0 w ls lu A l) (i : Nat) : w.cell? ⟨X, i, none⟩ = xc[i]? := by
  obtain ⟨v, vu, h⟩ := h
  exact cell_of (h.blk (X, .cells xc T (0, 0)) (List.mem_cons_self ..)).1 i
theorem Ex.tail {p : Nat × Obj} (h : Ex B b mb u (p :: bl) w0 w ls lu A l) : Ex B b mb u bl w0 w ls lu A l := by
  obtain ⟨v, vu, h⟩ := h
  exact ⟨v, vu, h.br, h.rf, h.ov, h.ou, fun q hq => h.blk q (List.mem_cons_of_mem _ hq), h.ch, h.apart⟩
theorem Ex.al (h : Ex B b mb u bl w0 w ls lu A l) (xc : Array Value) (T : TypeId) : Ex B b mb u ((w.heap.size, .cells xc T (0, 0)) :: bl) w0 (w.alloc (.cells xc T)) ls lu A l := by
  have h2 := h.chg (w' := w.alloc (.cells xc T)) ((Chg.refl _ w).alloc _)
  obtain ⟨v0, vu0, h0⟩ := h
  have hu := heap_lt h0.rf.blk
  have hb := heap_lt h0.br.blk
  have hm := h0.br.map.lt
  have hc : Chg (fun _ => False) w (w.alloc (.cells xc T)) := (Chg.refl _ w).alloc _
  refine ⟨v0, vu0, h0.br.chg hc (fun h => h) (fun h => h) (fun _ _ h => h), h0.rf.chg hc (fun h => h) (fun _ _ h => h), h0.ov, h0.ou, fun p hp => ?_, h0.ch.trans hc (fun _ _ h => h.elim), h0.apart⟩
  rcases List.mem_cons.1 hp with rfl | hp
  · exact ⟨heap_alloc_new w _, by show w.heap.size ≠ b; omega, by show w.heap.size ≠ mb; omega, by show w.heap.size ≠ u; omega, fun e => by have := (h0.br.own.lt _ e).2; exact Nat.lt_irrefl _ this, fun e => by have := (h0.rf.own.lt _ e).2; exact Nat.lt_irrefl _ this⟩
  · exact ⟨hc.obj (h0.blk p hp).1 (fun h => h), (h0.blk p hp).2⟩

theorem put_ex (h : Ex B b mb u bl w0 w ls lu A l) (fr to : Int) (s : ByteArray) (hs : s.size ≤ 9223372036854775807) :
    Calls Try.prog 10 #[.pointer (some ⟨b, 0, none⟩), .int .i64 fr, .int .i64 to, .string s] w (Rets (.int .i64 (putRes ls fr to s)) (fun w' => Ex B b mb u bl w0 w' (putLs ls fr to s) lu A l)) := by
  obtain ⟨v, vu, h⟩ := h
  exact (put_any fr to s h.br hs).mono fun e w' hp => ⟨hp.1, h.stepB hp.2⟩
theorem rput_ex (h : Ex B b mb u bl w0 w ls lu A l) (fr to : Int) (s : ByteArray) (hs : s.size ≤ 9223372036854775807) :
    Calls Try.prog 15 #[.pointer (some ⟨u, 0, none⟩), .int .i64 fr, .int .i64 to, .string s] w (Rets (.int .i64 (putRes lu fr to s)) (fun w' => Ex B b mb u bl w0 w' ls (putLs lu fr to s) A l)) := by
  obtain ⟨v, vu, h⟩ := h
  exact (rput_any fr to s h.rf hs).mono fun e w' hp => ⟨hp.1, h.stepU hp.2⟩
theorem take_ex (h : Ex B b mb u bl w0 w ls lu A l) (at_ : Int) :
    Calls Try.prog 11 #[.pointer (some ⟨b, 0, none⟩), .int .i64 at_] w (Rets (.tuple #[(takeLd ls at_).val, .bool (isB ls at_)]) (fun w' => Ex B b mb u bl w0 w' (takeLs ls at_) lu A l)) := by
  obtain ⟨v, vu, h⟩ := h
  exact (take_any h.br at_).mono fun e w' hp => ⟨hp.1, h.stepB hp.2⟩
theorem rtake_ex (h : Ex B b mb u bl w0 w ls lu A l) (at_ : Int) :
    Calls Try.prog 16 #[.pointer (some ⟨u, 0, none⟩), .int .i64 at_] w (Rets (.tuple #[(takeLd lu at_).val, .bool (isB lu at_)]) (fun w' => Ex B b mb u bl w0 w' ls (takeLs lu at_) A l)) := by
  obtain ⟨v, vu, h⟩ := h
  exact (rtake_any h.rf at_).mono fun e w' hp => ⟨hp.1, h.stepU hp.2⟩
theorem copy_ex (h : Ex B b mb u bl w0 w ls lu A l) (at_ : Int) :
    Calls Try.prog 12 #[.pointer (some ⟨b, 0, none⟩), .int .i64 at_] w (Rets (.bool (copyB ls at_)) (fun w' => Ex B b mb u bl w0 w' (copyLs ls at_) lu A l)) := by
  obtain ⟨v, vu, h⟩ := h
  exact (copy_any h.br at_).mono fun e w' hp => ⟨hp.1, h.stepB hp.2⟩
theorem rcopy_ex (h : Ex B b mb u bl w0 w ls lu A l) (at_ : Int) :
    Calls Try.prog 17 #[.pointer (some ⟨u, 0, none⟩), .int .i64 at_] w (Rets (.bool (copyB lu at_)) (fun w' => Ex B b mb u bl w0 w' ls (copyLs lu at_) A l)) := by
  obtain ⟨v, vu, h⟩ := h
  exact (rcopy_any h.rf at_).mono fun e w' hp => ⟨hp.1, h.stepU hp.2⟩
theorem flip_ex (h : Ex B b mb u bl w0 w ls lu A l) (at_ pl mk : Int) :
    Calls Try.prog 13 #[.pointer (some ⟨b, 0, none⟩), .int .i64 at_, .int .i64 pl, .int .i64 mk] w (Rets (.int .i64 (flipR ls at_ pl mk)) (fun w' => Ex B b mb u bl w0 w' (flipLs ls at_ pl mk) lu A l)) := by
  obtain ⟨v, vu, h⟩ := h
  exact (flip_any h.br at_ pl mk).mono fun e w' hp => ⟨hp.1, h.stepB hp.2⟩
theorem rflip_ex (h : Ex B b mb u bl w0 w ls lu A l) (hs : ∀ x ∈ lu, x.by_.size ≤ 100000) (at_ pl mk : Int) :
    Calls Try.prog 18 #[.pointer (some ⟨u, 0, none⟩), .int .i64 at_, .int .i64 pl, .int .i64 mk] w (Rets (.int .i64 (flipR lu at_ pl mk)) (fun w' => Ex B b mb u bl w0 w' ls (flipLs lu at_ pl mk) A l)) := by
  obtain ⟨v, vu, h⟩ := h
  exact (rflip_any h.rf hs at_ pl mk).mono fun e w' hp => ⟨hp.1, h.stepU hp.2⟩
theorem cut_ex (h : Ex B b mb u bl w0 w ls lu A l) (x y : Int) :
    Calls Try.prog 19 #[.pointer (some ⟨b, 0, none⟩), .int .i64 x, .int .i64 y] w (Rets (.tuple #[]) (fun w' => Ex B b mb u bl w0 w' ls lu A (cutL l x y))) := by
  obtain ⟨v, vu, h⟩ := h
  exact (cut_any h.br x y).mono fun e w' hp => ⟨hp.1, h.stepB hp.2⟩
theorem heal_ex (h : Ex B b mb u bl w0 w ls lu A l) (x y : Int) :
    Calls Try.prog 21 #[.pointer (some ⟨b, 0, none⟩), .int .i64 x, .int .i64 y] w (Rets (.tuple #[]) (fun w' => Ex B b mb u bl w0 w' ls lu A (ldel (encK y x) l))) := by
  obtain ⟨v, vu, h⟩ := h
  rw [encK_comm y x]
  exact (heal_any h.br x y).mono fun e w' hp => ⟨hp.1, h.stepB hp.2⟩
theorem rset_ex (h : Ex B b mb u bl w0 w ls lu A l) (x y : Int) (c : Bool) :
    Calls Try.prog 20 #[.pointer (some ⟨u, 0, none⟩), .int .i64 x, .int .i64 y, .bool c] w (Rets (.tuple #[]) (fun w' => Ex B b mb u bl w0 w' ls lu (setA A x y c) l)) := by
  obtain ⟨v, vu, h⟩ := h
  exact (rset_any x y c h.rf).mono fun e w' hp => ⟨hp.1, h.stepU hp.2⟩
theorem len_ex (h : Ex B b mb u bl w0 w ls lu A l) : Calls Try.prog 22 #[.pointer (some ⟨b, 0, none⟩)] w (Rets (.int .i64 ls.length) (fun w' => w = w')) := by
  obtain ⟨v, vu, h⟩ := h
  exact len_any h.br
theorem apart_ex (h : Ex B b mb u bl w0 w ls lu A l) (ht : Tab2 A l) (x y : Int) : Calls Try.prog 23 #[.pointer (some ⟨b, 0, none⟩), .int .i64 x, .int .i64 y] w (Rets (.bool (apartA A x y)) (fun w' => w = w')) := by
  obtain ⟨v, vu, h⟩ := h
  rw [← ht.apart]
  exact apart_any h.br x y
theorem rapart_ex (h : Ex B b mb u bl w0 w ls lu A l) (x y : Int) : Calls Try.prog 24 #[.pointer (some ⟨u, 0, none⟩), .int .i64 x, .int .i64 y] w (Rets (.bool (apartA A x y)) (fun w' => w = w')) := by
  obtain ⟨v, vu, h⟩ := h
  exact rapart_any x y h.rf
end

/-- No load bears more than can be put. -/
def Narrow (ls : List Ld) : Prop := ∀ x ∈ ls, x.by_.size ≤ 100000
theorem Narrow.put {ls : List Ld} (h : Narrow ls) (fr to : Int) (s : ByteArray) : Narrow (putLs ls fr to s) := by
  unfold putLs
  split
  · rename_i hr
    intro x hx
    rcases List.mem_append.1 hx with hx | hx
    · exact h x hx
    · rw [List.mem_singleton.1 hx]
      unfold putRes at hr
      split at hr
      · omega
      · rename_i h2
        simp at h2
        exact Nat.le_trans h2.2 (by decide)
  · exact h
theorem Narrow.take {ls : List Ld} (h : Narrow ls) (at_ : Int) : Narrow (takeLs ls at_) := by
  unfold takeLs
  split
  · exact fun x hx => h x (List.mem_of_mem_eraseIdx hx)
  · exact h
theorem Narrow.getD {ls : List Ld} (h : Narrow ls) (i : Nat) : (ls.getD i Ld.none).by_.size ≤ 100000 := by
  rw [List.getD_eq_getElem?_getD]
  cases hh : ls[i]? with
  | none => simp [Ld.none]
  | some x => exact h x (List.mem_of_getElem? hh)
theorem Narrow.copy {ls : List Ld} (h : Narrow ls) (at_ : Int) : Narrow (copyLs ls at_) := by
  unfold copyLs
  split
  · intro x hx
    rcases List.mem_append.1 hx with hx | hx
    · exact h x hx
    · rw [List.mem_singleton.1 hx]; exact h.getD _
  · exact h
theorem flipS_size (s : ByteArray) (p : Nat) (mk : Int) : (flipS s p mk).size = s.size := by
  show (s.data.toList.set p _).toArray.size = s.size
  simp
theorem Narrow.flip {ls : List Ld} (h : Narrow ls) (at_ pl mk : Int) : Narrow (flipLs ls at_ pl mk) := by
  unfold flipLs
  split
  · intro x hx
    rcases List.mem_or_eq_of_mem_set hx with hx | hx
    · exact h x hx
    · rw [hx]
      show (flipS _ _ _).size ≤ _
      rw [flipS_size]
      exact h.getD _
  · exact h
end Go.Proofs.Ytfjihepjeafpmaa
