/- awake: the document's examples. -/
import Derived.Test.YtfjihepjeafpmaaBrE
namespace Go.Proofs.Ytfjihepjeafpmaa
open Go.RowKit

def sgo : ByteArray := { data := #[103, 111] }
def sgn : ByteArray := { data := #[103, 110] }
theorem flip_go : flipS sgo 1 1 = sgn := by decide +kernel
set_option maxRecDepth 100000 in
set_option maxHeartbeats 1000000 in
theorem awake_any (w : World) : Calls Try.prog 8 #[] w (Rets (.bool true) (fun w' => Chg (fun _ => False) w w')) := by
  go_enter Try.func8, Try.ntmps8
  go_wp2_with fail
  refine (new_any w).mono ?_
  rintro e w1 ⟨rfl, h1, c1⟩
  go_wp2_with fail
  refine (put_ok 1 2 sgo h1 (by decide) (by decide) (by decide)).mono ?_
  rintro e w2 ⟨rfl, v2, h2, c2, f2⟩
  go_wp2_with fail
  refine (put_no 1 1 sgo h2 (by decide) (by decide)).mono ?_
  rintro e w2' ⟨rfl, rfl⟩
  rw [show putRes _ 1 1 sgo = 1 from by decide]
  go_wp2_with fail
  refine (copy_yes h2 0 _ rfl (by decide)).mono ?_
  rintro e w3 ⟨rfl, v3, h3, c3, f3⟩
  go_wp2_with fail
  refine (flip_yes h3 0 _ rfl 1 1 rfl (by decide) (by decide) (by decide)).mono ?_
  rintro e w4 ⟨rfl, v4, h4, c4, f4⟩
  rw [flip_go] at h4
  go_wp2_with fail
  refine (flip_no h4 0 _ rfl 1 1 (by decide)).mono ?_
  rintro e w4' ⟨rfl, rfl⟩
  rw [show flipRes _ 1 1 = 41 from by decide]
  go_wp2_with fail
  refine (take_yes h4 0 _ rfl).mono ?_
  rintro e w5 ⟨rfl, v5, h5, c5, f5⟩
  have s5 : w.heap.size + 1 < w5.heap.size := h5.lt _ (.inl rfl)
  go_wp2_with fail
  refine (take_yes (h5.al _) 0 _ rfl).mono ?_
  rintro e w6 ⟨rfl, v6, h6, c6, f6⟩
  have k6 := c6.obj (heap_alloc_new w5 _) (fun hk => Nat.lt_irrefl _ (h5.lt _ hk))
  have s6 := heap_lt k6
  go_wp2_with fail
  refine (cut_any (h6.al _) 2 3).mono ?_
  rintro e w7 ⟨rfl, v7, h7, c7, f7⟩
  have k7 := c7.obj (heap_alloc_old' k6 _) (fun hk => by
    rcases hk with hk | hk | hk
    · omega
    · omega
    · rcases f6 _ hk with hk | hk
      · exact Nat.lt_irrefl _ (h5.lt _ (.inr (.inr hk)))
      · simp at hk; omega)
  have k8 := c7.obj (heap_alloc_new w6 _) (fun hk => Nat.lt_irrefl _ (h6.lt _ hk))
  have z7 := cell_of k7
  have z8 := cell_of k8
  have e1 : sgn = { data := #[103, 110] } := rfl
  have e2 : sgo = { data := #[103, 111] } := rfl
  go_wp2_with fail
  refine (len_any h7).mono ?_
  rintro e w8 ⟨rfl, rfl⟩
  go_wp2_with fail
  refine (apart_any h7 3 2).mono ?_
  rintro e w8 ⟨rfl, rfl⟩
  rw [show apartB _ 3 2 = true from by decide]
  go_wp2_with fail
  refine (apart_any h7 1 2).mono ?_
  rintro e w8 ⟨rfl, rfl⟩
  rw [show apartB _ 1 2 = false from by decide]
  go_wp2_with fail
  go_ret
  refine ⟨rfl, ?_⟩
  have hF : ∀ {a b : World} {F : Nat → Prop} (_ : Chg (fun _ => False) w a) (_ : Chg F a b) (_ : ∀ k, F k → w.heap.size ≤ k), Chg (fun _ => False) w b := fun ha hb hk => ha.trans hb (fun i hi hf => by have := hk i hf; omega)
  have g1 := hF c1 c2 (fun k hk => by rcases hk with h | h | h; omega; omega; cases h)
  have q2 : ∀ k, v2.ownBlock = some k → w.heap.size ≤ k := fun k hk => by
    rcases f2 k hk with h | h
    · cases h
    · have := c1.size; omega
  have g2 := hF g1 c3 (fun k hk => by rcases hk with h | h | h; omega; omega; exact q2 k h)
  have q3 : ∀ k, v3.ownBlock = some k → w.heap.size ≤ k := fun k hk => by
    rcases f3 k hk with h | h
    · exact q2 k h
    · have := g1.size; omega
  have g3 := hF g2 c4 (fun k hk => by rcases hk with h | h | h; omega; omega; exact q3 k h)
  have q4 : ∀ k, v4.ownBlock = some k → w.heap.size ≤ k := fun k hk => by
    rcases f4 k hk with h | h
    · exact q3 k h
    · have := g2.size; omega
  have g4 := hF g3 c5 (fun k hk => by rcases hk with h | h | h; omega; omega; exact q4 k h)
  have q5 : ∀ k, v5.ownBlock = some k → w.heap.size ≤ k := fun k hk => by
    rcases f5 k hk with h | h
    · exact q4 k h
    · have := g3.size; omega
  have g5 := hF (g4.alloc _) c6 (fun k hk => by rcases hk with h | h | h; omega; omega; exact q5 k h)
  have q6 : ∀ k, v6.ownBlock = some k → w.heap.size ≤ k := fun k hk => by
    rcases f6 k hk with h | h
    · exact q5 k h
    · have := g4.size; simp at h; omega
  exact hF (g5.alloc _) c7 (fun k hk => by rcases hk with h | h | h; omega; omega; exact q6 k h)
end Go.Proofs.Ytfjihepjeafpmaa
