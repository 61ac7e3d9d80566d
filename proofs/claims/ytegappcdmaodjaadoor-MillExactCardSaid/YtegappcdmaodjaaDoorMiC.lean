/- mill.turned, isWide over inputs walked. -/
import Derived.Test.YtegappcdmaodjaaDoorMiB
import Derived.Test.YtegappcdmaodjaaDoorMiL
import Derived.Lib.SlBytesRow
namespace Go.Proofs.YtegappcdmaodjaaDoor
open Go.RowKit Go.Lib Go.Sort

/-- A blob's bytes the other way round. -/
def revS (s : ByteArray) : ByteArray := { data := s.data.reverse }
theorem revS_size (s : ByteArray) : (revS s).size = s.size := by
  show s.data.reverse.size = s.data.size
  simp
theorem revS_get (s : ByteArray) (i : Nat) (h : i < (revS s).size) : (revS s)[i] = s.data.toList.reverse.toArray[i]'(by rw [revS_size] at h; simpa using h) := by
  have e : s.data.reverse = s.data.toList.reverse.toArray := by rw [← Array.toList_reverse, Array.toArray_toList]
  exact getElem_congr_coll (c := s.data.reverse) (d := s.data.toList.reverse.toArray) (i := i) (w := h) e
def encB (b : UInt8) : Value := .int .u8 (b.toNat : Int)

set_option maxHeartbeats 1000000 in
theorem turned_any (s : ByteArray) (w : World) (hs : s.size ≤ maxLen) :
    Calls Tryd.prog 33 #[.string s] w (Rets (.string (revS s)) (Chg (fun _ => False) w)) := by
  obtain ⟨w1, cap, hconv, hcell, hfz, hch, hsz, hcap⟩ := conv_bytes (P := Tryd.prog) 9 35 5 Tryd.underlying9 Tryd.underlying35 Tryd.underlying5 w s
  have hH : Holds encB w1 w.heap.size 0 s.data.toList.toArray := by
    intro j hj
    have hj' : j < s.size := by simpa using hj
    rw [Nat.zero_add]
    refine ⟨?_, hfz j hj'⟩
    rw [hcell j hj', getElem!_pos s.data.toList.toArray j hj]
    rfl
  have hrev : ∀ (n : Nat), n = s.size → ∀ K : Ending → World → Prop, (∀ w2 : World, w2.heap.size = w1.heap.size → (convert 35 9 (.slice (some ⟨w.heap.size, 0, none⟩) s.size cap)).run Tryd.prog w2 = .ok (.string (revS s)) w2 → Chg (fun _ => False) w w2 → K (.returned (.tuple #[])) w2) →
      Calls Tryd.prog 45 #[.slice (some ⟨w.heap.size, 0, none⟩) n cap] w1 K := by
    intro n hn K hK
    have hl : s.data.toList.length = s.size := by simp
    have h := AnyE.slices_Reverse Tryd.rev_lays encB (fun x => rfl) w.heap.size 0 cap s.data.toList w1 hH (by unfold maxLen at hs; omega)
    rw [hl, ← hn] at h
    refine h.mono ?_
    rintro e w2 ⟨rfl, q, rfl⟩
    refine hK _ (by simp) ?_ ?_
    · have hB : Bytes (putRow encB (Sort.ahead w1 q) w.heap.size 0 s.data.toList.reverse.toArray) w.heap.size 0 (revS s) := by
        intro i hi
        have hi' : i < s.data.toList.reverse.toArray.size := by have := hi; rw [revS_size] at this; simpa using this
        have := cell?_putRow encB (Sort.ahead w1 q) w.heap.size 0 s.data.toList.toArray s.data.toList.reverse.toArray hH (by simp) i hi'
        rw [this, getElem!_pos s.data.toList.reverse.toArray i hi']
        rw [revS_get]
        rfl
      have h := run_convert_whole (P := Tryd.prog) _ 35 5 9 Tryd.underlying35 Tryd.underlying5 Tryd.underlying9 w.heap.size 0 (revS s) hB cap
      rw [revS_size] at h
      exact h
    · refine ⟨hch.os, hch.tape, hch.output, ?_, ?_⟩
      · simp; omega
      · intro k hk hn'
        rw [← hch.block k hk hn']
        simp [putRow, mapBlock, Array.getElem?_modify]
        intro e; omega
  have hs' := hs
  unfold maxLen at hs
  go_enter Tryd.func33, Tryd.ntmps33
  go_wp2_with (go_at_call 45; refine hrev _ rfl _ ?_; intro w2 hsz2 hb hch2)
  go_ret
  exact ⟨rfl, hch2⟩
end Go.Proofs.YtegappcdmaodjaaDoor
