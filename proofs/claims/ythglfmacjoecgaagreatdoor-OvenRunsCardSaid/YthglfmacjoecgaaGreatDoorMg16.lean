/- Texts of the proof, one behind the other: mill.step walked, a theorem a letter (printed by mk.py); mill.step walked, all letters joined: what a step leaves is stepRM; (*stamp.Press).Add walked. -/
import Derived.Test.YthglfmacjoecgaaGreatDoorMg15
import Derived.Deep.RegionHeld3
import Derived.Test.YthglfmacjoecgaaGreatDoorMg05
import Derived.StillTailTactics
namespace Go.Proofs.YthglfmacjoecgaaGreatDoor
open Go.RowKit

set_option maxRecDepth 100000 in
set_option maxHeartbeats 2000000 in
theorem step_i {B : Nat} {w : World} {b : Nat} {v : Value} {code : ByteArray} {inV : Value} {at_ : Nat} {r : List ByteArray} (h : MachV B w b v code inV at_ (r ++ [])) (hB : B ≤ w.heap.size) (hr : r.length ≤ 8) (hat : at_ ≤ 1000)
    (s : ByteArray) (hs1 : 1 ≤ s.size) (hs2 : s.size ≤ 300) (hc : s[0] = 105) {ins : List ByteArray} {w0 : World} (hin : StrsAt w0 inV ins) (hw0 : w0.heap.size ≤ B) (hc0 : Chg (fun k => B ≤ k) w0 w) (hn : numN s < ins.length) :
    Calls Tryz.prog 61 #[.pointer (some ⟨b, 0, none⟩), .string s] w (Stepped B w b code inV (at_ + s.size) (pushR r [ins[numN s]])) := by
  have hc' : ((s[0].toNat : Nat) : Int) = 105 := by rw [hc]; rfl
  have htk : ∀ w : World, Calls Tryz.prog 96 #[.int .u8 105] w (Rets (.int .i64 0) (fun w' => w = w')) := fun w => takes_any 105 w
  have hpop := mpops h.drew hB 0 rfl (by omega) (by omega)
  have hs0 : (0 : Int) < s.size := by omega
  have hn' : (numN s : Int) < (ins.length : Int) := by omega
  have hlenI := fun W ty => hin.len (P := Tryz.prog) Tryz.underlying22 W ty
  obtain ⟨ad, hix, hadc, hadb⟩ := hin.ix (P := Tryz.prog) Tryz.underlying22 Tryz.sizeOf9 (numN s) hn
  have c2 := h.cell2
  have hadB : ad.block < B := by omega
  have hadS := hin.2.2 _ (List.getElem_mem hn)
  go_enter Tryz.func61, Tryz.ntmps61
  go_wp2_with (go_at_call 95; refine (number_any s _ (by unfold maxLen; omega)).mono ?_; rintro e w' ⟨rfl, rfl⟩)
  go_region_held3 (fun _ => True) (trivial) (first | (go_at_call 96; refine (htk _).mono ?_; rintro e w' ⟨rfl, rfl⟩) | (go_at_call 93; refine hpop.mono ?_; rintro e w1 ⟨lv, rfl, hch1, hlv, v1, hM1, hv1⟩))
  have c3 := hM1.cell3
  have f3 := frozen_of hM1.st.heap 3
  have hM2 := hM1.setAt (at_ + s.size)
  rw [Int.natCast_add] at hM2
  have hB3 : B ≤ (w1.setCell ⟨b, 3, none⟩ (.int .i64 ((at_ : Int) + (s.size : Int)))).heap.size := Nat.le_trans hB (by have := hch1.size; simpa [World.setCell] using this)
  have hgs := hid (show w1.heap.size = (w1.setCell ⟨b, 3, none⟩ (.int .i64 ((at_ : Int) + (s.size : Int)))).heap.size by simp [World.setCell])
  have hW : Chg (fun k => B ≤ k) w.drew (w1.setCell ⟨b, 3, none⟩ (.int .i64 ((at_ : Int) + (s.size : Int)))) := hch1.setCell (p := ⟨b, 3, none⟩) (fun _ => h.hb) _
  have k0 : (w1.setCell ⟨b, 3, none⟩ (.int .i64 ((at_ : Int) + (s.size : Int)))).cell? ⟨b, 2, none⟩ = some inV := hM2.cell2
  have k1 : (w1.setCell ⟨b, 3, none⟩ (.int .i64 ((at_ : Int) + (s.size : Int)))).cell? ad = some (.string ins[numN s]) := (hc0.trans ((((Chg.refl _ w).drew).trans hW (fun _ _ h => h))) (fun _ _ h => h)).cell hadc (by simp; omega)
  have hsz : ∀ x ∈ [ins[numN s]], x.size ≤ maxLen := by
    intro x hx; simp at hx; subst hx; exact hadS
  have k0' := cell_alloc_drew k0 (.cells #[.string ins[numN s]] 9)
  have k1' := cell_alloc_drew k1 (.cells #[.string ins[numN s]] 9)
  go_wp2_with fail
  go_region_held3 (fun w' => w'.cell? ⟨b, 2, none⟩ = some inV ∧ w'.cell? ad = some (.string ins[numN s])) (first | go_keep | exact ⟨k0', k1'⟩ | (obtain ⟨v4, hM5⟩ := hM4; exact ⟨hM5.cell2, hch2.cell k1 (by simp; omega)⟩)) (first | (go_at_call 97; refine (mpush_drew hM2 hB3 [ins[numN s]] (by simp) _ rfl _ _ _ hgs.out rfl hsz (by omega)).mono ?_; rintro e w' ⟨rfl, hch2, hch3, hM4⟩))
  go_wp2_with fail
  go_ret
  exact ⟨rfl, stepped hch1 hch2 h.hb, hM4⟩

set_option maxRecDepth 100000 in
set_option maxHeartbeats 2000000 in
theorem step_bad {B : Nat} {w : World} {b : Nat} {v : Value} {code : ByteArray} {inV : Value} {at_ : Nat} {l : List ByteArray} (h : MachV B w b v code inV at_ l)
    (s : ByteArray) (hs1 : 1 ≤ s.size) (hs2 : s.size ≤ 300) (hc : s[0] = 105) {ins : List ByteArray} {w0 : World} (hin : StrsAt w0 inV ins) (hn : ins.length ≤ numN s) :
    Calls Tryz.prog 61 #[.pointer (some ⟨b, 0, none⟩), .string s] w (Stepped B w b code inV at_ (32, l)) := by
  have hc' : ((s[0].toNat : Nat) : Int) = 105 := by rw [hc]; rfl
  have hn' : (ins.length : Int) ≤ (numN s : Int) := by omega
  have hlenI := fun W ty => hin.len (P := Tryz.prog) Tryz.underlying22 W ty
  have c2 := h.cell2
  have hs0 : (0 : Int) < s.size := by omega
  go_enter Tryz.func61, Tryz.ntmps61
  go_wp2_with (go_at_call 95; refine (number_any s _ (by unfold maxLen; omega)).mono ?_; rintro e w' ⟨rfl, rfl⟩)
  go_ret
  exact ⟨rfl, Chg.refl _ w, v, h⟩

set_option maxRecDepth 100000 in
set_option maxHeartbeats 2000000 in
theorem step_few {B : Nat} {w : World} {b : Nat} {v : Value} {code : ByteArray} {inV : Value} {at_ : Nat} {l : List ByteArray} (h : MachV B w b v code inV at_ l)
    (s : ByteArray) (hs1 : 1 ≤ s.size) (hs2 : s.size ≤ 300) (hc : s[0] ≠ 105) (hl : l.length < takeN s[0]) :
    Calls Tryz.prog 61 #[.pointer (some ⟨b, 0, none⟩), .string s] w (Stepped B w b code inV at_ (31, l)) := by
  have hc' : ((s[0].toNat : Int) == 105) = false := by
    simp
    intro e
    exact hc (UInt8.toNat_inj.1 (by have : (105 : UInt8).toNat = 105 := rfl; omega))
  have htk : ∀ w : World, Calls Tryz.prog 96 #[.int .u8 s[0].toNat] w (Rets (.int .i64 (takeN s[0])) (fun w' => w = w')) := fun w => takes_any s[0] w
  have ht2 : takeN s[0] ≤ 2 := by unfold takeN; split <;> (try split) <;> omega
  have hpop := pop_less w.drew b v _ _ l h.drew.st (takeN s[0]) hl ht2
  have hs0 : (0 : Int) < s.size := by omega
  go_enter Tryz.func61, Tryz.ntmps61
  go_wp2_with (go_at_call 95; refine (number_any s _ (by unfold maxLen; omega)).mono ?_; rintro e w' ⟨rfl, rfl⟩)
  go_region_held3 (fun _ => True) (trivial) (first | (go_at_call 96; refine (htk _).mono ?_; rintro e w' ⟨rfl, rfl⟩) | (go_at_call 93; refine hpop.mono ?_; rintro e w1 ⟨rfl, rfl⟩))
  go_wp2_with fail
  go_ret
  exact ⟨rfl, (Chg.refl _ w).drew, v, h.drew⟩
end Go.Proofs.YthglfmacjoecgaaGreatDoor
namespace Go.Proofs.YthglfmacjoecgaaGreatDoor
open Go.RowKit

/-- The tables that step reads (laid once; blocks below B). -/
def gPow : Nat := 2
theorem powG : Tryz.prog.globalNamed "internal/strconv.uint64pow10" = some gPow := by kernel_rfl
def gWds : Nat := 0
theorem wdsG : Tryz.prog.globalNamed "apiary/stamp.words" = some gWds := by kernel_rfl
def wordsTab : List Int := [1116352408, 1899447441, 3049323471, 3921009573, 961987163, 1508970993, 2453635748, 2870763221, 3624381080, 310598401, 607225278, 1426881987, 1925078388, 2162078206, 2614888103, 3248222580, 3835390401, 4022224774, 264347078, 604807628, 770255983, 1249150122, 1555081692, 1996064986, 2554220882, 2821834349, 2952996808, 3210313671, 3336571891, 3584528711, 113926993, 338241895, 666307205, 773529912, 1294757372, 1396182291, 1695183700, 1986661051, 2177026350, 2456956037, 2730485921, 2820302411, 3259730800, 3345764771, 3516065817, 3600352804, 4094571909, 275423344, 430227734, 506948616, 659060556, 883997877, 958139571, 1322822218, 1537002063, 1747873779, 1955562222, 2024104815, 2227730452, 2361852424, 2428436474, 2756734187, 3204031479, 3329325298]
structure TabsOK (B : Nat) (w : World) : Prop where
  pow : Lib.TabIs Tryz.prog w "internal/strconv.uint64pow10" .u64 Lib.pow10Tab
  wds : Lib.TabIs Tryz.prog w "apiary/stamp.words" .u32 wordsTab
  gp : gPow < B
  gw : gWds < B
theorem TabsOK.chg {B : Nat} {w w' : World} (h : TabsOK B w) (hc : Chg (fun k => B ≤ k) w w') : TabsOK B w' :=
  ⟨tabIs_chg powG h.pow hc (by have := h.gp; omega), tabIs_chg wdsG h.wds hc (by have := h.gw; omega), h.gp, h.gw⟩

/-- A letter that begins a step. -/
def okL (c : UInt8) : Bool := plainB c || numB c || c == 112
theorem okL_mem (c : UInt8) (h : okL c = true) : c = 99 ∨ c = 100 ∨ c = 115 ∨ c = 120 ∨ c = 114 ∨ c = 104 ∨ c = 108 ∨ c = 61 ∨ c = 105 ∨ c = 116 ∨ c = 107 ∨ c = 106 ∨ c = 103 ∨ c = 112 := by
  have key : ∀ n : Fin 256, okL (UInt8.ofNat n.1) = true → (n.1 = 99 ∨ n.1 = 100 ∨ n.1 = 115 ∨ n.1 = 120 ∨ n.1 = 114 ∨ n.1 = 104 ∨ n.1 = 108 ∨ n.1 = 61 ∨ n.1 = 105 ∨ n.1 = 116 ∨ n.1 = 107 ∨ n.1 = 106 ∨ n.1 = 103 ∨ n.1 = 112) := by decide +kernel
  have h1 := key ⟨c.toNat, c.toNat_lt⟩ (by simpa using h)
  simp only at h1
  have e : ∀ k : Nat, c.toNat = k → c = UInt8.ofNat k := fun k hk => by rw [← hk]; simp
  rcases h1 with h | h | h | h | h | h | h | h | h | h | h | h | h | h <;> (have := e _ h; subst this; decide)

def putsR (H : ByteArray → ByteArray) (ins : List ByteArray) (c : UInt8) (n : Nat) (s a b : ByteArray) : List ByteArray :=
  if c = 105 then [ins.getD n .empty] else if c = 112 then [s.extract 2 s.size] else if c = 99 then [a ++ b] else if c = 100 then [a, a] else if c = 115 then [b, a] else if c = 114 then [revS a]
  else if c = 104 then [H a] else if c = 108 then [itoaS a.size] else if c = 116 then [a.extract 0 (min (n : Int) (a.size : Int)).toNat] else if c = 107 then [a.extract (min (n : Int) (a.size : Int)).toNat a.size]
  else if c = 61 then [sameS a b] else []
def goesR (c : UInt8) (n k : Nat) (a : ByteArray) : Nat := if c = 103 then n else if c = 106 then (if a = ByteArray.empty then n else k) else k
/-- What a step leaves: its code, where it goes on, the stack. -/
def stepRM (H : ByteArray → ByteArray) (ins : List ByteArray) (c : UInt8) (n : Nat) (s : ByteArray) (at_ : Nat) (l : List ByteArray) : Nat × Nat × List ByteArray :=
  if c = 105 ∧ ins.length ≤ n then (32, at_, l) else if l.length < takeN c then (31, at_, l)
  else
    let r := l.take (l.length - takeN c)
    let p := l.drop (l.length - takeN c)
    let q := pushR r (putsR H ins c n s (p.getD 0 .empty) (p.getD 1 .empty))
    (q.1, goesR c n (at_ + s.size) (p.getD 0 .empty), q.2)

theorem split1 {l : List ByteArray} (h : 1 ≤ l.length) : l.take (l.length - 1) ++ [(l.drop (l.length - 1)).getD 0 .empty] = l := by
  have h1 : (l.drop (l.length - 1)).length = 1 := by simp; omega
  obtain ⟨a, ha⟩ := List.length_eq_one_iff.1 h1
  have := List.take_append_drop (l.length - 1) l
  rw [ha] at this ⊢
  simpa using this
theorem split2 {l : List ByteArray} (h : 2 ≤ l.length) : l.take (l.length - 2) ++ [(l.drop (l.length - 2)).getD 0 .empty, (l.drop (l.length - 2)).getD 1 .empty] = l := by
  have h1 : (l.drop (l.length - 2)).length = 2 := by simp; omega
  obtain ⟨a, b, ha⟩ : ∃ a b, l.drop (l.length - 2) = [a, b] := by
    match hd : l.drop (l.length - 2), h1 with
    | [a, b], _ => exact ⟨a, b, rfl⟩
  have := List.take_append_drop (l.length - 2) l
  rw [ha] at this ⊢
  simpa using this
theorem mem1 {l : List ByteArray} (_ : 1 ≤ l.length) {k : Nat} (hk : 1 ≤ k) (hk2 : k ≤ l.length) (i : Nat) (hi : i < k) : (l.drop (l.length - k)).getD i .empty ∈ l := by
  have hl : i < (l.drop (l.length - k)).length := by simp; omega
  rw [List.getD_eq_getElem?_getD, List.getElem?_eq_getElem hl]
  exact List.mem_of_mem_drop (List.getElem_mem hl)

/-- The call of step with the letter 'h', said of any machine. -/
def StepH (H : ByteArray → ByteArray) : Prop :=
  ∀ {B : Nat} {w : World} {b : Nat} {v : Value} {code : ByteArray} {inV : Value} {at_ : Nat} {r : List ByteArray} {p0 : ByteArray} (_ : MachV B w b v code inV at_ (r ++ [p0])) (_ : B ≤ w.heap.size) (_ : r.length ≤ 8) (_ : p0.size ≤ 512) (_ : at_ ≤ 1000)
    (s : ByteArray) (_ : 1 ≤ s.size) (_ : s.size ≤ 300) (_ : s[0] = 104) (_ : TabsOK B w),
    Calls Tryz.prog 61 #[.pointer (some ⟨b, 0, none⟩), .string s] w (Stepped B w b code inV (at_ + s.size) (pushR r [H p0]))

theorem step_any (H : ByteArray → ByteArray) {B : Nat} {w : World} {b : Nat} {v : Value} {code : ByteArray} {inV : Value} {at_ : Nat} {l : List ByteArray} (h : MachV B w b v code inV at_ l) (hB : B ≤ w.heap.size) (hl : l.length ≤ 8) (hall : ∀ x ∈ l, x.size ≤ 512) (hat : at_ ≤ 1000)
    (s : ByteArray) (hs1 : 1 ≤ s.size) (hs2 : s.size ≤ 300) (hok : okL s[0] = true) (hp : s[0] = 112 → 2 ≤ s.size) {ins : List ByteArray} {w0 : World} (hin : StrsAt w0 inV ins) (hw0 : w0.heap.size ≤ B) (hc0 : Chg (fun k => B ≤ k) w0 w) (hT : TabsOK B w)
    (hH : s[0] = 104 → StepH H) :
    Calls Tryz.prog 61 #[.pointer (some ⟨b, 0, none⟩), .string s] w (Stepped B w b code inV (stepRM H ins s[0] (numN s) s at_ l).2.1 ((stepRM H ins s[0] (numN s) s at_ l).1, (stepRM H ins s[0] (numN s) s at_ l).2.2)) := by
  by_cases hi : s[0] = 105 ∧ ins.length ≤ numN s
  · unfold stepRM
    rw [if_pos hi]
    exact step_bad h s hs1 hs2 hi.1 hin hi.2
  by_cases hf : l.length < takeN s[0]
  · have hne : s[0] ≠ 105 := by intro e; rw [e] at hf; exact absurd hf (by show ¬ l.length < 0; omega)
    unfold stepRM
    rw [if_neg hi, if_pos hf]
    exact step_few h s hs1 hs2 hne hf
  have hr : ∀ k, (l.take (l.length - k)).length ≤ 8 := fun k => by simp; omega
  rcases okL_mem _ hok with e | e | e | e | e | e | e | e | e | e | e | e | e | e
  all_goals (unfold stepRM; rw [if_neg hi, if_neg hf]; rw [e] at hf ⊢)
  · have h2 : 2 ≤ l.length := Nat.le_of_not_lt hf
    exact step_c (by rw [show takeN 99 = 2 from rfl, split2 h2]; exact h) hB (hr _) (hall _ (mem1 (by omega) (by decide) h2 0 (by decide))) (hall _ (mem1 (by omega) (by decide) h2 1 (by decide))) hat s hs1 hs2 e
  · have h2 : 1 ≤ l.length := Nat.le_of_not_lt hf
    exact step_d (by rw [show takeN 100 = 1 from rfl, split1 h2]; exact h) hB (hr _) (hall _ (mem1 (by omega) (by decide) h2 0 (by decide))) hat s hs1 hs2 e
  · have h2 : 2 ≤ l.length := Nat.le_of_not_lt hf
    exact step_s (by rw [show takeN 115 = 2 from rfl, split2 h2]; exact h) hB (hr _) (hall _ (mem1 (by omega) (by decide) h2 0 (by decide))) (hall _ (mem1 (by omega) (by decide) h2 1 (by decide))) hat s hs1 hs2 e
  · have h2 : 1 ≤ l.length := Nat.le_of_not_lt hf
    exact step_x (p0 := (l.drop (l.length - 1)).getD 0 .empty) (by rw [show takeN 120 = 1 from rfl, split1 h2]; exact h) hB (hr _) (hall _ (mem1 (by omega) (by decide) h2 0 (by decide))) hat s hs1 hs2 e
  · have h2 : 1 ≤ l.length := Nat.le_of_not_lt hf
    exact step_r (by rw [show takeN 114 = 1 from rfl, split1 h2]; exact h) hB (hr _) (hall _ (mem1 (by omega) (by decide) h2 0 (by decide))) hat s hs1 hs2 e
  · have h2 : 1 ≤ l.length := Nat.le_of_not_lt hf
    exact hH e (by rw [show takeN 104 = 1 from rfl, split1 h2]; exact h) hB (hr _) (hall _ (mem1 (by omega) (by decide) h2 0 (by decide))) hat s hs1 hs2 e hT
  · have h2 : 1 ≤ l.length := Nat.le_of_not_lt hf
    exact step_l (by rw [show takeN 108 = 1 from rfl, split1 h2]; exact h) hB (hr _) (hall _ (mem1 (by omega) (by decide) h2 0 (by decide))) hat s hs1 hs2 e hT.pow _ powG hT.gp
  · have h2 : 2 ≤ l.length := Nat.le_of_not_lt hf
    exact step_eq (by rw [show takeN 61 = 2 from rfl, split2 h2]; exact h) hB (hr _) (hall _ (mem1 (by omega) (by decide) h2 0 (by decide))) (hall _ (mem1 (by omega) (by decide) h2 1 (by decide))) hat s hs1 hs2 e
  · have hn : numN s < ins.length := Nat.lt_of_not_le fun hh => hi ⟨e, hh⟩
    have h3 : l.take (l.length - takeN 105) = l := by rw [show takeN 105 = 0 from rfl]; simp
    have := step_i (r := l) (by rw [List.append_nil]; exact h) hB hl hat s hs1 hs2 e hin hw0 hc0 hn
    have e2 : ∀ a b, putsR H ins 105 (numN s) s a b = [ins[numN s]] := fun a b => by
      show [ins.getD (numN s) .empty] = _
      rw [List.getD_eq_getElem?_getD, List.getElem?_eq_getElem hn]; rfl
    simp only [h3, e2]
    exact this
  · have h2 : 1 ≤ l.length := Nat.le_of_not_lt hf
    exact step_t (by rw [show takeN 116 = 1 from rfl, split1 h2]; exact h) hB (hr _) (hall _ (mem1 (by omega) (by decide) h2 0 (by decide))) hat s hs1 hs2 e
  · have h2 : 1 ≤ l.length := Nat.le_of_not_lt hf
    exact step_k (by rw [show takeN 107 = 1 from rfl, split1 h2]; exact h) hB (hr _) (hall _ (mem1 (by omega) (by decide) h2 0 (by decide))) hat s hs1 hs2 e
  · have h2 : 1 ≤ l.length := Nat.le_of_not_lt hf
    by_cases hz : (l.drop (l.length - 1)).getD 0 .empty = ByteArray.empty
    · have e2 : goesR 106 (numN s) (at_ + s.size) ((l.drop (l.length - takeN 106)).getD 0 .empty) = numN s := by
        show (if (l.drop (l.length - 1)).getD 0 .empty = ByteArray.empty then _ else _) = _
        rw [if_pos hz]
      show Calls _ _ _ _ (Stepped _ _ _ _ _ (goesR 106 (numN s) (at_ + s.size) ((l.drop (l.length - takeN 106)).getD 0 .empty)) _)
      rw [e2]
      exact step_j0 (by rw [show takeN 106 = 1 from rfl, split1 h2]; exact h) hB (hr _) (hall _ (mem1 (by omega) (by decide) h2 0 (by decide))) hat s hs1 hs2 e hz
    · have e2 : goesR 106 (numN s) (at_ + s.size) ((l.drop (l.length - takeN 106)).getD 0 .empty) = at_ + s.size := by
        show (if (l.drop (l.length - 1)).getD 0 .empty = ByteArray.empty then _ else _) = _
        rw [if_neg hz]
      show Calls _ _ _ _ (Stepped _ _ _ _ _ (goesR 106 (numN s) (at_ + s.size) ((l.drop (l.length - takeN 106)).getD 0 .empty)) _)
      rw [e2]
      exact step_j1 (by rw [show takeN 106 = 1 from rfl, split1 h2]; exact h) hB (hr _) (hall _ (mem1 (by omega) (by decide) h2 0 (by decide))) hat s hs1 hs2 e hz
  · have h3 : l.take (l.length - takeN 103) = l := by rw [show takeN 103 = 0 from rfl]; simp
    have := step_g (r := l) (by rw [List.append_nil]; exact h) hB hl hat s hs1 hs2 e
    rw [h3]
    exact this
  · have h3 : l.take (l.length - takeN 112) = l := by rw [show takeN 112 = 0 from rfl]; simp
    have := step_p (r := l) (by rw [List.append_nil]; exact h) hB hl hat s hs1 hs2 e (hp e)
    rw [h3]
    exact this
end Go.Proofs.YthglfmacjoecgaaGreatDoor
namespace Go.Proofs.YthglfmacjoecgaaGreatDoor
open Go.RowKit

/-- What blocks make of a state; what doesn't fill one. -/
def absorb : Nat → (Nat → Int) → ByteArray → (Nat → Int) × ByteArray
  | 0, f, r => (f, r)
  | m + 1, f, r => if r.size < 64 then (f, r) else absorb m (mixR (r.extract 0 64) f) (r.extract 64 r.size)
theorem absorb_end (m : Nat) (f : Nat → Int) (r : ByteArray) (h : r.size < 64) : absorb m f r = (f, r) := by
  cases m with
  | zero => rfl
  | succ m => unfold absorb; rw [if_pos h]
theorem absorb_less (m : Nat) : ∀ (f : Nat → Int) (r : ByteArray), r.size ≤ m → (absorb m f r).2.size < 64 := by
  induction m with
  | zero => intro f r h; unfold absorb; show r.size < 64; omega
  | succ m ih =>
    intro f r h
    unfold absorb
    split
    · assumption
    · exact ih _ _ (by simp; omega)
/-- A text more. -/
def addR (q : (Nat → Int) × ByteArray × Int) (s : ByteArray) : (Nat → Int) × ByteArray × Int :=
  let a := absorb (q.2.1.size + s.size) q.1 (q.2.1 ++ s)
  (a.1, a.2, q.2.2 + s.size)
def addsR (ss : List ByteArray) : (Nat → Int) × ByteArray × Int := ss.foldl addR (iv, .empty, 0)
theorem addsR_take (ss : List ByteArray) (k : Nat) (h : k < ss.length) : addsR (ss.take (k + 1)) = addR (addsR (ss.take k)) ss[k] := by
  unfold addsR
  rw [List.take_succ_eq_append_getElem h, List.foldl_append]
  rfl
theorem addsR_less (ss : List ByteArray) : (addsR ss).2.1.size < 64 := by
  have key : ∀ (ss : List ByteArray) (q : (Nat → Int) × ByteArray × Int), q.2.1.size < 64 → (ss.foldl addR q).2.1.size < 64 := by
    intro ss
    induction ss with
    | nil => intro q h; exact h
    | cons s ss ih => intro q h; exact ih _ (absorb_less _ _ _ (by rw [ByteArray.size_append]; exact Nat.le_refl _))
  exact key ss _ (by decide)
def sumSize (ss : List ByteArray) : Nat := (ss.map ByteArray.size).sum
theorem addsR_n (ss : List ByteArray) : (addsR ss).2.2 = (sumSize ss : Nat) := by
  have key : ∀ (ss : List ByteArray) (q : (Nat → Int) × ByteArray × Int), (ss.foldl addR q).2.2 = q.2.2 + (sumSize ss : Nat) := by
    intro ss
    induction ss with
    | nil => intro q; simp [sumSize]
    | cons s ss ih => intro q; rw [List.foldl_cons, ih]; simp [addR, sumSize]; omega
  rw [show addsR ss = ss.foldl addR (iv, .empty, 0) from rfl, key]
  simp
theorem sumSize_append (a b : List ByteArray) : sumSize (a ++ b) = sumSize a + sumSize b := by unfold sumSize; rw [List.map_append, List.sum_append]
theorem sumSize_take (ss : List ByteArray) (k : Nat) : sumSize (ss.take k) ≤ sumSize ss := by
  have := congrArg sumSize (List.take_append_drop k ss)
  rw [sumSize_append] at this
  omega
theorem sumSize_get (ss : List ByteArray) (k : Nat) (h : k < ss.length) : sumSize (ss.take k) + ss[k].size ≤ sumSize ss := by
  have h1 := sumSize_take ss (k + 1)
  rw [List.take_succ_eq_append_getElem h, sumSize_append] at h1
  have : sumSize [ss[k]] = ss[k].size := by simp [sumSize]
  omega
theorem StAt.setHi {w : World} {b : Nat} {T : TypeId} {cs : Array Value} {f : Nat → Int} (h : StAt w b T cs f) (t : Nat) (ht : 8 ≤ t) (v : Value) : StAt (w.setCell ⟨b, t, none⟩ v) b T (cs.setIfInBounds t v) f := by
  refine ⟨heap_set_same h.heap t _, fun i hi => ?_⟩
  rw [Array.getElem?_setIfInBounds, if_neg (by omega)]
  exact h.word i hi

def restOf (w : World) (b : Nat) : Nat := match w.cell? ⟨b, 8, none⟩ with | some (.string s) => s.size | _ => 0
theorem restOf_eq {w : World} {b : Nat} {s : ByteArray} (h : w.cell? ⟨b, 8, none⟩ = some (.string s)) : restOf w b = s.size := by unfold restOf; rw [h]

theorem words_chg {F : Nat → Prop} {w w' : World} (h : Lib.TabIs Tryz.prog w "apiary/stamp.words" .u32 wordsL) (hc : Chg F w w') (hF : ¬ F gWd) : Lib.TabIs Tryz.prog w' "apiary/stamp.words" .u32 wordsL := by
  unfold Lib.TabIs World.var? at h ⊢
  rw [wdG] at h ⊢
  simp only [Option.bind_some] at h ⊢
  cases hb : w.heap[gWd]? with
  | none => simp [hb] at h
  | some o => rw [hb] at h; rw [hc.obj hb hF]; exact h

set_option maxRecDepth 100000 in
set_option maxHeartbeats 4000000 in
theorem sadd_any (w : World) (b : Nat) (ss : List ByteArray) (g n c : Nat) (hn : n = ss.length) (hl : ss.length ≤ 1000) (hsz : sumSize ss ≤ 140737488355328) (hc : ∀ i (h : i < ss.length), w.cell? ⟨g, i, none⟩ = some (.string ss[i])) (hgb : g ≠ b)
    (hP : PressAt w b iv .empty 0) (hT : Lib.TabIs Tryz.prog w "apiary/stamp.words" .u32 wordsL) (hwb : gWd ≠ b) :
    Calls Tryz.prog 65 #[.pointer (some ⟨b, 0, none⟩), .slice (some ⟨g, 0, none⟩) n c] w
      (fun e w' => e = .returned (.pointer (some ⟨b, 0, none⟩)) ∧ PressAt w' b (addsR ss).1 (addsR ss).2.1 (addsR ss).2.2 ∧ Chg (fun k => k = b) w w') := by
  subst hn
  have HC := hid hc
  have HP := hid hP
  have HT := hid hT
  clear hc hP hT
  go_enter Tryz.func65, Tryz.ntmps65
  go_wp2_with fail
  go_loopw [11] (fun i wr => ∃ k : Nat, k ≤ ss.length ∧ i = .int .i64 k ∧ PressAt wr b (addsR (ss.take k)).1 (addsR (ss.take k)).2.1 (addsR (ss.take k)).2.2 ∧ Chg (fun k => k = b) w wr) (fun i _ => ss.length - (intOf i).toNat)
  case atStart => exact ⟨0, Nat.zero_le _, rfl, HP.out, Chg.refl _ w⟩
  case round =>
    obtain ⟨k, hk, rfl, ⟨cs, hS, h8, h9⟩, hch⟩ := hrel
    by_cases hkn : k < ss.length
    · have hkn' : (k : Int) < ss.length := by omega
      have hkc := hch.cell (p := ⟨g, k, none⟩) (HC.out k hkn) hgb
      have x8 := (cell_of hS.heap 8).trans h8
      have x9 := (cell_of hS.heap 9).trans h9
      have f8 := frozen_of hS.heap 8
      have f9 := frozen_of hS.heap 9
      have hless := addsR_less (ss.take k)
      have hnn := addsR_n (ss.take k)
      have hsg := sumSize_get ss k hkn
      have hcat : ¬ 9223372036854775807 < (addsR (ss.take k)).2.1.size + ss[k].size := by omega
      have hwr : IntKind.i64.wrap ((addsR (ss.take k)).2.2 + (ss[k].size : Int)) = (addsR (ss.take k)).2.2 + (ss[k].size : Int) := IntWalk.i64_in _ (by omega)
      have HNX := hid (addsR_take ss k hkn)
      generalize addsR (ss.take k) = q at hS h8 h9 x8 x9 hless hnn hcat hwr HNX
      have HS := hid hS
      have H89 := hid (And.intro h8 h9)
      have HCH := hid hch
      clear hS h8 h9 hch hnn
      go_wp2_with fail
      refine wp_gen (fun W => PressAt W b q.1 (q.2.1 ++ ss[k]) (q.2.2 + (ss[k].size : Int)) ∧ Chg (fun k => k = b) w W) ⟨⟨_, (HS.out.setHi 9 (by decide) _).setHi 8 (by decide) _, ?_, ?_⟩, (HCH.out.setCell (p := ⟨b, 9, none⟩) (fun _ => rfl) _).setCell (p := ⟨b, 8, none⟩) (fun _ => rfl) _⟩ ?_
      · have h8s := (Array.getElem?_eq_some_iff.1 H89.out.1).1
        rw [Array.getElem?_setIfInBounds, if_pos rfl, if_pos (by rw [Array.size_setIfInBounds]; exact h8s)]
      · have h9s := (Array.getElem?_eq_some_iff.1 H89.out.2).1
        rw [Array.getElem?_setIfInBounds, if_neg (by decide), Array.getElem?_setIfInBounds, if_pos rfl, if_pos h9s]
      clear HS H89 HCH x8 x9 f8 f9
      rintro wo ⟨hPo, hco⟩
      have HPO := hid hPo
      have HCO := hid hco
      clear hPo hco
      obtain ⟨A, hA⟩ : ∃ A, A = absorb (q.2.1.size + ss[k].size) q.1 (q.2.1 ++ ss[k]) := ⟨_, rfl⟩
      have HA := hid hA
      clear hA
      obtain ⟨n', hn'⟩ : ∃ n', n' = q.2.2 + (ss[k].size : Int) := ⟨_, rfl⟩
      rw [← hn'] at HPO
      have HN' := hid hn'
      clear hn' hwr
      go_loopw [46] (fun _ wr => ∃ m f r, r.size ≤ m ∧ r.size ≤ 140737488355328 + 64 ∧ absorb m f r = A ∧ PressAt wr b f r n' ∧ Chg (fun k => k = b) wo wr) (fun _ wr => restOf wr b)
      case atStart => exact ⟨_, _, _, by rw [ByteArray.size_append]; exact Nat.le_refl _, by rw [ByteArray.size_append]; omega, HA.out.symm, HPO.out, Chg.refl _ _⟩
      case round =>
        obtain ⟨m, f, r, hm, hrb, hab, ⟨cs', hS', h8', h9'⟩, hch'⟩ := hrel
        have x8 := (cell_of hS'.heap 8).trans h8'
        have f8 := frozen_of hS'.heap 8
        by_cases h64 : r.size < 64
        · have h64' : ¬ (64 : Int) ≤ (r.size : Int) := by omega
          have h64'' : (r.size : Int) < 64 := by omega
          have HS := hid hS'
          have H89 := hid (And.intro h8' h9')
          have HCH := hid hch'
          have HAB := hid hab
          clear hS' h8' h9' hch' hab
          go_wp2_with fail
          go_roundw
          case rel =>
            rw [absorb_end m f r h64] at HAB
            refine ⟨k + 1, by omega, by go_num, ?_, HCO.out.trans HCH.out (fun _ _ h => h)⟩
            have hN : addsR (ss.take (k + 1)) = (f, r, n') := by
              rw [HNX.out, HN'.out]
              show ((absorb (q.2.1.size + ss[k].size) q.1 (q.2.1 ++ ss[k])).1, (absorb (q.2.1.size + ss[k].size) q.1 (q.2.1 ++ ss[k])).2, q.2.2 + (ss[k].size : Int)) = _
              rw [← HA.out, ← HAB.out]
            rw [hN]
            exact ⟨cs', HS.out, H89.out.1, H89.out.2⟩
          case measure => simp [intOf]; omega
        · have h64' : (64 : Int) ≤ (r.size : Int) := by omega
          have hT' : Lib.TabIs Tryz.prog wr.drew "apiary/stamp.words" .u32 wordsL := by
            have hc1 : Chg (fun k => k = b) w wr.drew := (HCO.out.trans hch' (fun _ _ h => h)).drew
            exact words_chg HT.out hc1 hwb
          have hmix := mix_any (r.extract 0 64) (by simp; omega) wr.drew b 181 cs' f hS'.drew hT' hwb
          have hro := restOf_eq x8
          have HRO := hid hro
          have HS := hid hS'
          have H89 := hid (And.intro h8' h9')
          have HCH := hid hch'
          have HAB := hid hab
          clear hS' h8' h9' hch' hab hro
          go_wp2_with fail
          refine wp_region_still_tail 8 (by kernel_rfl) (by kernel_rfl) ?_
          simp only [List.take_succ_cons, List.take_zero, List.drop_succ_cons, List.drop_zero]
          repeat still_step
          refine wpStill_nil ?_
          change wpList _ _ _ _ _ wr.drew
          go_wp2_with (go_at_call 105; refine hmix.mono ?_; rintro e w5 ⟨rfl, cs5, hS5, hs5, hr5, hc5⟩; have y8 := (cell_of hS5.heap 8).trans ((hr5 8 (Nat.le_refl _)).trans H89.out.1); have z8 := frozen_of hS5.heap 8)
          have h8s := (Array.getElem?_eq_some_iff.1 ((hr5 8 (Nat.le_refl _)).trans H89.out.1)).1
          have h9n : (cs5.setIfInBounds 8 (.string (r.extract 64 r.size)))[9]? = some (.int .i64 n') := by
            rw [Array.getElem?_setIfInBounds, if_neg (by decide)]; exact (hr5 9 (by decide)).trans H89.out.2
          have h8n : (cs5.setIfInBounds 8 (.string (r.extract 64 r.size)))[8]? = some (.string (r.extract 64 r.size)) := by
            rw [Array.getElem?_setIfInBounds, if_pos rfl, if_pos h8s]
          have hS6 := hS5.setHi 8 (Nat.le_refl _) (.string (r.extract 64 r.size))
          have hr6 := restOf_eq ((cell_of hS6.heap 8).trans h8n)
          go_roundw
          case rel =>
            obtain ⟨m', rfl⟩ : ∃ m', m = m' + 1 := ⟨m - 1, by omega⟩
            refine ⟨m', mixR (r.extract 0 64) f, r.extract 64 r.size, by simp; omega, by simp; omega, ?_, ⟨_, hS6, h8n, h9n⟩, (HCH.out.drew.trans hc5 (fun _ _ h => h)).setCell (p := ⟨b, 8, none⟩) (fun _ => rfl) _⟩
            rw [← HAB.out]
            conv => rhs; unfold absorb
            rw [if_neg h64]
          case measure =>
            rw [hr6, HRO.out]
            simp
            omega
    · obtain rfl : k = ss.length := by omega
      go_wp2_with fail
      go_ret
      rw [List.take_length] at hS h8 h9
      exact ⟨rfl, ⟨cs, hS, h8, h9⟩, hch⟩
end Go.Proofs.YthglfmacjoecgaaGreatDoor
