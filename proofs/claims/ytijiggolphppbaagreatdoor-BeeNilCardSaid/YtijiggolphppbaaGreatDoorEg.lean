/- Contracts of the functions that are not run. -/
import Derived.Test.YtijiggolphppbaaGreatDoorEe
import Derived.Test.YtijiggolphppbaaGreatDoorEf
import Derived.Test.YtijiggolphppbaaGreatDoorShelf
import Derived.Laws.StandIn
import Derived.Lib.Bytealg
import Derived.Test.YtijiggolphppbaaGreatDoorIter
import Derived.Maps.OwnSet
import Derived.WideKeyElems
namespace Go.Proofs.YtijiggolphppbaaGreatDoor
open Go.RowKit Go.Proofs.YtijiggolphppbaaGreatDoor.Ev
theorem Chg.kept {w w' : World} (h : Chg (fun _ => False) w w') : Kept w w' := ⟨h.os, h.tape, h.output, h.size, fun b hb => h.block b hb (fun h => h)⟩
theorem below_kept {w w' : World} (h : Below w.heap.size w w') : Kept w w' := ⟨h.os, h.tape, h.output, h.size, fun b hb => h.block b hb⟩
theorem VRs.arr1 {c : Cx} {a : AV} {ar : Array Value} (h : VRs c [a] ar.toList) : ∃ v, ar = #[v] ∧ VR c a v := by
  obtain ⟨v, h1, h2⟩ := VRs.inv1 h
  exact ⟨v, by rw [← Array.toArray_toList (xs := ar), h1], h2⟩
theorem VRs.arr2 {c : Cx} {a b : AV} {ar : Array Value} (h : VRs c [a, b] ar.toList) : ∃ v u, ar = #[v, u] ∧ VR c a v ∧ VR c b u := by
  obtain ⟨v, u, h1, h2⟩ := VRs.inv2 h
  exact ⟨v, u, by rw [← Array.toArray_toList (xs := ar), h1], h2⟩
/-- What the world behind must hold. -/
def Words (w : World) : Prop := Lib.TabIs Tryz.prog w "apiary/stamp.words" .u32 wordsL ∧ gWd < w.heap.size
theorem Words.sim {c : Cx} {σ : St} {w : World} (h : Words c.W) (hs : Sim c σ w) : Words w := by
  obtain ⟨h1, h2⟩ := h
  have hb := hs.base
  refine ⟨?_, by omega⟩
  unfold Lib.TabIs World.var? at h1 ⊢
  rw [wdG] at h1 ⊢
  simp only [Option.bind_some] at h1 ⊢
  rw [hb.2 gWd h2]
  exact h1
/- abi.NoEscape -/
def kNoEsc (args : List AV) (σ : St) : Option (AV × St) := match args with
  | [a] => some (a, σ)
  | _ => none
theorem noEsc_ok {args : List AV} {σ σ' : St} {v : AV} (h : kNoEsc args σ = some (v, σ')) : CallOut Tryz.prog Words 300 args σ v σ' := by
  match args, h with
  | [a], h =>
    simp only [kNoEsc, Option.some.injEq, Prod.mk.injEq] at h
    obtain ⟨rfl, rfl⟩ := h
    intro c w ar hJ hv hs
    obtain ⟨x, rfl, hx⟩ := VRs.arr1 hv
    refine .inl ⟨x, w, c, ?_, Post.refl hs, hx⟩
    rw [run_callFunc_extern Tryz.func300 (by kernel_rfl) (by kernel_rfl) (by kernel_rfl) (e := Extern.AbiNoEscape.same) (by kernel_rfl)]
    rfl
/- bytealg.IndexByteString -/
def idxN (b : Nat) : Nat → List Nat → Int
  | _, [] => -1
  | i, x :: l => bif Nat.beq x b then (i : Int) else idxN b (i + 1) l
def kByte (args : List AV) (σ : St) : Option (AV × St) := match args with
  | [.str s, .int .u8 (.ofNat b)] => bif Nat.blt b 256 then some (.int .i64 (idxN b 0 s), σ) else none
  | _ => none
theorem idxN_ok {b : Nat} (hb : b < 256) : ∀ (l : List Nat) (i : Nat), (∀ x ∈ l, x < 256) → idxN b i l = if Lib.indexByte (l.map UInt8.ofNat) (UInt8.ofNat b) = -1 then -1 else Lib.indexByte (l.map UInt8.ofNat) (UInt8.ofNat b) + i
  | [], i, _ => by simp [idxN, Lib.indexByte]
  | x :: l, i, h => by
    have hx := h x (by simp)
    have ih := idxN_ok hb l (i + 1) (fun y hy => h y (by simp [hy]))
    have hge := Lib.indexByte_ge (l.map UInt8.ofNat) (UInt8.ofNat b)
    have hxb : (UInt8.ofNat x == UInt8.ofNat b) = Nat.beq x b := by
      rw [Bool.eq_iff_iff]
      simp only [beq_iff_eq, Nat.beq_eq]
      constructor
      · intro e
        have := congrArg UInt8.toNat e
        simp only [UInt8.toNat_ofNat'] at this
        rw [Nat.mod_eq_of_lt (by simpa using hx), Nat.mod_eq_of_lt (by simpa using hb)] at this
        exact this
      · rintro rfl; rfl
    unfold idxN
    rw [List.map_cons]
    unfold Lib.indexByte
    rw [hxb]
    cases hq : Nat.beq x b with
    | true => simp
    | false =>
      simp only [cond_false, Bool.false_eq_true, if_false, beq_iff_eq]
      rw [ih]
      by_cases h1 : Lib.indexByte (l.map UInt8.ofNat) (UInt8.ofNat b) = -1
      · simp [h1]
      · rw [if_neg h1, if_neg h1, if_neg (by omega)]
        omega
theorem byte_ok {args : List AV} {σ σ' : St} {v : AV} (h : kByte args σ = some (v, σ')) : CallOut Tryz.prog Words 414 args σ v σ' := by
  unfold kByte at h
  split at h
  case h_2 => cases h
  case h_1 s b =>
    simp only [bif_eq, blt_eq, Option.some.injEq, Prod.mk.injEq] at h
    obtain ⟨hb, rfl, rfl⟩ := h
    intro c w ar hJ hv hs
    obtain ⟨x, y, rfl, hx, hy⟩ := VRs.arr2 hv
    cases hx with
    | str s hs2 =>
      cases hy with
      | int k n =>
        refine .inl ⟨.int .i64 (idxN b 0 s), w, c, ?_, Post.refl hs, .int _ _⟩
        rw [run_callFunc_extern Tryz.func414 (by kernel_rfl) (by kernel_rfl) (by kernel_rfl) (e := Extern.BytealgIndexByte.indexByte) (by kernel_rfl), Lib.run_indexByteString]
        simp only [Result.andThen_ok]
        congr 3
        rw [idxN_ok hb s 0 hs2]
        have e : (bsN s).data.toList = s.map UInt8.ofNat := by rw [bsN_data]
        rw [e]
        have hge := Lib.indexByte_ge (s.map UInt8.ofNat) (UInt8.ofNat b)
        show Lib.indexByte (s.map UInt8.ofNat) (UInt8.ofNat b) = _
        by_cases h1 : Lib.indexByte (s.map UInt8.ofNat) (UInt8.ofNat b) = -1
        · rw [if_pos h1, h1]
        · rw [if_neg h1]; simp
/- strings.Join -/
def inter (sep : List Nat) : List (List Nat) → List Nat
  | [] => []
  | [a] => a
  | a :: b :: l => a ++ sep ++ inter sep (b :: l)
def kJoin (args : List AV) (σ : St) : Option (AV × St) := match args with
  | [.sl (some (n, i)) len _, .str sep] => bnd (loadN σ (n, i) len) fun l => bnd (strsO l) fun ss => bif Nat.beq i 0 && Nat.ble 1 len && Nat.ble (inter sep ss).length 1000000 then some (.str (inter sep ss), σ) else none
  | _ => none
theorem inter_ok (sep : List Nat) : ∀ ss : List (List Nat), Lib.join (ss.map (List.map UInt8.ofNat)) (sep.map UInt8.ofNat) = (inter sep ss).map UInt8.ofNat
  | [] => rfl
  | [a] => Lib.join_one _ _
  | a :: b :: l => by
    have ih := inter_ok sep (b :: l)
    unfold inter
    rw [List.map_append, List.map_append, ← ih]
    simp [Lib.join, List.intercalate]
theorem inter_lt {sep : List Nat} (hsep : ∀ b ∈ sep, b < 256) : ∀ {ss : List (List Nat)}, (∀ s ∈ ss, ∀ b ∈ s, b < 256) → ∀ b ∈ inter sep ss, b < 256
  | [], _, b, hb => by cases hb
  | [a], h, b, hb => h a (by simp) b hb
  | a :: c :: l, h, b, hb => by
    unfold inter at hb
    rw [List.mem_append, List.mem_append] at hb
    rcases hb with (hb | hb) | hb
    · exact h a (by simp) b hb
    · exact hsep b hb
    · exact inter_lt hsep (fun s hs => h s (List.mem_cons_of_mem _ hs)) b hb
theorem join_len (sep : List Nat) : ∀ ss : List (List Nat), 1 ≤ ss.length → ss.length ≤ (inter sep ss).length + 1 + ss.length := fun ss _ => by omega
theorem join_ok {args : List AV} {σ σ' : St} {v : AV} (h : kJoin args σ = some (v, σ')) : CallOut Tryz.prog Words 369 args σ v σ' := by
  unfold kJoin at h
  split at h
  case h_2 => cases h
  case h_1 n i len es sep =>
    simp only [bnd_eq, bif_eq, Bool.and_eq_true, beq_eq, ble_eq, Option.some.injEq, Prod.mk.injEq] at h
    obtain ⟨l, hl, ss, hss, ⟨⟨hi, h1⟩, h2⟩, rfl, rfl⟩ := h
    intro c w ar hJ hv hs
    obtain ⟨x, y, rfl, hx, hy⟩ := VRs.arr2 hv
    obtain ⟨b, cap, rfl, q1, q2, q3, q4, q5⟩ := hs.texts hx hi h1 hl hss
    cases hy with
    | str sep hsep =>
      refine .inr ⟨enters_of Tryz.func369 (by kernel_rfl) rfl _ w, ?_⟩
      have hm : (ss.map bsN).map (·.data.toList) = ss.map (List.map UInt8.ofNat) := by
        rw [List.map_map]
        exact List.map_congr_left (fun s _ => by show (bsN s).data.toList = _; rw [bsN_data])
      have hj : Lib.join ((ss.map bsN).map (·.data.toList)) (bsN sep).data.toList = (inter sep ss).map UInt8.ofNat := by
        rw [hm, bsN_data, inter_ok]
      have hN : ss.length ≤ 140737488355328 := by
        have hk : ∃ k t ty, σ.heap.get n = some (.cells k t ty) ∧ k ≤ MX ∧ len ≤ k := by
          unfold loadN at hl
          cases hg : σ.heap.get n with
          | none => simp [hg] at hl
          | some o =>
            simp only [hg] at hl
            cases o with
            | cells k t ty =>
              obtain ⟨hD⟩ : Nonempty (c.D n) := by
                cases hx with
                | sl n i len es cap off hD hc ho hb => exact ⟨hD⟩
              obtain ⟨cs, lo, hi2, g1, g2, gk, g3, g4, g5⟩ := hs.cells _ _ _ _ hD hg
              refine ⟨k, t, ty, rfl, gk, ?_⟩
              obtain ⟨r1, r2⟩ := readN_some hl
              obtain ⟨a, ha⟩ : ∃ a, l[len - 1]? = some a := ⟨l[len - 1]'(by omega), List.getElem?_eq_getElem (by omega)⟩
              have := r2 (len - 1) (by omega)
              rw [ha] at this
              have := (g5 _ _ this).1
              omega
            | map m => cases hl
            | dead => cases hl
        obtain ⟨k, t, ty, _, h3, h4⟩ := hk
        have : MX = 16000000 := rfl
        omega
      have hJn := Tryz.strings_Join b 0 cap (ss.map bsN) (bsN sep) w (fun j x hx => by
        rw [List.getElem?_map] at hx
        obtain ⟨y, hy, rfl⟩ := Option.map_eq_some_iff.1 hx
        rw [Nat.zero_add]
        exact q4 j y hy) q2 (by rw [List.length_map]; exact hN) (by rw [List.length_map, q3]; exact q1) (by rw [hj, List.length_map]; omega)
      rw [hj, List.length_map, q3] at hJn
      refine hJn.mono ?_
      rintro e w' ⟨rfl, hb⟩
      exact ⟨_, c, rfl, Post.kept hs (below_kept hb), .str _ (inter_lt hsep q5)⟩
/- stamp.Of -/
def sumN : List (List Nat) → Nat
  | [] => 0
  | s :: ss => s.length + sumN ss
def kOf (args : List AV) (σ : St) : Option (AV × St) := match args with
  | [.sl (some (n, i)) len _] => bnd (loadN σ (n, i) len) fun l => bnd (strsO l) fun ss => bif Nat.beq i 0 && Nat.ble 1 len && Nat.ble len 1000 && Nat.ble (sumN ss) 1000000 then some (.agg ((digN ss).map fun b : Nat => AV.int .u8 (b : Int)), σ) else none
  | _ => none
theorem sumN_ok : ∀ ss : List (List Nat), sumSize (ss.map bsN) = sumN ss
  | [] => rfl
  | s :: ss => by
    have := sumN_ok ss
    unfold sumSize at this ⊢
    unfold sumN
    simp only [List.map_cons, List.sum_cons, bsN_size]
    omega
theorem addsN_n : ∀ (ss : List (List Nat)) (p : List Nat × List Nat × Nat), (addsN p ss).2.2 = p.2.2 + sumN ss
  | [], p => rfl
  | s :: ss, p => by
    show (addsN (addN p s) ss).2.2 = _
    rw [addsN_n ss]
    show p.2.2 + s.length + sumN ss = p.2.2 + (s.length + sumN ss)
    omega
theorem bytes_ok (c : Cx) : ∀ l : List Nat, VRs c (l.map fun b : Nat => AV.int .u8 (b : Int)) (l.map fun b : Nat => Value.int .u8 (b : Int))
  | [] => .nil
  | _ :: l => .cons (.int _ _) (bytes_ok c l)
theorem of_ok {args : List AV} {σ σ' : St} {v : AV} (h : kOf args σ = some (v, σ')) : CallOut Tryz.prog Words 59 args σ v σ' := by
  unfold kOf at h
  split at h
  case h_2 => cases h
  case h_1 n i len es =>
    simp only [bnd_eq, bif_eq, Bool.and_eq_true, beq_eq, ble_eq, Option.some.injEq, Prod.mk.injEq] at h
    obtain ⟨l, hl, ss, hss, ⟨⟨⟨hi, h1⟩, h2⟩, h3⟩, rfl, rfl⟩ := h
    intro c w ar hJ hv hs
    obtain ⟨x, rfl, hx⟩ := VRs.arr1 hv
    obtain ⟨b, cap, rfl, q1, q2, q3, q4, q5⟩ := hs.texts hx hi h1 hl hss
    refine .inr ⟨enters_of Tryz.func59 (by kernel_rfl) rfl _ w, ?_⟩
    obtain ⟨hT, hW⟩ := Words.sim hJ hs
    have hO := of_any w (ss.map bsN) b len cap (by rw [List.length_map, q3]) (by rw [List.length_map, q3]; exact h2) (by rw [sumN_ok]; omega) (fun j hj => by
      rw [List.length_map] at hj
      rw [List.getElem_map]
      exact q4 j _ (List.getElem?_eq_getElem hj)) q2 hT hW
    refine hO.mono ?_
    rintro e w' ⟨rfl, hc⟩
    refine ⟨_, c, rfl, Post.kept hs hc.kept, ?_⟩
    rw [dig_ok (fun s hs => q5 s hs) (by rw [addsN_n]; show 0 + sumN ss < _; omega)]
    exact .agg (bytes_ok c _)
end Go.Proofs.YtijiggolphppbaaGreatDoor
namespace Go.Proofs.YtijiggolphppbaaGreatDoor
open Go.RowKit Go.Proofs.YtijiggolphppbaaGreatDoor.Ev Go.Maps Go.Sort Go.Shelf
def keysO : List (AV × AV) → Option (List Int)
  | [] => some []
  | (.int .i64 n, _) :: l => bif decide (-9223372036854775808 ≤ n) && decide (n ≤ 9223372036854775807) then bnd (keysO l) fun r => some (n :: r) else none
  | _ :: _ => none
def insI (n : Int) : List Int → List Int
  | [] => [n]
  | m :: l => bif decide (n ≤ m) then n :: m :: l else m :: insI n l
def sortI : List Int → List Int
  | [] => []
  | n :: l => insI n (sortI l)
def kSort (args : List AV) (σ : St) : Option (AV × St) := match args with
  | [.fn (.func f) [] [.ptr (some (b, i))]] => bif (Nat.beq f 291 || Nat.beq f 357 || Nat.beq f 360) && Nat.beq i 0 then (match loadN σ (b, i) 1 with
      | some [.mp (some r)] => bnd (getMap σ r) fun l => bnd (keysO l) fun ks => bif Nat.ble ks.length 1000 then (match ks with
          | [] => some (.sl none 0 0, σ)
          | _ => bnd (newF σ (.row ((sortI ks).map fun n => AV.int .i64 n) 3)) fun p => some (.sl (some (p.1, 0)) ks.length 1, p.2)) else none
      | _ => none) else none
  | _ => none
theorem insI_perm (n : Int) : ∀ l : List Int, (insI n l).Perm (n :: l)
  | [] => .refl _
  | m :: l => by
    unfold insI
    cases decide (n ≤ m) with
    | true => exact .refl _
    | false => exact (List.Perm.cons m (insI_perm n l)).trans (List.Perm.swap n m l)
theorem sortI_perm : ∀ l : List Int, (sortI l).Perm l
  | [] => .refl _
  | n :: l => (insI_perm n (sortI l)).trans (List.Perm.cons n (sortI_perm l))
theorem insI_rise (n : Int) : ∀ l : List Int, l.Pairwise (fun a b => leI a b = true) → (insI n l).Pairwise (fun a b => leI a b = true)
  | [], _ => by simp [insI]
  | m :: l, h => by
    have h2 := List.pairwise_cons.1 h
    unfold insI
    by_cases e : n ≤ m
    · rw [show decide (n ≤ m) = true by simp [e]]
      refine List.pairwise_cons.2 ⟨fun a ha => ?_, h⟩
      rcases List.mem_cons.1 ha with rfl | ha
      · simpa using e
      · have := h2.1 a ha
        simp only [decide_eq_true_eq] at this ⊢
        omega
    · rw [show decide (n ≤ m) = false by simp [e]]
      refine List.pairwise_cons.2 ⟨fun a ha => ?_, insI_rise n l h2.2⟩
      rcases List.mem_cons.1 ((insI_perm n l).mem_iff.1 ha) with rfl | ha
      · simp only [decide_eq_true_eq]; omega
      · exact h2.1 a ha
theorem sortI_rise : ∀ l : List Int, (sortI l).Pairwise (fun a b => leI a b = true)
  | [] => .nil
  | n :: l => insI_rise n _ (sortI_rise l)
theorem sort_eq {ss K : List Int} (h : ss.Perm K) : ss.mergeSort (fun x y => decide (x ≤ y)) = sortI K := by
  have tr : ∀ a b c : Int, leI a b = true → leI b c = true → leI a c = true := fun a b c h1 h2 => by simp only [leI, decide_eq_true_eq] at *; exact Int.le_trans h1 h2
  have to : ∀ a b : Int, (leI a b || leI b a) = true := fun a b => by simp only [leI, Bool.or_eq_true, decide_eq_true_eq]; exact Int.le_total a b
  refine List.Perm.eq_of_pairwise (le := fun a b => leI a b = true) (fun a b _ _ h1 h2 => ?_) (List.pairwise_mergeSort tr to ss) (sortI_rise K) (((List.mergeSort_perm ss leI).trans h).trans (sortI_perm K).symm)
  simp only [leI, decide_eq_true_eq] at h1 h2
  exact Int.le_antisymm h1 h2
abbrev RT : Value → Option (DataW Unit × List MemPlace) := fun _ => some (.lit (.bool true), [])
theorem keysO_ok {c : Cx} : ∀ {l : List (AV × AV)} {es : List MapEntry} {ks : List Int}, ER c l es → keysO l = some ks → es.map (·.key) = ks.map encZ ∧ ∀ x ∈ es, ∃ n, x.key = encZ n ∧ WideElems.rd Tryz.prog 3 RT x = some (.int .i64 n, .lit (.bool true))
  | [], _, ks, h, e => by
    cases h
    simp only [keysO, Option.some.injEq] at e
    subst e
    exact ⟨rfl, fun x hx => by cases hx⟩
  | (k, v) :: l, _, ks, h, e => by
    cases h with
    | @cons _ _ x _ _ hk hv t =>
      unfold keysO at e
      split at e
      · rename_i q; cases q
      · rename_i n _ l2 q
        simp only [List.cons.injEq, Prod.mk.injEq] at q
        obtain ⟨⟨rfl, rfl⟩, rfl⟩ := q
        simp only [bif_eq, bnd_eq, Bool.and_eq_true, decide_eq_true_eq] at e
        obtain ⟨⟨hlo, hhi⟩, r, hr, e⟩ := e
        simp only [Option.some.injEq] at e
        subst e
        obtain ⟨h1, h2⟩ := keysO_ok t hr
        have hkey : x.key = encZ n := by
          generalize x.key = y at hk
          cases hk; rfl
        refine ⟨by rw [List.map_cons, List.map_cons, h1, hkey], fun y hy => ?_⟩
        rcases List.mem_cons.1 hy with rfl | hy
        · refine ⟨n, hkey, ?_⟩
          obtain ⟨key, val, born⟩ := y
          simp only at hkey
          subst hkey
          have hkk : keyOf Tryz.prog 3 (encZ n) = some (.int .i64 n) := by
            simp only [keyOf, mapKey, Tryz.underlying3, encZ]
            rw [if_pos (by simp [Lit.wf, IntKind.min, IntKind.max, IntKind.bits, IntKind.signed]; omega)]
          exact WideElems.rd_mk hkk (yv := (.lit (.bool true), [])) rfl
        · exact h2 y hy
      · cases e
theorem owns_int {c : Cx} {w : World} {r : Nat} {l : List (AV × AV)} {es : Array MapEntry} {clock : Nat} {ks : List Int} (h1 : w.heap[r]? = some (.map es clock)) (h2 : ER c l es.toList) (h3 : MapKept.Stamped es clock) (hk : keysO l = some ks) (hn : ks.length ≤ 1000) :
    ∃ D : DataW Unit, w.ownsMap Tryz.prog 3 RT r ks.length D ∧ (intKeys D).Perm ks ∧ Maps.size D = ks.length := by
  obtain ⟨q1, q2⟩ := keysO_ok h2 hk
  have hlen : es.size = ks.length := by have := congrArg List.length q1; simpa using this
  refine ⟨_, ⟨es, clock, h1, ⟨by rw [hlen]; unfold maxLen; omega, h3, fun x hx => by obtain ⟨n, _, h⟩ := q2 x hx; exact ⟨_, h⟩⟩, by omega, rfl⟩, ?_, ?_⟩
  · have hp := Go.WideShapes.sorted_perm (es.toList.map (WideElems.rg Tryz.prog 3 RT))
    have hp2 := hp.map (fun p : Lit × DataW Unit => Go.intOf p.1)
    refine List.Perm.trans hp2 ?_
    rw [List.map_map]
    have e1 : es.toList.map ((fun p : Lit × DataW Unit => Go.intOf p.1) ∘ WideElems.rg Tryz.prog 3 RT) = (es.toList.map (·.key)).map (fun v : Value => match v with | .int _ n => n | _ => 0) := by
      rw [List.map_map]
      refine List.map_congr_left (fun x hx => ?_)
      obtain ⟨n, e1, e2⟩ := q2 x hx
      simp only [Function.comp, WideElems.rg_of e2, e1]
      rfl
    rw [e1, q1, List.map_map]
    have e3 : ks.map ((fun v : Value => match v with | .int _ n => n | _ => 0) ∘ encZ) = ks.map id := List.map_congr_left (fun s _ => rfl)
    rw [e3, List.map_id]
  · show ((es.toList.map (WideElems.rg Tryz.prog 3 RT)).foldr DataW.insert []).length = _
    rw [length_sorted]
    simpa using hlen
theorem sorts_any (m : Nat) : AnyZI.SortsIn Tryz.prog Tryz.sorted210_ren Fence.wide m :=
  ⟨fun blk off cap ss W hH hblk hsz => callsIn_wide.2 (AnyM.slices_Sort_int Tryz.sort290 blk off cap ss W hH hblk hsz),
   fun p cap W => callsIn_wide.2 (AnyM.slices_Sort_int_none Tryz.sort290 p cap W)⟩
abbrev Gives (f : Nat) : Prop := ∀ (w : World) (Bm r : Nat) (n : Nat) (D : DataW Unit), Bm < w.heap.size → w.cell? ⟨Bm, 0, none⟩ = some (.map (some r)) → w.ownsMap Tryz.prog 3 RT r n D → SeqGives Fence.wide 2 Tryz.prog f #[.pointer (some ⟨Bm, 0, none⟩)] encZ (fun ss => ss.Perm (intKeys D)) (Maps.size D) w
theorem gives291 : Gives 291 := fun w Bm r n D hBm hc hown => AnyZI.keys_gives (ρ := Tryz.keys211_ren) { Tryz.keys211 with } Fence.wide _ trivial rfl (by omega) Bm r n D w hBm hc hown
theorem gives357 : Gives 357 := fun w Bm r n D hBm hc hown => AnyZI.keys_gives (ρ := Tryz.keys317_ren) { Tryz.keys317 with } Fence.wide _ trivial rfl (by omega) Bm r n D w hBm hc hown
theorem gives360 : Gives 360 := fun w Bm r n D hBm hc hown => AnyZI.keys_gives (ρ := Tryz.keys325_ren) { Tryz.keys325 with } Fence.wide _ trivial rfl (by omega) Bm r n D w hBm hc hown
set_option maxHeartbeats 1000000 in
theorem sorted_any {f : Nat} (hG : Gives f) (eg : ∀ args w, (callFunc f args).run Tryz.prog w = .ok (.enter f args) w) (w : World) (Bm r : Nat) (ks : List Int) {D : DataW Unit} (hBm : Bm < w.heap.size) (hc : w.cell? ⟨Bm, 0, none⟩ = some (.map (some r))) (hown : w.ownsMap Tryz.prog 3 RT r ks.length D) (hD : (intKeys D).Perm ks) (hsz : Maps.size D = ks.length) (hn : ks.length ≤ 1000) :
    Calls Tryz.prog 210 #[.func (.func f) #[] #[.pointer (some ⟨Bm, 0, none⟩)]] w fun e w' => ∃ v, e = .returned v ∧ w'.ownsRow w.heap.size 3 1 v ks.length ((sortI ks).map encZ) ∧ (v = .slice none 0 0 ↔ ks = []) ∧ Below w.heap.size w w' := by
  have hs := AnyZI.sorted_in Tryz.sorted210 Fence.wide 5 trivial trivial trivial trivial rfl (by omega) (sorts_any _) (enters_of Tryz.func290 (by kernel_rfl) rfl) f #[.pointer (some ⟨Bm, 0, none⟩)] trivial eg _ _ (by rw [hsz]; unfold maxLen; omega) (by rw [hsz]; omega) _ (hG w Bm r ks.length D hBm hc hown)
  refine (callsIn_wide.1 hs).mono ?_
  rintro e w' ⟨v, ss, rfl, hS, hrow, hnil, hb⟩
  have hp : ss.Perm ks := hS.trans hD
  have hl := hp.length_eq
  rw [sort_eq hp, hl] at hrow
  exact ⟨v, rfl, hrow, hnil.trans ⟨fun e => by subst e; exact List.eq_nil_of_length_eq_zero (by simpa using hl.symm), fun e => by subst e; exact List.eq_nil_of_length_eq_zero (by simpa using hl)⟩, hb⟩
theorem gives_of {f : Nat} (h : (Nat.beq f 291 || Nat.beq f 357 || Nat.beq f 360) = true) : Gives f ∧ ∀ args w, (callFunc f args).run Tryz.prog w = .ok (.enter f args) w := by
  simp only [Bool.or_eq_true, beq_eq] at h
  rcases h with (rfl | rfl) | rfl
  · exact ⟨gives291, enters_of Tryz.func291 (by kernel_rfl) rfl⟩
  · exact ⟨gives357, enters_of Tryz.func357 (by kernel_rfl) rfl⟩
  · exact ⟨gives360, enters_of Tryz.func360 (by kernel_rfl) rfl⟩
theorem ints_ok (c : Cx) : ∀ l : List Int, VRs c (l.map fun n => AV.int .i64 n) (l.map encZ)
  | [] => .nil
  | _ :: l => .cons (.int _ _) (ints_ok c l)
theorem sort_ok {args : List AV} {σ σ' : St} {v : AV} (h : kSort args σ = some (v, σ')) : CallOut Tryz.prog Words 210 args σ v σ' := by
  unfold kSort at h
  split at h
  case h_2 => cases h
  case h_1 f b i =>
    simp only [bif_eq, Bool.and_eq_true, beq_eq] at h
    obtain ⟨⟨hf3, rfl⟩, h⟩ := h
    obtain ⟨hG, eg⟩ := gives_of hf3
    split at h
    case h_2 => cases h
    case h_1 r hl =>
      simp only [bnd_eq, bif_eq, ble_eq] at h
      obtain ⟨l, hm, ks, hks, hn, h⟩ := h
      intro c w ar hJ hv hs
      obtain ⟨x, rfl, hx⟩ := VRs.arr1 hv
      cases hx with
      | @fn _ _ _ a' b' ha hb =>
        cases ha
        obtain ⟨y, rfl, hy⟩ := VRs.inv1 hb
        cases hy with
        | ptr n i hD =>
          obtain ⟨vs, q1, q2, q3⟩ := hs.range (a := (b, 0)) hD hl
          obtain ⟨z, rfl, hz⟩ := VRs.inv1 q1
          have hcell := q2 0 z rfl
          have hz0 := hs.zero b hD
          rw [hz0] at hcell
          simp only [Nat.add_zero] at hcell
          have hBm : (c.ρ b).1 < w.heap.size := by
            unfold World.cell? at hcell
            cases hg : w.heap[(c.ρ b).1]? with
            | none => simp [hg] at hcell
            | some o => exact (Array.getElem?_eq_some_iff.1 hg).1
          cases hz with
          | mp r hr =>
            unfold getMap at hm
            cases hg : σ.heap.get r with
            | none => simp [hg] at hm
            | some o =>
              cases o with
              | cells k t ty => simp [hg] at hm
              | dead => simp [hg] at hm
              | map l2 =>
                simp only [hg, Option.some.injEq] at hm
                subst hm
                obtain ⟨es, clock, g1, g2, g3⟩ := hs.maps r _ hr hg
                obtain ⟨D, o1, o2, o3⟩ := owns_int g1 g2 g3 hks hn
                have hS := sorted_any hG eg w (c.ρ b).1 (c.ρ r).1 ks hBm hcell o1 o2 o3 hn
                rw [hz0]
                refine .inr ⟨enters_of Tryz.func210 (by kernel_rfl) rfl _ w, hS.mono ?_⟩
                rintro e w' ⟨v2, rfl, hrow, hnil, hb2⟩
                have hk := below_kept hb2
                cases ks with
                | nil =>
                  simp only [Option.some.injEq, Prod.mk.injEq] at h
                  obtain ⟨rfl, rfl⟩ := h
                  rw [hnil.2 rfl]
                  exact ⟨_, c, rfl, Post.kept hs hk, .sl0 _⟩
                | cons k0 ks =>
                  simp only [bnd_eq, Option.some.injEq, Prod.mk.injEq] at h
                  obtain ⟨⟨nm, σ1⟩, hf, rfl, rfl⟩ := h
                  rcases hrow.2 with ⟨rfl, hz⟩ | ⟨gb, cap, cur, rfl, hbase, hgb, r1, r2, r3, r4⟩
                  · simp at hz
                  · have hls := hrow.1
                    rw [List.length_map] at hls
                    have hat : ∀ (j : Nat) (v : Value), ((sortI (k0 :: ks)).map encZ)[j]? = some v → cur[j]? = some v := by
                      intro j v hj
                      rw [← r4, List.getElem?_take] at hj
                      split at hj
                      · simpa using hj
                      · cases hj
                    have hone : ∀ a ∈ (sortI (k0 :: ks)).map fun n => AV.int .i64 n, a.one = true := by
                      intro a ha
                      obtain ⟨n, _, rfl⟩ := List.mem_map.1 ha
                      rfl
                    have hle : ((sortI (k0 :: ks)).map encZ).length ≤ cur.size := by
                      rw [List.length_map, hls, r3]
                      omega
                    have hP := Post.adopt (k := cur.size) hs hf (o := .cells cur 3 (0, 0)) ⟨(sortI (k0 :: ks)).map encZ, cur, 0, 0, rfl, ints_ok c _, hone, hat, hle, fun i _ => by omega, rfl⟩ hk hbase hgb
                    refine ⟨_, _, rfl, hP, ?_⟩
                    have hρ := c.more_ρ nm gb 0 cur.size
                    have hL := c.more_L nm gb 0 cur.size
                    have := VR.sl (c := c.more nm gb 0 cur.size) nm 0 (k0 :: ks).length 1 cap 0 (c.more_D _ _ _ _) r1 (.inr (by rw [hρ])) (by rw [hρ]; show 0 + 0 + cap * 1 ≤ _; rw [hL, r3]; omega)
                    rw [hρ] at this
                    exact this
/- (*hive.Hive).Keys where nothing is kept -/
def kKeys (args : List AV) (σ : St) : Option (AV × St) := match args with
  | [.ptr none] => some (.sl none 0 0, σ)
  | [.ptr (some (b, i))] => (match loadN σ (b, i + 1) 1 with
      | some [.mp (some r)] => (match getMap σ r with
        | some [] => some (.sl none 0 0, σ)
        | _ => none)
      | _ => none)
  | _ => none
end Go.Proofs.YtijiggolphppbaaGreatDoor
