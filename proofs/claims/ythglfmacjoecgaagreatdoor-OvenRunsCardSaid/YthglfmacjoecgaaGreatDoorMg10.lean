/- Texts of the proof, one behind the other: apiaryref01.Num walked; sap.Text, Row, apiaryref01.Text, Row walked; sap.Row walked; mill's small functions walked: width, takes, number, same. -/
import Derived.Test.YthglfmacjoecgaaGreatDoorMg05
import Derived.Test.YthglfmacjoecgaaGreatDoorMg09
import Derived.Test.YthglfmacjoecgaaGreatDoorMg01
import Derived.Test.YthglfmacjoecgaaGreatDoorShelf
namespace Go.Proofs.YthglfmacjoecgaaGreatDoor
open Go.RowKit

/-- 'append(s, x ..)', the elements lying anywhere, perhaps none. -/
theorem wpList_append_any {P : Program} {w : World} {ops : Array Oper} {rest : List Oper} {o : Oper} {a : Act} {Q : Exit → Act → World → Prop} (hgd : o.guard = none) (s x : Operand) (t : TypeId)
    (ho : o.op = .call { callee := .builtin .append, args := #[s, x], argTypes := #[t, t] })
    {e : TypeId} {size bytes : Nat} (T : ElT P t e size bytes)
    {v : Value} {n : Nat} {xs : List Value} (hown : w.ownsRow 0 e size v n xs) (hs : a.eval s = v)
    (ad : Addr) (m c : Nat) (news : List Value) (hx : a.eval x = .slice (some ad) m c) (hl : news.length = m * size) (hnews : ∀ j u, news[j]? = some u → w.cell? (ad.add j) = some u) (h1 : ∀ u ∈ news, u.oneCell' = true)
    (h63 : n + m ≤ maxLen) (hbytes : (n + m) * bytes ≤ 140737488355328) (hm : 0 < n + m)
    (h : ∀ g cap w', w'.ownsRow 0 e size (.slice (some ⟨g, 0, none⟩) (n + m) cap) (n + m) (xs ++ news) → Chg (fun k => v.ownBlock = some k) w w' → (v.ownBlock = some g ∨ w.heap.size ≤ g) →
      wpList P ops Q rest (a.put o.dst (.slice (some ⟨g, 0, none⟩) (n + m) cap)) w') : wpList P ops Q (o :: rest) a w :=
  wpList_plain hgd fun _ hK => by
    obtain ⟨i, z, hi, hz, h2, h3, h4, _⟩ := T.info
    obtain ⟨v', w', hr, r2, r3, r4, _⟩ := run_append_chg (P := P) w t o.type e i z size bytes T.ht hi hz h2 h3 h4 T.pos v n xs hown ad m c news hl hnews h1 h63 hbytes
    obtain ⟨g, cap, rfl, _⟩ := owns_some r2 hm
    unfold Oper.wp execOp
    simp only [ho, resolve, invoke, builtin, Sem.run_bind, Sem.run_pure, Result.andThen_ok, List.map_toArray, List.map_cons, List.map_nil, hs, hx, hr]
    exact hK _ _ (h g cap w' r2 r3 (r4 g rfl))

def u8V (b : UInt8) : Value := .int .u8 ((b.toNat : Nat) : Int)
theorem elU8v : ElT Tryz.prog 125 5 1 1 := .mk' (z := .int .u8 0) Tryz.underlying125 (by kernel_rfl) rfl (by decide) rfl
theorem own_bytes {w : World} {g n cap : Nat} {l : List UInt8} (h : w.ownsRow 0 5 1 (.slice (some ⟨g, 0, none⟩) n cap) n (l.map u8V)) (hl : l.length = n) : Lib.Bytes w g 0 (bs l) := by
  intro i hi
  rw [bs_size] at hi
  rw [Nat.zero_add, h.cellAt i (by omega)]
  simp [hi]
  rfl

set_option maxRecDepth 100000 in
set_option maxHeartbeats 2000000 in
theorem rnum_any (n : Int) (h1 : -9223372036854775808 ≤ n) (h2 : n ≤ 9223372036854775807) (w : World) :
    Calls Tryz.prog 68 #[.int .i64 n] w (Rets (.string (bs (numL n))) (Chg (fun _ => False) w)) := by
  go_enter Tryz.func68, Tryz.ntmps68
  obtain ⟨sg, hsg⟩ : ∃ sg : Nat, sg = if n < 0 then 128 else 0 := ⟨_, rfl⟩
  have hnum : numL n = UInt8.ofNat (sg + (beL 8 (magN n)).length) :: beL 8 (magN n) := by rw [hsg]; rfl
  have hsg2 : sg = 0 ∨ sg = 128 := by rw [hsg]; split <;> simp
  have hml := magN_lt h1 h2
  obtain ⟨m, hm⟩ : ∃ m, m = magN n := ⟨_, rfl⟩
  rw [← hm] at hnum hml
  have HN := hid hnum
  have HSG := hid hsg
  have HSG2 := hid hsg2
  have HM := hid hm
  clear hnum hsg hsg2 hm
  go_upto_if 6 with fail
  go_cut [0, 3] from 5 (fun a s wx => a = .int .i64 (m : Int) ∧ s = .int .u8 (sg : Int) ∧ w = wx)
  case first =>
    by_cases h0 : n < 0
    · have hx : IntKind.i64.wrap (-1 - n) = (m : Int) := by rw [IntKind.wrap_i64, HM.out]; unfold magN; rw [if_pos h0]; omega
      go_wp2_with fail
      go_meet
      refine ⟨?_, ?_, rfl⟩
      · first | rw [show (m : Int) = -1 - n by rw [HM.out]; unfold magN; rw [if_pos h0]; omega] | rfl
      · rw [HSG.out, if_pos h0]; rfl
    · go_wp2_with fail
      go_meet
      refine ⟨?_, ?_, rfl⟩
      · rw [show (m : Int) = n by rw [HM.out]; unfold magN; rw [if_neg (by omega)]; omega]
      · rw [HSG.out, if_neg (by omega)]; rfl
  case rest =>
    obtain ⟨rfl, rfl, rfl⟩ := hcut
    go_wp2_with fail
    have hb0 := owns_new w [] 5 1 0 rfl (Nat.zero_le _)
    have HB0 := hid hb0
    have HC0 := hid ((Chg.refl (fun _ => False) w).alloc (.cells #[] 5))
    clear hb0
    go_loopw [0, 4] (fun x v wr => ∃ k g cap : Nat, x = .int .i64 ((m / 256 ^ k : Nat) : Int) ∧ v = .slice (some ⟨g, 0, none⟩) k cap ∧ Chg (fun _ => False) w wr ∧ w.heap.size ≤ g ∧ wr.ownsRow 0 5 1 (.slice (some ⟨g, 0, none⟩) k cap) k ((lowL k m).map u8V) ∧ ∀ j, j < k → m / 256 ^ j ≠ 0) (fun x _ _ => (intOf x).toNat)
    case atStart => exact ⟨0, w.heap.size, 0, by simp, rfl, HC0.out, Nat.le_refl _, HB0.out, fun j hj => by omega⟩
    case round =>
      obtain ⟨k, g, cap, rfl, rfl, hch, hgw, hown, hj⟩ := hrel
      have hk8 : k ≤ 8 := by
        rcases Nat.lt_or_ge 8 k with h | h
        · exact absurd (Nat.div_eq_of_lt hml) (hj 8 h)
        · exact h
      have HCH := hid hch
      have HOWN := hid hown
      have HJ := hid hj
      clear hch hown hj
      by_cases hz : m / 256 ^ k = 0
      · rw [hz]
        have hby := own_bytes HOWN.out (lowL_len k m)
        have hsz := bs_size (lowL k m)
        rw [lowL_len] at hsz
        have hcv : ∀ W, Chg (fun _ => False) wr W → (convert 125 9 (.slice (some ⟨g, 0, none⟩) k cap)).run Tryz.prog W = .ok (.string (bs (lowL k m))) W := fun W hW => by
          have h3 : Lib.Bytes W g 0 (bs (lowL k m)) := fun i hi => hW.cell (hby i hi) (fun h => h)
          have := Lib.run_convert_whole (P := Tryz.prog) W 125 5 9 Tryz.underlying125 Tryz.underlying5 Tryz.underlying9 g 0 (bs (lowL k m)) h3 cap
          rwa [hsz] at this
        obtain ⟨c, hc, hc256⟩ : ∃ c : Nat, c = sg + k ∧ c < 256 := ⟨_, rfl, by rcases HSG2.out with h | h <;> omega⟩
        have hck : (sg : Int) + (k : Int) = (c : Int) := by omega
        have hw8 : IntKind.u8.wrap (c : Int) = (c : Int) := by rw [IntKind.wrap_u8]; omega
        have hw9 : IntKind.u8.wrap (k : Int) = (k : Int) := by rw [IntKind.wrap_u8]; omega
        have hm1 : (k : Int) % 256 = (k : Int) := by omega
        have hm2 : (c : Int) % 256 = (c : Int) := by omega
        have hone : ∀ W, Lib.Bytes W wr.heap.size 0 ⟨#[UInt8.ofNat c]⟩ → (convert 125 9 (.slice (some ⟨wr.heap.size, 0, none⟩) 1 1)).run Tryz.prog W = .ok (.string ⟨#[UInt8.ofNat c]⟩) W := fun W hW =>
          Lib.run_convert_whole (P := Tryz.prog) W 125 5 9 Tryz.underlying125 Tryz.underlying5 Tryz.underlying9 wr.heap.size 0 ⟨#[UInt8.ofNat c]⟩ hW 1
        have hcb : (((UInt8.ofNat c).toNat : Nat) : Int) = (c : Int) := by rw [UInt8.toNat_ofNat', Nat.mod_eq_of_lt hc256]
        have hone1 := hone (wr.alloc (.cells #[.int .u8 (c : Int)] 5)) (fun i hi => by
          obtain rfl : i = 0 := by
            have : (⟨#[UInt8.ofNat c]⟩ : ByteArray).size = 1 := rfl
            omega
          have := cell_of (heap_alloc_new' wr (.cells #[.int .u8 (c : Int)] 5)) 0
          refine this.trans ?_
          show some (Value.int .u8 (c : Int)) = some (Value.int .u8 (((UInt8.ofNat c).toNat : Nat) : Int))
          rw [hcb])
        have hcv1 := hcv (wr.alloc (.cells #[.int .u8 (c : Int)] 5)) ((Chg.refl _ wr).alloc _)
        have HK : Hid (beL 8 m = lowL k m) := hid (beL_low k 8 m (by omega) hz HJ.out)
        obtain ⟨dg, hdg⟩ : ∃ dg, dg = bs (lowL k m) := ⟨_, rfl⟩
        rw [← hdg] at hcv1 hsz
        have hadd2 : ¬ 9223372036854775807 < 1 + dg.size := by omega
        have hadd : ¬ 9223372036854775807 < (⟨#[UInt8.ofNat c]⟩ : ByteArray).size + dg.size := hadd2
        have HC1 : Hid (bs (numL n) = (⟨#[UInt8.ofNat c]⟩ : ByteArray) ++ dg) := hid (by
          rw [HN.out, HK.out, lowL_len, ← hc, hdg]
          rw [show UInt8.ofNat c :: lowL k m = [UInt8.ofNat c] ++ lowL k m from rfl, bs_append]
          rfl)
        clear hdg hc hcb hz hby hcv hone
        go_wp2_with fail
        go_ret
        exact ⟨by rw [HC1.out]; rfl, HCH.out.alloc _⟩
      · have HNX := hid (low_next m k)
        have hlt : m / 256 ^ k < 9223372036854775808 := Nat.lt_of_le_of_lt (Nat.div_le_self m (256 ^ k)) (by have := magN_le h1 h2; rw [HM.out]; omega)
        obtain ⟨q, hq⟩ : ∃ q, q = m / 256 ^ k := ⟨_, rfl⟩
        have HLC : Hid (lowL (k + 1) m = UInt8.ofNat (q % 256) :: lowL k m) := hid (by rw [lowL_cons, hq])
        rw [← hq] at hz hlt ⊢
        have HQ := hid hq
        have HNZ := hid hz
        clear hq
        have hq0 : (0 : Int) < (q : Int) := by omega
        have hr1 : (q : Int).tmod 256 = (q : Int) % 256 := Int.tmod_eq_emod_of_nonneg (by omega)
        have hr2 : (q : Int).tdiv 256 = (q : Int) / 256 := Int.tdiv_eq_ediv_of_nonneg (by omega)
        have HBV : Hid ((q : Int) % 256 = (((UInt8.ofNat (q % 256)).toNat : Nat) : Int)) := hid (by
          show _ = _
          rw [UInt8.toNat_ofNat', Nat.mod_mod]
          norm_cast)
        have hnew := owns_new wr [.int .u8 ((q : Int) % 256)] 5 1 1 rfl (by unfold maxLen; omega)
        have HNEW := hid hnew
        have hsrc : ∀ j u, ((lowL k m).map u8V)[j]? = some u → (wr.alloc (.cells #[.int .u8 ((q : Int) % 256)] 5)).cell? ((⟨g, 0, none⟩ : Addr).add j) = some u := fun j u hju => by
          have h3 := HOWN.out.cells (g := g) rfl j u hju
          exact cell_alloc' h3 _
        have HSRC := hid hsrc
        have HOC : Hid (∀ u ∈ (lowL k m).map u8V, u.oneCell' = true) := hid (fun u hu => by
          obtain ⟨y, _, rfl⟩ := List.mem_map.1 hu
          rfl)
        clear hnew hsrc
        go_wp2_with (refine wpList_append_any rfl _ _ 125 rfl elU8v HNEW.out rfl ⟨g, 0, none⟩ k cap ((lowL k m).map u8V) rfl (by simp [lowL_len]) HSRC.out HOC.out (by unfold maxLen; omega) (by omega) (by omega) ?_; intro g2 cap2 w2 hown2 hch2 hg2)
        go_roundw
        case rel =>
          have hg3 : w.heap.size ≤ g2 := by
            have := HCH.out.size
            rcases hg2 with h | h
            · simp [Value.ownBlock] at h; omega
            · simp at h; omega
          refine ⟨k + 1, g2, cap2, ?_, by rw [Nat.add_comm], (HCH.out.alloc _).trans hch2 (fun i hi h => by have := HCH.out.size; simp [Value.ownBlock] at h; omega), hg3, ?_, fun j hj => ?_⟩
          · rw [HNX.out, ← HQ.out]; rfl
          · rw [HLC.out]
            have h3 := hown2
            rw [HBV.out, Nat.add_comm] at h3
            exact h3
          · by_cases e : j = k
            · rw [e, ← HQ.out]; exact HNZ.out
            · exact HJ.out j (by omega)
        case measure => simp [intOf]; omega
end Go.Proofs.YthglfmacjoecgaaGreatDoor
namespace Go.Proofs.YthglfmacjoecgaaGreatDoor
open Go.RowKit

set_option maxRecDepth 100000 in
theorem text_any (t : List UInt8) (ht : t.length ≤ 100000) (w : World) : Calls Tryz.prog 102 #[.string (bs t)] w (Rets (.string (bs (textN t))) (Chg (fun _ => False) w)) := by
  have hsz := bs_size t
  have hn := numL_len (t.length : Int)
  have hz := bs_size (numL (t.length : Int))
  have hnum := num_any (t.length : Int) (by omega) (by omega)
  have HE : Hid (bs (textN t) = bs (numL (t.length : Int)) ++ bs t) := hid (by unfold textN; rw [bs_append])
  rw [← hsz] at hnum HE hz ht hn
  generalize bs (numL ((bs t).size : Int)) = x at *
  generalize bs t = s at *
  have hadd : ¬ 9223372036854775807 < x.size + s.size := by omega
  clear hsz hn hz ht
  go_enter Tryz.func102, Tryz.ntmps102
  go_wp2_with (go_at_call 62; refine (hnum _).mono ?_; rintro e w2 ⟨rfl, hc2⟩)
  go_ret
  exact ⟨by rw [HE.out]; rfl, hc2⟩
set_option maxRecDepth 100000 in
theorem rtext_any (t : List UInt8) (ht : t.length ≤ 100000) (w : World) : Calls Tryz.prog 129 #[.string (bs t)] w (Rets (.string (bs (textN t))) (Chg (fun _ => False) w)) := by
  have hsz := bs_size t
  have hn := numL_len (t.length : Int)
  have hz := bs_size (numL (t.length : Int))
  have hnum := rnum_any (t.length : Int) (by omega) (by omega)
  have HE : Hid (bs (textN t) = bs (numL (t.length : Int)) ++ bs t) := hid (by unfold textN; rw [bs_append])
  rw [← hsz] at hnum HE hz ht hn
  generalize bs (numL ((bs t).size : Int)) = x at *
  generalize bs t = s at *
  have hadd : ¬ 9223372036854775807 < x.size + s.size := by omega
  clear hsz hn hz ht
  go_enter Tryz.func129, Tryz.ntmps129
  go_wp2_with (go_at_call 68; refine (hnum _).mono ?_; rintro e w2 ⟨rfl, hc2⟩)
  go_ret
  exact ⟨by rw [HE.out]; rfl, hc2⟩

theorem rowN_take (ts : List (List UInt8)) (k : Nat) (h : k < ts.length) : ((ts.take (k + 1)).flatMap textN) = (ts.take k).flatMap textN ++ textN ts[k] := by
  rw [List.take_succ_eq_append_getElem h, List.flatMap_append]; simp
theorem flat_take_len (ts : List (List UInt8)) (k : Nat) : ((ts.take k).flatMap textN).length ≤ (ts.flatMap textN).length := by
  conv => rhs; rw [← List.take_append_drop k ts, List.flatMap_append, List.length_append]
  omega
theorem textN_in (ts : List (List UInt8)) (k : Nat) (h : k < ts.length) : ((ts.take k).flatMap textN).length + (textN ts[k]).length ≤ (ts.flatMap textN).length := by
  have := flat_take_len ts (k + 1)
  rw [rowN_take ts k h, List.length_append] at this
  exact this
set_option maxRecDepth 100000 in
set_option maxHeartbeats 2000000 in
theorem rrow_any (ts : List (List UInt8)) (hr : (rowN ts).length ≤ 90000) (hl : ts.length ≤ 1000) (v : Value) (w : World) (hin : NamesAt w v ts) : Calls Tryz.prog 110 #[v] w (Rets (.string (bs (rowN ts))) (Chg (fun _ => False) w)) := by
  have hlen := hin.len
  have hnum := rnum_any (ts.length : Int) (by omega) (by omega)
  have hR : (rowN ts).length = (numL (ts.length : Int)).length + (ts.flatMap textN).length := by unfold rowN; rw [List.length_append]
  have HR := hid hR
  have HN := hid hin
  clear hin hR
  go_enter Tryz.func110, Tryz.ntmps110
  go_wp2_with (go_at_call 68; refine (hnum _).mono ?_; rintro e w2 ⟨rfl, hc2⟩)
  have HC2 := hid hc2
  clear hnum hc2
  go_loopw [3, 4] (fun s i wr => ∃ k : Nat, k ≤ ts.length ∧ i = .int .i64 k ∧ s = .string (bs (numL (ts.length : Int) ++ (ts.take k).flatMap textN)) ∧ Chg (fun _ => False) w wr) (fun _ i _ => ts.length - (intOf i).toNat)
  case atStart => exact ⟨0, Nat.zero_le _, rfl, by simp, HC2.out⟩
  case round =>
    obtain ⟨k, hk, rfl, rfl, hch⟩ := hrel
    have HCH := hid hch
    clear hch
    by_cases hkn : k < ts.length
    · have hkn' : (k : Int) < ts.length := by omega
      obtain ⟨ad, hix, hadc, hadb⟩ := (HN.out.chg HCH.out (fun _ _ h => h)).ix k hkn
      have hin := textN_in ts k hkn
      have htl : ts[k].length ≤ 100000 := by
        have : ts[k].length ≤ (textN ts[k]).length := by unfold textN; simp
        have := HR.out
        omega
      have htx := rtext_any ts[k] htl
      have HE : Hid (bs (numL (ts.length : Int) ++ (ts.take (k + 1)).flatMap textN) = bs (numL (ts.length : Int) ++ (ts.take k).flatMap textN) ++ bs (textN ts[k])) := hid (by rw [rowN_take ts k hkn, ← List.append_assoc, bs_append])
      have hz1 := bs_size (numL (ts.length : Int) ++ (ts.take k).flatMap textN)
      have hz2 := bs_size (textN ts[k])
      rw [List.length_append] at hz1
      have hadd : ¬ 9223372036854775807 < (bs (numL (ts.length : Int) ++ (ts.take k).flatMap textN)).size + (bs (textN ts[k])).size := by
        have := HR.out
        omega
      clear hz1 hz2 hin htl
      generalize bs (numL (ts.length : Int) ++ (ts.take k).flatMap textN) = x at *
      generalize bs (textN ts[k]) = y at *
      generalize bs ts[k] = z at *
      go_wp2_with (go_at_call 129; refine (htx _).mono ?_; rintro e w3 ⟨rfl, hc3⟩)
      go_roundw
      case rel => exact ⟨k + 1, by omega, by go_num, by rw [HE.out], HCH.out.trans hc3 (fun _ _ h => h)⟩
      case measure => simp [intOf]; omega
    · obtain rfl : k = ts.length := by omega
      have HE : Hid (bs (numL (ts.length : Int) ++ (ts.take ts.length).flatMap textN) = bs (rowN ts)) := hid (by rw [List.take_length]; rfl)
      generalize bs (numL (ts.length : Int) ++ (ts.take ts.length).flatMap textN) = x at *
      go_wp2_with fail
      go_ret
      exact ⟨by rw [← HE.out]; rfl, HCH.out⟩
end Go.Proofs.YthglfmacjoecgaaGreatDoor
namespace Go.Proofs.YthglfmacjoecgaaGreatDoor
open Go.RowKit

set_option maxRecDepth 100000 in
set_option maxHeartbeats 4000000 in
theorem row_any (ts : List (List UInt8)) (hr : (rowN ts).length ≤ 90000) (hl : ts.length ≤ 1000) (v : Value) (w : World) (hin : NamesAt w v ts) : Calls Tryz.prog 63 #[v] w (Rets (.string (bs (rowN ts))) (Chg (fun _ => False) w)) := by
  have hlen := hin.len
  have hnum := num_any (ts.length : Int) (by omega) (by omega)
  have hR : (rowN ts).length = (numL (ts.length : Int)).length + (ts.flatMap textN).length := by unfold rowN; rw [List.length_append]
  have HR := hid hR
  have HN := hid hin
  have hbd : BdAt (w.alloc (.cells #[.pointer none, .slice none 0 0] 170)) (w.alloc (.cells #[.pointer none, .slice none 0 0] 170)) w.heap.size [] :=
    ⟨.inl ⟨Nat.le_refl _, .slice none 0 0, heap_alloc_new' _ _, World.ownsRow_nil _ _ _ _, by simp [Value.ownBlock]⟩, Chg.refl _ _, by simp⟩
  have hfar : ∀ W, Chg (fun k => w.heap.size ≤ k) (w.alloc (.cells #[.pointer none, .slice none 0 0] 170)) W → Chg (fun _ => False) w W := fun W hW => ((Chg.refl _ w).alloc _).trans hW (fun i hi h => by omega)
  have HF := hid hfar
  have HB := hid hbd
  clear hin hR hfar hbd
  go_enter Tryz.func63, Tryz.ntmps63
  go_wp2_with fail
  generalize w.alloc (.cells #[.pointer none, .slice none 0 0] 170) = W3 at *
  obtain ⟨b, hb⟩ : ∃ b, b = w.heap.size := ⟨_, rfl⟩
  rw [← hb] at HF HB ⊢
  clear hb
  refine (hnum _).mono ?_
  rintro e w2 ⟨rfl, hc2⟩
  have hB2 := (HB.out.keep (hc2.mono (fun _ _ h => h.elim))).write (numL (ts.length : Int)) (by have := HR.out; simp; omega)
  clear hnum hc2
  go_wp2_with (go_at_call 101; refine hB2.mono ?_; rintro e w4 ⟨rfl, hB4⟩)
  clear hB2
  go_loopw [12] (fun i wr => ∃ k : Nat, k ≤ ts.length ∧ i = .int .i64 k ∧ BdAt W3 wr b (numL (ts.length : Int) ++ (ts.take k).flatMap textN)) (fun i _ => ts.length - (intOf i).toNat)
  case atStart => exact ⟨0, Nat.zero_le _, rfl, by simpa using hB4⟩
  case round =>
    obtain ⟨k, hk, rfl, hBd⟩ := hrel
    have HBd := hid hBd
    clear hBd hB4
    by_cases hkn : k < ts.length
    · have hkn' : (k : Int) < ts.length := by omega
      obtain ⟨ad, hix, hadc, hadb⟩ := (HN.out.chg (HF.out wr HBd.out.ch) (fun _ _ h => h)).ix k hkn
      have hin := textN_in ts k hkn
      have htl : ts[k].length ≤ 100000 := by
        have : ts[k].length ≤ (textN ts[k]).length := by unfold textN; simp
        have := HR.out
        omega
      have htx := text_any ts[k] htl
      have hwr : ∀ W, Chg (fun _ => False) wr W → Calls Tryz.prog 101 #[.pointer (some ⟨b, 0, none⟩), .string (bs (textN ts[k]))] W (Rets (.tuple #[.int .i64 (bs (textN ts[k])).size, .nilIface]) (fun w' => BdAt W3 w' b (numL (ts.length : Int) ++ (ts.take (k + 1)).flatMap textN))) := by
        intro W hW
        have h1 := HBd.out.keep (hW.mono (fun _ _ h => h.elim))
        have h2 := h1.write (textN ts[k]) (by have := HR.out; rw [List.length_append]; omega)
        rw [List.append_assoc, ← rowN_take ts k hkn] at h2
        exact h2
      have HWR := hid hwr
      clear hin htl hwr
      generalize bs (textN ts[k]) = y at *
      generalize bs ts[k] = z at *
      go_wp2_with (first | (go_at_call 102; refine (htx _).mono ?_; rintro e w5 ⟨rfl, hc5⟩) | (go_at_call 101; refine (HWR.out _ hc5).mono ?_; rintro e w6 ⟨rfl, hB6⟩))
      go_roundw
      case rel => exact ⟨k + 1, by omega, by go_num, hB6⟩
      case measure => simp [intOf]; omega
    · obtain rfl : k = ts.length := by omega
      have hBd := HBd.out
      rw [List.take_length] at hBd
      have hst := Tryz.Builder_String_any b b _ wr hBd.bd (Nat.le_of_lt hBd.lt)
      have HBd3 := hid hBd
      clear hBd HBd
      go_wp2_with (go_at_call 103; refine hst.mono ?_; rintro e w9 ⟨rfl, hb9⟩)
      go_ret
      exact ⟨rfl, HF.out w9 (HBd3.out.ch.trans (Chg.of_below hb9) (fun _ _ h => h))⟩
end Go.Proofs.YthglfmacjoecgaaGreatDoor
namespace Go.Proofs.YthglfmacjoecgaaGreatDoor
open Go.RowKit

/-- strings.IndexByte, behind a name. -/
def ibI (s : ByteArray) (c : UInt8) : Int := Lib.indexByte s.data.toList c
theorem ib_any (s : ByteArray) (c : UInt8) (w : World) : Calls Tryz.prog 94 #[.string s, .int .u8 c.toNat] w (Rets (.int .i64 (ibI s c)) (fun w' => w = w')) :=
  (Tryz.strings_IndexByte s c.toNat w).mono fun e w' ⟨he, hw⟩ => ⟨by rw [he]; simp [ibI], hw.symm⟩

def plainB (c : UInt8) : Bool := decide (0 ≤ ibI { data := #[99, 100, 115, 120, 114, 104, 108, 61] } c)
def numB (c : UInt8) : Bool := decide (0 ≤ ibI { data := #[105, 116, 107, 106, 103] } c)
def dblB (c : UInt8) : Bool := decide (0 ≤ ibI { data := #[99, 115, 61] } c)
def noneB (c : UInt8) : Bool := decide (0 ≤ ibI { data := #[105, 112, 103] } c)

/-- How many bytes the step at a place has. -/
def wid0 (code : ByteArray) (i : Nat) (h : i < code.size) : Nat :=
  if plainB code[i] then 1 else if numB code[i] then 2 else if h2 : code[i] = 112 ∧ i + 1 < code.size then 2 + code[i + 1].toNat else 0
def widN (code : ByteArray) (i : Nat) : Nat := if h : i < code.size then (if code.size - i < wid0 code i h then 0 else wid0 code i h) else 0

set_option maxHeartbeats 1000000 in
theorem width_any (code : ByteArray) (i : Nat) (w : World) (h : i < code.size) (hs : code.size ≤ maxLen) :
    Calls Tryz.prog 60 #[.string code, .int .i64 i] w (Rets (.int .i64 (widN code i)) (fun w' => w = w')) := by
  unfold maxLen at hs
  have h' : (i : Int) < code.size := by omega
  have hw0 : widN code i = if code.size - i < wid0 code i h then 0 else wid0 code i h := by unfold widN; rw [dif_pos h]
  have fin : ∀ n : Nat, wid0 code i h = n → ∀ m : Int, m = (if code.size - i < n then 0 else n : Nat) → Rets (.int .i64 (widN code i)) (fun w' => w = w') (.returned (.int .i64 m)) w := by
    intro n hn m hm
    refine ⟨?_, rfl⟩
    rw [hm, hw0, hn]
  have F := hid fin
  clear hw0 fin
  by_cases h1 : 0 ≤ ibI { data := #[99, 100, 115, 120, 114, 104, 108, 61] } code[i]
  · have e1 : wid0 code i h = 1 := by unfold wid0 plainB; simp [h1]
    have F1 := hid (F.out 1 e1)
    clear F e1
    go_enter Tryz.func60, Tryz.ntmps60
    go_wp2_with (go_at_call 94; refine (ib_any _ _ _).mono ?_; rintro e w' ⟨rfl, rfl⟩)
    all_goals go_ret
    all_goals exact F1.out _ (by rw [if_neg (by omega)]; rfl)
  · have h1' : ibI { data := #[99, 100, 115, 120, 114, 104, 108, 61] } code[i] < 0 := by omega
    by_cases h2 : 0 ≤ ibI { data := #[105, 116, 107, 106, 103] } code[i]
    · have e1 : wid0 code i h = 2 := by unfold wid0 plainB numB; simp [h1, h2]
      have F1 := hid (F.out 2 e1)
      clear F e1 h1
      go_enter Tryz.func60, Tryz.ntmps60
      go_wp2_with (go_at_call 94; refine (ib_any _ _ _).mono ?_; rintro e w' ⟨rfl, rfl⟩)
      all_goals go_ret
      all_goals exact F1.out _ (by first | (rw [if_neg (by omega)]; rfl) | (rw [if_pos (by omega)]; rfl))
    · have h2' : ibI { data := #[105, 116, 107, 106, 103] } code[i] < 0 := by omega
      by_cases h3 : code[i] = 112
      · have h3' : ((code[i].toNat : Int) == 112) = true := by rw [h3]; rfl
        by_cases h4 : i + 1 < code.size
        · have h4' : (i : Int) + 1 < code.size := by omega
          have e1 : wid0 code i h = 2 + code[i + 1].toNat := by unfold wid0; rw [show plainB code[i] = false from by simp [plainB]; omega, show numB code[i] = false from by simp [numB]; omega]; simp [h3, h4]
          have F1 := hid (F.out _ e1)
          have hb : code[i + 1].toNat < 256 := code[i + 1].toNat_lt
          clear F e1 h1 h2 h3
          go_enter Tryz.func60, Tryz.ntmps60
          go_wp2_with (go_at_call 94; refine (ib_any _ _ _).mono ?_; rintro e w' ⟨rfl, rfl⟩)
          all_goals go_ret
          all_goals exact F1.out _ (by first | (rw [if_neg (by omega)]; simp) | (rw [if_pos (by omega)]; rfl))
        · have h4' : (code.size : Int) ≤ (i : Int) + 1 := by omega
          have e1 : wid0 code i h = 0 := by unfold wid0; rw [show plainB code[i] = false from by simp [plainB]; omega, show numB code[i] = false from by simp [numB]; omega]; simp [h3, h4]
          have F1 := hid (F.out _ e1)
          clear F e1 h1 h2 h3
          go_enter Tryz.func60, Tryz.ntmps60
          go_wp2_with (go_at_call 94; refine (ib_any _ _ _).mono ?_; rintro e w' ⟨rfl, rfl⟩)
          all_goals go_ret
          all_goals exact F1.out _ (by rw [if_neg (by omega)]; rfl)
      · have h3' : ((code[i].toNat : Int) == 112) = false := by
          simp
          intro e
          exact h3 (UInt8.toNat_inj.1 (by have : (112 : UInt8).toNat = 112 := rfl; omega))
        have e1 : wid0 code i h = 0 := by unfold wid0 plainB numB; simp [h1, h2, h3]
        have F1 := hid (F.out _ e1)
        clear F e1 h1 h2 h3
        go_enter Tryz.func60, Tryz.ntmps60
        go_wp2_with (go_at_call 94; refine (ib_any _ _ _).mono ?_; rintro e w' ⟨rfl, rfl⟩)
        all_goals go_ret
        all_goals exact F1.out _ (by rw [if_neg (by omega)]; rfl)

def takeN (c : UInt8) : Nat := if dblB c then 2 else if noneB c then 0 else 1
set_option maxHeartbeats 400000 in
theorem takes_any (c : UInt8) (w : World) : Calls Tryz.prog 96 #[.int .u8 c.toNat] w (Rets (.int .i64 (takeN c)) (fun w' => w = w')) := by
  by_cases h1 : 0 ≤ ibI { data := #[99, 115, 61] } c
  · have e1 : takeN c = 2 := by unfold takeN dblB; simp [h1]
    rw [e1]; clear e1
    go_enter Tryz.func96, Tryz.ntmps96
    go_wp2_with (go_at_call 94; refine (ib_any _ _ _).mono ?_; rintro e w' ⟨rfl, rfl⟩)
    all_goals go_ret
    all_goals exact ⟨rfl, rfl⟩
  · have h1' : ibI { data := #[99, 115, 61] } c < 0 := by omega
    by_cases h2 : 0 ≤ ibI { data := #[105, 112, 103] } c
    · have e1 : takeN c = 0 := by unfold takeN dblB noneB; simp [h1, h2]
      rw [e1]; clear e1 h1
      go_enter Tryz.func96, Tryz.ntmps96
      go_wp2_with (go_at_call 94; refine (ib_any _ _ _).mono ?_; rintro e w' ⟨rfl, rfl⟩)
      all_goals go_ret
      all_goals exact ⟨rfl, rfl⟩
    · have h2' : ibI { data := #[105, 112, 103] } c < 0 := by omega
      have e1 : takeN c = 1 := by unfold takeN dblB noneB; simp [h1, h2]
      rw [e1]; clear e1 h1 h2
      go_enter Tryz.func96, Tryz.ntmps96
      go_wp2_with (go_at_call 94; refine (ib_any _ _ _).mono ?_; rintro e w' ⟨rfl, rfl⟩)
      all_goals go_ret
      all_goals exact ⟨rfl, rfl⟩

def numN (s : ByteArray) : Nat := if h : 1 < s.size then s[1].toNat else 0
set_option maxHeartbeats 400000 in
theorem number_any (s : ByteArray) (w : World) (hs : s.size ≤ maxLen) : Calls Tryz.prog 95 #[.string s] w (Rets (.int .i64 (numN s)) (fun w' => w = w')) := by
  unfold maxLen at hs
  by_cases h : 1 < s.size
  · have e1 : numN s = s[1].toNat := by unfold numN; rw [dif_pos h]
    have hb : s[1].toNat < 256 := s[1].toNat_lt
    have h' : 2 ≤ (s.size : Int) := by omega
    rw [e1]; clear e1
    go_enter Tryz.func95, Tryz.ntmps95
    go_wp2
    all_goals go_ret
    all_goals exact ⟨by simp, rfl⟩
  · have e1 : numN s = 0 := by unfold numN; rw [dif_neg h]
    have h' : (s.size : Int) < 2 := by omega
    rw [e1]; clear e1
    go_enter Tryz.func95, Tryz.ntmps95
    go_wp2
    all_goals go_ret
    all_goals exact ⟨rfl, rfl⟩

theorem ba_eqM (a b : ByteArray) : (a == b) = decide (a = b) := by
  rcases a with ⟨a⟩; rcases b with ⟨b⟩
  show (a == b) = _
  by_cases h : a = b <;> simp [h]
def sameS (a b : ByteArray) : ByteArray := if a = b then { data := #[49] } else ByteArray.empty
set_option maxHeartbeats 400000 in
theorem same_any (a b : ByteArray) (w : World) : Calls Tryz.prog 100 #[.string a, .string b] w (Rets (.string (sameS a b)) (fun w' => w = w')) := by
  by_cases h : a = b
  · subst h
    have e1 : sameS a a = { data := #[49] } := by unfold sameS; rw [if_pos rfl]
    rw [e1]; clear e1
    go_enter Tryz.func100, Tryz.ntmps100
    go_wp2
    all_goals go_ret
    all_goals exact ⟨rfl, rfl⟩
  · have e1 : sameS a b = ByteArray.empty := by unfold sameS; rw [if_neg h]
    rw [e1]; clear e1
    have hne : (a.toList == b.toList) = false := by rw [← beq_toListBytes, ba_eqM]; simp [h]
    go_enter Tryz.func100, Tryz.ntmps100
    go_wp2
    all_goals go_ret
    all_goals exact ⟨rfl, rfl⟩
end Go.Proofs.YthglfmacjoecgaaGreatDoor
