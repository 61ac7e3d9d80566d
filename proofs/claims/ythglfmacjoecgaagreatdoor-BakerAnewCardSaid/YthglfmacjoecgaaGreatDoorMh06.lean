/- Texts of the proof, one behind the other: recipe.Print walked; apiaryref01.Num walked; sap.Text, Row, apiaryref01.Text, Row walked. -/
import Derived.Test.YthglfmacjoecgaaGreatDoorMh05
import Derived.Test.YthglfmacjoecgaaGreatDoorMh04
namespace Go.Proofs.YthglfmacjoecgaaGreatDoor
open Go.RowKit

/-- 'append(s, x ..)' at a step of a region that draws, the new elements lying anywhere. -/
theorem step_append_src {P : Program} {w : World} {ops : Array Oper} {o : Oper} {a : Act} {K : Act → World → Prop} {Q : Exit → Act → World → Prop} {E : Prop} (hgd : o.guard = none) (s x : Operand) (t : TypeId)
    (ho : o.op = .call { callee := .builtin .append, args := #[s, x], argTypes := #[t, t] })
    {e : TypeId} {size bytes : Nat} (T : ElT P t e size bytes)
    {v : Value} {n : Nat} {xs : List Value} (hown : w.ownsRow 0 e size v n xs) (hs : a.eval s = v)
    (ad : Addr) (m c : Nat) (news : List Value) (hx : a.eval x = .slice (some ad) m c) (hl : news.length = m * size) (hnews : ∀ j u, news[j]? = some u → w.cell? (ad.add j) = some u) (h1 : ∀ u ∈ news, u.oneCell' = true)
    (h63 : n + m ≤ maxLen) (hbytes : (n + m) * bytes ≤ 140737488355328) (hm : m ≠ 0)
    (h : ∀ g cap w', w'.ownsRow 0 e size (.slice (some ⟨g, 0, none⟩) (n + m) cap) (n + m) (xs ++ news) → Chg (fun k => v.ownBlock = some k) w w' → (v.ownBlock = some g ∨ w.heap.size ≤ g) →
      K (a.put o.dst (.slice (some ⟨g, 0, none⟩) (n + m) cap)) w') : if Region.wanted o (yielded ops a.tmps) = true then Oper.wp P o a w K Q else E := by
  rw [if_pos (by simp [Region.wanted, hgd])]
  obtain ⟨i, z, hi, hz, h2, h3, h4, _⟩ := T.info
  obtain ⟨v', w', hr, r2, r3, r4, r5⟩ := run_append_chg (P := P) w t o.type e i z size bytes T.ht hi hz h2 h3 h4 T.pos v n xs hown ad m c news hl hnews h1 h63 hbytes
  obtain ⟨g, cap, rfl⟩ := r5 hm
  unfold Oper.wp execOp
  simp only [ho, resolve, invoke, builtin, Sem.run_bind, Sem.run_pure, Result.andThen_ok, List.map_toArray, List.map_cons, List.map_nil, hs, hx, hr]
  exact h g cap w' r2 r3 (r4 g rfl)

def strV (l : List UInt8) : Value := .string (bs l)
/-- The builder at block b holds l; what lay below b is as it was. -/
structure BdAt (w0 w : World) (b : Nat) (l : List UInt8) : Prop where
  bd : Lib.IsBuilder 170 5 b b (Lib.byteCells l) w
  ch : Chg (fun k => b ≤ k) w0 w
  lt : b < w.heap.size
theorem BdAt.keep {w0 w w' : World} {b : Nat} {l : List UInt8} (h : BdAt w0 w b l) (hc : Chg (fun k => w.heap.size ≤ k) w w') : BdAt w0 w' b l := by
  have hb := Nat.lt_of_lt_of_le h.lt hc.size
  refine ⟨?_, h.ch.trans hc (fun i hi h' => by have := h.ch.size; show b ≤ i; omega), hb⟩
  have key : ∀ p, Lib.BuilderAt 170 5 b b p (Lib.byteCells l) w → Lib.BuilderAt 170 5 b b p (Lib.byteCells l) w' := by
    rintro p ⟨hB, v, hbk, hown, hne⟩
    exact ⟨hB, v, hc.obj hbk (by have := h.lt; show ¬ w.heap.size ≤ b; omega), Chg.owns hc hown (fun k hk => by have := (World.ownsRow.lt hown k hk).2; show ¬ w.heap.size ≤ k; omega), hne⟩
  exact h.bd.imp (key _) (key _)
theorem BdAt.append {w0 w w' : World} {b : Nat} {l x : List UInt8} (h : BdAt w0 w b l) (hb : Lib.BuilderAt 170 5 b b (.pointer (some ⟨b, 0, none⟩)) (Lib.byteCells l ++ Lib.strCells (bs x)) w') (hc : Below b w w') : BdAt w0 w' b (l ++ x) := by
  refine ⟨.inr ?_, h.ch.trans (Chg.of_below hc) (fun _ _ h => h), Nat.lt_of_lt_of_le h.lt hc.size⟩
  have e : Lib.byteCells (l ++ x) = Lib.byteCells l ++ Lib.strCells (bs x) := by rw [Lib.byteCells_append, Lib.strCells_eq, bs_data]
  rw [e]; exact hb
theorem BdAt.write {w0 w : World} {b : Nat} {l : List UInt8} (h : BdAt w0 w b l) (x : List UInt8) (hl : l.length + x.length ≤ 100000) :
    Calls Tryz.prog 101 #[.pointer (some ⟨b, 0, none⟩), .string (bs x)] w (Rets (.tuple #[.int .i64 (bs x).size, .nilIface]) (fun w' => BdAt w0 w' b (l ++ x))) := by
  refine (write_any b b _ (bs x) w h.bd (by rw [Lib.byteCells_length, bs_size]; omega) (Nat.le_of_lt h.lt)).mono ?_
  rintro e w' ⟨rfl, h1, h2⟩
  exact ⟨rfl, h.append h1 h2⟩
theorem cell_alloc' {W : World} {a : Addr} {u : Value} (h : W.cell? a = some u) (o : Obj) : (W.alloc o).cell? a = some u :=
  ((Chg.refl (fun _ => False) W).alloc o).cell h (fun h => h)
theorem NamesAt.ix {w : World} {v : Value} {ss : List (List UInt8)} (h : NamesAt w v ss) (k : Nat) (hk : k < ss.length) :
    ∃ a : Addr, (∀ w, (Instr.indexAt 22 v (.int .i64 k)).run Tryz.prog w = .ok (.pointer (some a)) w) ∧ w.cell? a = some (.string (bs ss[k])) ∧ a.block < w.heap.size := by
  have := StrsAt.ix (P := Tryz.prog) h Tryz.underlying22 Tryz.sizeOf9 k (by simpa using hk)
  simpa using this

theorem owns_new (w : World) (xs : List Value) (e : TypeId) (size n : Nat) (h : xs.length = n * size) (hn : n ≤ maxLen) : (w.alloc (.cells xs.toArray e)).ownsRow 0 e size (.slice (some ⟨w.heap.size, 0, none⟩) n n) n xs :=
  ⟨h, .inr ⟨w.heap.size, n, xs.toArray, rfl, Nat.zero_le _, heap_alloc_new w _, Nat.le_refl _, hn, by simpa using h, by simp [← h]⟩⟩
theorem line_own (ws : List (List UInt8)) (W : World) (gg cc L : Nat) (xs : List Value) (hL : L = ws.length) (hown : W.ownsRow 0 9 1 (.slice (some ⟨gg, 0, none⟩) L cc) L xs) (hxs : xs = ws.map strV) (hl : ws.length ≤ 1000) (hj : (joinC 32 ws).length ≤ 100000) :
    Calls Tryz.prog 146 #[.slice (some ⟨gg, 0, none⟩) L cc] W (Rets (.string (bs (joinC 32 ws ++ [10]))) (Chg (fun _ => False) W)) := by
  subst hL hxs
  obtain ⟨cur, hg, hcc, _⟩ := ownsRow_heap hown
  refine line_any ws gg 0 cc W (fun i hi => ?_) (heap_lt hg) hl hcc hj
  have := hown.cellAt i (by simpa using hi)
  simpa [strV, List.getElem?_eq_getElem hi] using this

set_option maxRecDepth 100000 in
set_option maxHeartbeats 4000000 in
theorem print_any (g : GrR) (v : Value) (w : World) (hg : GrAt w v g) :
    Calls Tryz.prog 132 #[v] w (Rets (.tuple #[.string (bs ((printR g).getD [])), .int .i64 (if grOK g = true then 0 else 1)]) (Chg (fun _ => False) w)) := by
  have hig : ∀ W, Chg (fun _ => False) w W → Calls Tryz.prog 145 #[v] W (Rets (.bool (grOK g)) (Chg (fun _ => False) W)) := fun W hW => isGraph_any g v W (hg.chg hW (fun _ _ h => h))
  obtain ⟨sv, av, iv, rfl, hs, ha⟩ := hg
  have hC1 : Chg (fun _ => False) w (w.alloc (.cells #[sv, av] 25)) := (Chg.refl _ w).alloc _
  cases hok : grOK g with
  | false =>
    rw [hok] at hig
    have hr : printR g = none := by unfold printR; rw [hok]; rfl
    rw [hr]
    have h1 := hig _ hC1
    clear hig hs ha
    go_enter Tryz.func132, Tryz.ntmps132
    go_wp2_with (go_at_call 145; refine h1.mono ?_; rintro e w' ⟨rfl, hc⟩)
    go_ret2
    exact ⟨rfl, hC1.trans hc (fun _ _ h => h)⟩
  | true =>
    rw [hok] at hig
    obtain ⟨n1, n2, n3, n4⟩ := (grOK_iff g).1 hok
    have hr : printR g = some (textL g) := by unfold printR; rw [hok]; rfl
    rw [hr]
    have h1 := hig _ hC1
    have hl1 := hs.len
    have hl2 := ha.len
    have hgb : (w.alloc (.cells #[sv, av] 25)).heap[w.heap.size]? = some (.cells #[sv, av] 25 (0, 0)) := heap_alloc_new' w _
    have HI := hid n3
    have HJ := hid n4
    have HS := hid hs
    have HA := hid ha
    have HG := hid hgb
    clear hig hs ha n3 n4 hr hok hgb
    go_enter Tryz.func132, Tryz.ntmps132
    go_wp2_with (go_at_call 145; refine h1.mono ?_; rintro e w2 ⟨rfl, hc2⟩; have q0 := cell_alloc' (cell_of (hc2.obj HG.out (fun h => h)) 0) (.cells #[.pointer none, .slice none 0 0] 170); simp at q0)
    have hlt : w.heap.size < w2.heap.size := by have := hc2.size; simp at this; omega
    have hbd : BdAt (w2.alloc (.cells #[.pointer none, .slice none 0 0] 170)) (w2.alloc (.cells #[.pointer none, .slice none 0 0] 170)) w2.heap.size [] :=
      ⟨.inl ⟨Nat.le_refl _, .slice none 0 0, heap_alloc_new' _ _, World.ownsRow_nil _ _ _ _, by simp [Value.ownBlock]⟩, Chg.refl _ _, by simp⟩
    have hch3 : Chg (fun _ => False) w (w2.alloc (.cells #[.pointer none, .slice none 0 0] 170)) := (hC1.trans hc2 (fun _ _ h => h)).alloc _
    have hq1 : (w2.alloc (.cells #[.pointer none, .slice none 0 0] 170)).cell? ⟨w.heap.size, 1, none⟩ = some av := by
      have := cell_alloc' (cell_of (hc2.obj HG.out (fun h => h)) 1) (.cells #[.pointer none, .slice none 0 0] 170)
      simpa using this
    clear hc2 hC1 HG h1 q0
    generalize (w2.alloc (.cells #[.pointer none, .slice none 0 0] 170)) = W3 at *
    generalize w2.heap.size = b at *
    have hfar : ∀ W, Chg (fun k => b ≤ k) W3 W → Chg (fun _ => False) w W := fun W hW => hch3.trans hW (fun i hi h => by omega)
    have HF := hid hfar
    have HQ : Hid (∀ W, Chg (fun k => b ≤ k) W3 W → W.cell? ⟨w.heap.size, 1, none⟩ = some av) := hid (fun W hW => hW.cell hq1 (by show ¬ b ≤ w.heap.size; omega))
    have hb1 : ∀ k, ((g.srcs.take k).map srcLine).flatten.length ≤ 128 := fun k => by
      have := flatten_len ((g.srcs.take k).map srcLine) 16 (fun l hl => by obtain ⟨s, hs, rfl⟩ := List.mem_map.1 hl; exact srcLine_len s (HI.out s (List.mem_of_mem_take hs)))
      simp only [List.length_map, List.length_take] at this
      omega
    have HB1 := hid hb1
    have HLT := hid hlt
    clear hb1 hfar hch3 hq1 hlt
    go_loopw [16] (fun i wr => ∃ k : Nat, k ≤ g.srcs.length ∧ i = .int .i64 k ∧ BdAt W3 wr b ((g.srcs.take k).map srcLine).flatten) (fun i _ => g.srcs.length - (intOf i).toNat)
    case atStart => exact ⟨0, Nat.zero_le _, rfl, by simpa using hbd⟩
    case round =>
      obtain ⟨k, hk, rfl, hBd⟩ := hrel
      have HBd := hid hBd
      clear hBd hbd
      by_cases hkn : k < g.srcs.length
      · have hkn' : (k : Int) < g.srcs.length := by omega
        obtain ⟨ad, hix, hadc, hadb⟩ := (HS.out.chg (HF.out wr HBd.out.ch) (fun _ _ h => h)).ix k hkn
        have hnm := HI.out _ (List.getElem_mem hkn)
        have hln := srcLine_len _ hnm
        have hbk := HB1.out k
        have hline := line_any [wSource, g.srcs[k]] wr.heap.size 0 2 (wr.alloc (.cells #[.string (bs wSource), .string (bs g.srcs[k])] 9)) (fun i hi => by
          have := cell_of (heap_alloc_new' wr (.cells #[.string (bs wSource), .string (bs g.srcs[k])] 9)) i
          rw [Nat.zero_add, this]
          match i, hi with
          | 0, _ => rfl
          | 1, _ => rfl) (by simp) (by simp) (by simp) (by simp only [srcLine, List.length_append] at hln; omega)
        have hwr : ∀ W, Chg (fun _ => False) (wr.alloc (.cells #[.string (bs wSource), .string (bs g.srcs[k])] 9)) W → Calls Tryz.prog 101 #[.pointer (some ⟨b, 0, none⟩), .string (bs (srcLine g.srcs[k]))] W (Rets (.tuple #[.int .i64 (bs (srcLine g.srcs[k])).size, .nilIface]) (fun w' => BdAt W3 w' b (((g.srcs.take (k + 1)).map srcLine).flatten))) := by
          intro W hW
          have h1 : BdAt W3 W b ((g.srcs.take k).map srcLine).flatten := HBd.out.keep ((((Chg.refl _ wr).alloc _).trans hW (fun _ _ h => h)).mono (fun _ _ h => h.elim))
          have h2 := h1.write (srcLine g.srcs[k]) (by omega)
          have e : ((g.srcs.take (k + 1)).map srcLine).flatten = ((g.srcs.take k).map srcLine).flatten ++ srcLine g.srcs[k] := by
            rw [List.take_succ_eq_append_getElem hkn, List.map_append, List.flatten_append]; simp
          rw [e]; exact h2
        have hline' : Calls Tryz.prog 146 #[.slice (some ⟨wr.heap.size, 0, none⟩) 2 2] (wr.alloc (.cells #[.string { data := #[115, 111, 117, 114, 99, 101] }, .string (bs g.srcs[k])] 9)) (Rets (.string (bs (srcLine g.srcs[k]))) (Chg (fun _ => False) (wr.alloc (.cells #[.string { data := #[115, 111, 117, 114, 99, 101] }, .string (bs g.srcs[k])] 9)))) := hline
        have hwr' : ∀ W, Chg (fun _ => False) (wr.alloc (.cells #[.string { data := #[115, 111, 117, 114, 99, 101] }, .string (bs g.srcs[k])] 9)) W → Calls Tryz.prog 101 #[.pointer (some ⟨b, 0, none⟩), .string (bs (srcLine g.srcs[k]))] W (Rets (.tuple #[.int .i64 (bs (srcLine g.srcs[k])).size, .nilIface]) (fun w' => BdAt W3 w' b (((g.srcs.take (k + 1)).map srcLine).flatten))) := hwr
        have HW := hid hwr'
        clear hwr hwr' hline hnm hln hbk
        generalize bs (srcLine g.srcs[k]) = ln at *
        generalize bs g.srcs[k] = nm at *
        go_wp2_with (first | (go_at_call 146; refine hline'.mono ?_; rintro e w4 ⟨rfl, hc4⟩) | (go_at_call 101; refine (HW.out _ hc4).mono ?_; rintro e w5 ⟨rfl, hB5⟩))
        go_roundw
        case rel => exact ⟨k + 1, by omega, by go_num, hB5⟩
        case measure => simp [intOf]; omega
      · obtain rfl : k = g.srcs.length := by omega
        have hBd := HBd.out
        rw [List.take_length] at hBd
        have HBd2 := hid hBd
        clear hBd HBd
        have q1 := HQ.out wr HBd2.out.ch
        go_wp2_with fail
        have hT1 : (g.srcs.map srcLine).flatten.length ≤ 128 := by have := HB1.out g.srcs.length; rwa [List.take_length] at this
        have hb2 : ∀ k, ((g.acts.take k).map actLine).flatten.length ≤ 2400 := fun k => by
          have := flatten_len ((g.acts.take k).map actLine) 200 (fun l hl => by obtain ⟨s, hs, rfl⟩ := List.mem_map.1 hl; exact actLine_len s (HJ.out s (List.mem_of_mem_take hs)))
          simp only [List.length_map, List.length_take] at this
          omega
        have HB2 := hid hb2
        have HT : Hid (textL g = (g.srcs.map srcLine).flatten ++ (g.acts.map actLine).flatten) := rfl
        obtain ⟨txt, htxt⟩ : ∃ txt, txt = textL g := ⟨_, rfl⟩
        rw [← htxt] at HT
        have HX := hid htxt
        obtain ⟨wo, hwo⟩ : ∃ wo, wo = wr := ⟨_, rfl⟩
        rw [← hwo] at HBd2 q1 ⊢
        clear hwo hb2 htxt
        generalize (g.srcs.map srcLine).flatten = T1 at *
        go_loopw [28] (fun i wr => ∃ k : Nat, k ≤ g.acts.length ∧ i = .int .i64 k ∧ BdAt W3 wr b (T1 ++ ((g.acts.take k).map actLine).flatten)) (fun i _ => g.acts.length - (intOf i).toNat)
        case atStart => exact ⟨0, Nat.zero_le _, rfl, by simpa using HBd2.out⟩
        case round =>
          obtain ⟨k, hk, rfl, hBd⟩ := hrel
          have HBd := hid hBd
          clear hBd
          by_cases hkn : k < g.acts.length
          · have hkn' : (k : Int) < g.acts.length := by omega
            obtain ⟨bb, oo, hix, hlt, e0, e1, e2, hns, hw1, hw2⟩ := (HA.out.chg (HF.out wr HBd.out.ch) (fun _ _ h => h)).at k hkn
            have hak := HJ.out _ (List.getElem_mem hkn)
            have hal := actLine_len _ hak
            have hTk := HB2.out k
            have htk : ((g.acts.take (k + 1)).map actLine).flatten = ((g.acts.take k).map actLine).flatten ++ actLine g.acts[k] := by
              rw [List.take_succ_eq_append_getElem hkn, List.map_append, List.flatten_append]; simp
            have HTK := hid htk
            clear htk
            obtain ⟨a, haE⟩ : ∃ a, a = g.acts[k] := ⟨_, rfl⟩
            rw [← haE] at e0 e2 hns hw1 hw2 hak hal HTK
            clear haE
            generalize iv k = ivk at *
            obtain ⟨oa, cap, rfl⟩ : ∃ oa cap, ivk = .slice oa a.ins.length cap := by
              rcases hns.1 with ⟨rfl, h0⟩ | ⟨ad, cap, rfl, _⟩
              · have : a.ins = [] := by simpa using h0
                rw [this]; exact ⟨none, 0, rfl⟩
              · exact ⟨some ad, cap, by simp⟩
            have HN := hid hns
            have HAK := hid hak
            have HAL := hid hal
            clear hns hak hal hw1 hw2
            obtain ⟨nm, hnm⟩ : ∃ nm, nm = bs a.name := ⟨_, rfl⟩
            obtain ⟨cd, hcd⟩ : ∃ cd, cd = bs a.code := ⟨_, rfl⟩
            rw [← hnm] at e0
            rw [← hcd] at e2
            have HNM := hid hnm
            have HCD := hid hcd
            clear hnm hcd
            obtain ⟨wd, hwd⟩ : ∃ wd, wd = bs (wordL a.code) := ⟨_, rfl⟩
            have hword : ∀ W, Calls Tryz.prog 147 #[.string cd] W (Rets (.string wd) (Chg (fun _ => False) W)) := fun W => by
              rw [HCD.out, hwd]
              exact word_any a.code ((actOK_iff a).1 HAK.out).2.2.2 W
            have HWD := hid hwd
            have HJL : Hid ((joinC 32 (actWs a)).length ≤ 100000) := by
              have := HAL.out
              simp only [actLine, List.length_append] at this
              show (joinC 32 (actWs a)).length ≤ 100000
              omega
            have HWR : Hid (∀ W, Chg (fun k => wr.heap.size ≤ k) wr W → Calls Tryz.prog 101 #[.pointer (some ⟨b, 0, none⟩), .string (bs (joinC 32 (actWs a) ++ [10]))] W (Rets (.tuple #[.int .i64 (bs (joinC 32 (actWs a) ++ [10])).size, .nilIface]) (fun w' => BdAt W3 w' b (T1 ++ ((g.acts.take (k + 1)).map actLine).flatten)))) := by
              intro W hW
              have h2 := (HBd.out.keep hW).write (actLine a) (by have := HAL.out; simp only [List.length_append]; omega)
              rw [List.append_assoc, ← HTK.out] at h2
              exact h2
            clear hwd
            by_cases hin : a.ins.length = 0
            · rw [hin] at e1
              have hin0 : a.ins = [] := List.length_eq_zero_iff.1 hin
              have hown4 := owns_new (wr.alloc (.cells #[.string nm, .slice oa 0 cap, .string cd] 43)) [.string { data := #[109, 97, 107, 101] }, .string nm] 9 1 2 rfl (by unfold maxLen; omega)
              have hsz4 : (wr.alloc (.cells #[.string nm, .slice oa 0 cap, .string cd] 43)).heap.size = wr.heap.size + 1 := by simp
              rw [hsz4] at hown4
              have hlen4 : Hid (4 = (actWs a).length) := by
                show 4 = (actWs a).length
                unfold actWs; rw [hin0]; rfl
              have HWS : Hid (actWs a = [wMake, a.name, wBy, wordL a.code]) := by show actWs a = _; unfold actWs; rw [hin0]; rfl
              have hc4 : Chg (fun k => wr.heap.size ≤ k) wr ((wr.alloc (.cells #[.string nm, .slice oa 0 cap, .string cd] 43)).alloc (.cells #[.string { data := #[109, 97, 107, 101] }, .string nm] 9)) := ((Chg.refl _ wr).alloc _).alloc _
              have HC4 := hid hc4
              have HXS : Hid ([.string { data := #[109, 97, 107, 101] }, .string nm] ++ (#[.string { data := #[98, 121] }, .string wd] : Array Value).toList = (actWs a).map strV) := by
                show _ = _
                rw [HWS.out, HNM.out, HWD.out]; rfl
              clear hc4 hin0 hsz4
              go_wp2_with (first | (go_at_call 147; refine (hword _).mono ?_; rintro e w5 ⟨rfl, hc5⟩; have hown5 := hc5.owns hown4 (fun _ _ h => h)) | (refine wpList_append_new rfl _ _ 22 rfl elStr hown5 rfl _ 2 2 rfl rfl rfl (by unfold maxLen; omega) (by omega) (by decide) ?_; intro g6 cap6 w6 hown6 hch6 hg6) | (go_at_call 146; refine (line_own (actWs a) _ _ _ _ _ hlen4.out hown6 HXS.out (by have := hlen4.out; omega) HJL.out).mono ?_; rintro e w7 ⟨rfl, hc7⟩) | (go_at_call 101; refine (HWR.out _ (((HC4.out.trans hc5 (fun _ _ h => h.elim)).trans hch6 (fun i hi h => by simp [Value.ownBlock] at h; omega)).trans hc7 (fun _ _ h => h.elim))).mono ?_; rintro e w8 ⟨rfl, hB8⟩))
              go_roundw
              case rel => exact ⟨k + 1, by omega, by go_num, hB8⟩
              case measure => simp [intOf]; omega
            · have hin' : (0 : Int) < a.ins.length := by omega
              obtain ⟨ad, rfl⟩ : ∃ ad, oa = some ad := by
                rcases HN.out.1 with ⟨h1, h2⟩ | ⟨ad, cap', h1, _⟩
                · simp only [Value.slice.injEq] at h1; exact absurd h1.2.1 hin
                · simp only [Value.slice.injEq] at h1; exact ⟨ad, h1.1⟩
              have hsrc : ∀ W, Chg (fun k => wr.heap.size ≤ k) wr W → ∀ (j : Nat) u, (a.ins.map strV)[j]? = some u → W.cell? (ad.add j) = some u := by
                intro W hW j u hj
                rw [List.getElem?_map] at hj
                obtain ⟨y, hy, rfl⟩ := Option.map_eq_some_iff.1 hj
                obtain ⟨hlt, rfl⟩ := List.getElem?_eq_some_iff.1 hy
                rcases HN.out.1 with ⟨h1, h2⟩ | ⟨ad', cap', h1, h2⟩
                · simp at h1
                · simp only [Value.slice.injEq, Option.some.injEq] at h1
                  obtain ⟨rfl, _, _⟩ := h1
                  have h3 := h2 j (by simpa using hlt)
                  have h4 : wr.cell? (ad.add j) = some (.string (bs a.ins[j])) := by simpa using h3
                  exact hW.cell h4 (by have := World.block_lt_of_cell? wr _ h4; show ¬ wr.heap.size ≤ _; omega)
              have hn4 := ((actOK_iff a).1 HAK.out).2.2.1
              have hown4 := owns_new (wr.alloc (.cells #[.string nm, .slice (some ad) a.ins.length cap, .string cd] 43)) [.string { data := #[109, 97, 107, 101] }, .string nm] 9 1 2 rfl (by unfold maxLen; omega)
              have hsz4 : (wr.alloc (.cells #[.string nm, .slice (some ad) a.ins.length cap, .string cd] 43)).heap.size = wr.heap.size + 1 := by simp
              rw [hsz4] at hown4
              have c1 : ((wr.alloc (.cells #[.string nm, .slice (some ad) a.ins.length cap, .string cd] 43)).alloc (.cells #[.string { data := #[109, 97, 107, 101] }, .string nm] 9)).cell? ⟨wr.heap.size, 1, none⟩ = some (.slice (some ad) a.ins.length cap) := by
                exact cell_alloc' (cell_of (heap_alloc_new' wr (.cells #[.string nm, .slice (some ad) a.ins.length cap, .string cd] 43)) 1) (.cells #[.string { data := #[109, 97, 107, 101] }, .string nm] 9)
              have c2 : ((wr.alloc (.cells #[.string nm, .slice (some ad) a.ins.length cap, .string cd] 43)).alloc (.cells #[.string { data := #[109, 97, 107, 101] }, .string nm] 9)).cell? ⟨wr.heap.size, 2, none⟩ = some (.string cd) :=
                cell_alloc' (cell_of (heap_alloc_new' wr (.cells #[.string nm, .slice (some ad) a.ins.length cap, .string cd] 43)) 2) (.cells #[.string { data := #[109, 97, 107, 101] }, .string nm] 9)
              have HL2 : Hid (2 + 1 + a.ins.length + 2 = (actWs a).length) := by
                show 2 + 1 + a.ins.length + 2 = (actWs a).length
                unfold actWs
                rw [if_neg (fun h => hin (by rw [h]; rfl))]
                simp; omega
              have HXS2 : Hid (([.string { data := #[109, 97, 107, 101] }, .string nm] ++ (#[.string { data := #[102, 114, 111, 109] }] : Array Value).toList ++ a.ins.map strV) ++ (#[.string { data := #[98, 121] }, .string wd] : Array Value).toList = (actWs a).map strV) := by
                show _ = _
                unfold actWs
                rw [if_neg (fun h => hin (by rw [h]; rfl)), HNM.out, HWD.out]
                simp [strV]
                exact ⟨rfl, rfl, rfl⟩
              have hc4 : Chg (fun k => wr.heap.size ≤ k) wr ((wr.alloc (.cells #[.string nm, .slice (some ad) a.ins.length cap, .string cd] 43)).alloc (.cells #[.string { data := #[109, 97, 107, 101] }, .string nm] 9)) := ((Chg.refl _ wr).alloc _).alloc _
              have HC4 := hid hc4
              have HSR := hid hsrc
              have HS4 : Hid (wr.heap.size + 2 ≤ ((wr.alloc (.cells #[.string nm, .slice (some ad) a.ins.length cap, .string cd] 43)).alloc (.cells #[.string { data := #[109, 97, 107, 101] }, .string nm] 9)).heap.size) := by
                show _ ≤ _
                simp
              clear hc4 hsz4 hsrc
              go_wp2_with fail
              generalize ((wr.alloc (.cells #[.string nm, .slice (some ad) a.ins.length cap, .string cd] 43)).alloc (.cells #[.string { data := #[109, 97, 107, 101] }, .string nm] 9)) = W4 at *
              have c1a := cell_alloc' c1 (.cells #[.string { data := #[102, 114, 111, 109] }] 9)
              have c1b : (W4.alloc (.cells #[.string { data := #[102, 114, 111, 109] }] 9)).drew.cell? ⟨wr.heap.size, 1, none⟩ = some (.slice (some ad) a.ins.length cap) := c1a
              have c1c : W4.drew.cell? ⟨wr.heap.size, 1, none⟩ = some (.slice (some ad) a.ins.length cap) := c1
              go_region_law (first
                | (refine step_append_new rfl _ _ 22 rfl elStr hown4 rfl _ 1 1 rfl rfl rfl (by unfold maxLen; omega) (by omega) (by decide) ?_
                   intro g1 cap1 w1 hown1 hch1 hg1
                   have d1 := hch1.cell c1 (by simp [Value.ownBlock])
                   have hW1 := HC4.out.trans hch1 (fun i hi h => by simp [Value.ownBlock] at h; omega)
                   have hge1 : wr.heap.size ≤ g1 := by rcases hg1 with h | h
                                                       · simp [Value.ownBlock] at h; omega
                                                       · have := HC4.out.size; omega)
                | (refine step_append_src rfl _ _ 22 rfl elStr hown1 rfl ad a.ins.length cap (a.ins.map strV) rfl (by simp) (HSR.out _ hW1) (by intro u hu; obtain ⟨y, _, rfl⟩ := List.mem_map.1 hu; rfl) (by unfold maxLen; omega) (by omega) (by omega) ?_
                   intro g2 cap2 w2 hown2 hch2 hg2
                   have d2 := hch2.cell (hch1.cell c2 (by simp [Value.ownBlock])) (by
                     have hne : ¬ g1 = wr.heap.size := by
                       rcases hg1 with h | h
                       · simp [Value.ownBlock] at h; omega
                       · have := HS4.out; omega
                     simpa [Value.ownBlock] using hne)
                   have hW2 := hW1.trans hch2 (fun i hi h => by simp [Value.ownBlock] at h; subst h; exact hge1)
                   have hge2 : wr.heap.size ≤ g2 := by rcases hg2 with h | h
                                                       · simp [Value.ownBlock] at h; omega
                                                       · have := hW1.size; omega))
              all_goals go_wp2_with (first | (go_at_call 147; refine (hword _).mono ?_; rintro e w5 ⟨rfl, hc5⟩; have hown5 := hc5.owns hown2 (fun _ _ h => h)) | (refine wpList_append_new rfl _ _ 22 rfl elStr hown5 rfl _ 2 2 rfl rfl rfl (by unfold maxLen; omega) (by omega) (by decide) ?_; intro g6 cap6 w6 hown6 hch6 hg6) | (go_at_call 146; refine (line_own (actWs a) _ _ _ _ _ HL2.out hown6 HXS2.out (by have := HL2.out; omega) HJL.out).mono ?_; rintro e w7 ⟨rfl, hc7⟩) | (go_at_call 101; refine (HWR.out _ (((hW2.trans hc5 (fun _ _ h => h.elim)).trans hch6 (fun i hi h => by simp [Value.ownBlock] at h; subst h; have := hge2; show wr.heap.size ≤ _; omega)).trans hc7 (fun _ _ h => h.elim))).mono ?_; rintro e w8 ⟨rfl, hB8⟩))
              all_goals go_roundw
              all_goals first
                | exact ⟨k + 1, by omega, by go_num, hB8⟩
                | (simp [intOf]; omega)
          · obtain rfl : k = g.acts.length := by omega
            have hBd := HBd.out
            rw [List.take_length, ← HT.out] at hBd
            have hst := Tryz.Builder_String_any b b txt wr hBd.bd (Nat.le_of_lt hBd.lt)
            have HBd3 := hid hBd
            clear hBd HBd HBd2
            go_wp2_with (go_at_call 103; refine hst.mono ?_; rintro e w9 ⟨rfl, hb9⟩)
            go_ret2
            have hf := HF.out w9 (HBd3.out.ch.trans (Chg.of_below hb9) (fun _ _ h => h))
            refine ⟨?_, hf⟩
            rw [HX.out]
            rfl
end Go.Proofs.YthglfmacjoecgaaGreatDoor
namespace Go.Proofs.YthglfmacjoecgaaGreatDoor
open Go.RowKit

end Go.Proofs.YthglfmacjoecgaaGreatDoor
namespace Go.Proofs.YthglfmacjoecgaaGreatDoor
open Go.RowKit

set_option maxRecDepth 100000 in
theorem text_any (t : List UInt8) (ht : t.length ≤ 100000) (w : World) : Calls Tryz.prog 102 #[.string (bs t)] w (Rets (.string (bs (textN t))) (Chg (fun _ => False) w)) := by
  have hsz := bs_size t
  have hn := numL_len (t.length : Int)
  have hz := bs_size (numL (t.length : Int))
  have hnum := num_any (t.length : Int) (by omega) (by omega)
  have HE : Hid (bs (textN t) = bs (numL (t.length : Int)) ++ bs t) := hid (by unfold textN; rw [bs_append])
  rw [← hsz] at hnum HE hz ht hn
  generalize bs (numL ((bs t).size : Int)) = x at *
  generalize bs t = s at *
  have hadd : ¬ 9223372036854775807 < x.size + s.size := by omega
  clear hsz hn hz ht
  go_enter Tryz.func102, Tryz.ntmps102
  go_wp2_with (go_at_call 62; refine (hnum _).mono ?_; rintro e w2 ⟨rfl, hc2⟩)
  go_ret
  exact ⟨by rw [HE.out]; rfl, hc2⟩
theorem rowN_take (ts : List (List UInt8)) (k : Nat) (h : k < ts.length) : ((ts.take (k + 1)).flatMap textN) = (ts.take k).flatMap textN ++ textN ts[k] := by
  rw [List.take_succ_eq_append_getElem h, List.flatMap_append]; simp
theorem flat_take_len (ts : List (List UInt8)) (k : Nat) : ((ts.take k).flatMap textN).length ≤ (ts.flatMap textN).length := by
  conv => rhs; rw [← List.take_append_drop k ts, List.flatMap_append, List.length_append]
  omega
theorem textN_in (ts : List (List UInt8)) (k : Nat) (h : k < ts.length) : ((ts.take k).flatMap textN).length + (textN ts[k]).length ≤ (ts.flatMap textN).length := by
  have := flat_take_len ts (k + 1)
  rw [rowN_take ts k h, List.length_append] at this
  exact this
end Go.Proofs.YthglfmacjoecgaaGreatDoor
