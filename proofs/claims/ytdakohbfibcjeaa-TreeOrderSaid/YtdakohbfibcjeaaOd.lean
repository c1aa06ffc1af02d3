/- TreeOrder: its walk. No condition. -/
import Derived.Test.YtdakohbfibcjeaaOdP
import Derived.Test.YtdakohbfibcjeaaScn
import Derived.Test.YtdakohbfibcjeaaScc
import Derived.Deep.RegionHeld3
namespace Go.Proofs.Ytdakohbfibcjeaa
open Go.RowKit Go.Maps
set_option linter.unusedSimpArgs false
set_option linter.unusedVariables false

theorem may15_q (k v : ByteArray) (w : World) (n : Nat) : Calls Try.prog 5 #[.string k, .string v] (w.drewN n) fun e w'' => e = .returned (.bool (decide (okE (k, v)))) ∧ ∃ m, w'' = w.drewN m :=
  (may15_any k v (w.drewN n)).mono fun e w' h => ⟨h.1, n, h.2.symm⟩
set_option maxRecDepth 100000 in
set_option maxHeartbeats 8000000 in
theorem treeOrder_any {A : Option Addr} {n c : Nat} {es : List Ent} {w : World} (h : EsR w A n c es) :
    Calls Try.prog 3 #[.slice A n c] w fun e w' => e = .returned (.bool true) ∧ Below w.heap.size w w' := by
  have B := Lib.hid (begin_any w (N := 500) (by omega))
  have hsz : (Try.prog.info? 27).map (·.size) = some 2 := by kernel_rfl
  have hn : n ≤ 9223372036854775807 := by have := h.2.2; omega
  have H := Lib.hid h
  clear h
  go_enter Try.func3, Try.ntmps3
  go_upto_region 2 with ((with_reducible refine Calls.mono B.out ?_); rintro e w1 ⟨p, gw, rfl, hT, hB, hgw, hgf, hbel⟩)
  have H1 := Lib.hid (H.out.below hbel (Nat.le_refl _))
  have HT := Lib.hid hT
  have HB := Lib.hid hB
  have HGf := Lib.hid hgf
  have HBel := Lib.hid hbel
  clear hT hB hgw hgf hbel B H
  go_wp2
  go_loopw [4, 5] (fun s4 s5 wr => ∃ (i : Nat) (A' : Option Addr) (m c' : Nat) (o : List Ent), i ≤ n ∧ i ≤ 150 ∧ s5 = .int .i64 i ∧ s4 = .slice A' m c' ∧ Own wr w1.heap.size 27 2 A' m c' (entC o) ∧ Own1 o ∧ o.length ≤ i ∧ Below w1.heap.size w1 wr) (fun _ s5 _ => n - (intOf s5).toNat)
  case atStart => exact ⟨0, none, 0, 0, [], Nat.zero_le _, Nat.zero_le _, rfl, rfl, Own.nil_ _ _ _ _, own1_nil, Nat.zero_le _, Below.refl _ _⟩
  case round =>
    obtain ⟨i, A', m, c', o, hi, hi150, rfl, rfl, hO, h1, hol, hb⟩ := hrel
    by_cases hlt : i < n ∧ i < 150
    · obtain ⟨hlt1, hlt2⟩ := hlt
      have hR := H1.out.below hb (Nat.le_refl _)
      obtain ⟨b, of, rfl, hbl, k, v, hk, c0, c1⟩ := hR.at_ hlt1
      have hii : (i : Int) < (n : Int) := by omega
      have hii2 : (i : Int) < 150 := by omega
      have hib : (0 : Int) ≤ (i : Int) ∧ (i : Int) < (n : Int) := by omega
      have HO := Lib.hid hO
      have HO1 := Lib.hid h1
      have HOl := Lib.hid hol
      have HBb := Lib.hid hb
      obtain ⟨bm, hbm⟩ : ∃ z, z = decide (okE (k, v)) := ⟨_, rfl⟩
      have hmq : ∀ q, Calls Try.prog 5 #[.string k, .string v] (wr.drewN q) fun e w'' => e = .returned (.bool bm) ∧ ∃ m, w'' = wr.drewN m := fun q => by rw [hbm]; exact may15_q k v wr q
      have HM := Lib.hid hmq
      have HBm := Lib.hid hbm
      clear hk hR hO h1 hol hb hmq hbm
      go_upto_region 8 with fail
      go_quiet ((go_at_call 5; exact HM.out _))
      have hdn : Below wr.heap.size wr (wr.drewN nq) := below_drewN (Below.refl _ _) nq
      have HO2 := Lib.hid (HO.out.below hdn (Nat.le_refl _))
      have HB2 := Lib.hid (HBb.out.trans (hdn.mono HBb.out.size))
      obtain ⟨wb, hwb⟩ : ∃ z, z = decide (∃ e ∈ o, e.1 = k) := ⟨_, rfl⟩
      have hG := get15_any k (own_esr HO2.out)
      rw [← hwb] at hG
      have HG := Lib.hid hG
      have HWb := Lib.hid hwb
      have hst : ownS o (k, v) = if bm && !wb then o ++ [(k, v)] else o := by unfold ownS; rw [HBm.out, HWb.out]
      have HSt := Lib.hid hst
      have c0' : (wr.drewN nq).cell? ⟨b, of + i * 2, none⟩ = some (.string k) := c0
      have c1' : (wr.drewN nq).cell? ⟨b, of + i * 2 + 1, none⟩ = some (.string v) := c1
      obtain ⟨W, hW⟩ : ∃ W, W = wr.drewN nq := ⟨_, rfl⟩
      rw [← hW] at HO2 HB2 HG c0' c1'
      rw [← hW]
      clear hG hwb hst c0 c1 hdn hW HO HBb
      go_upto_region 10 with ((with_reducible refine Calls.mono HG.out ?_); rintro e w3 ⟨vv, rfl, rfl⟩)
      have hnew := own1_step HO1.out (k, v)
      have HNew := Lib.hid hnew
      have hi9 : i + 1 ≤ n ∧ i + 1 ≤ 150 := ⟨hlt1, hlt2⟩
      have HI9 := Lib.hid hi9
      clear hnew hi9 HG HM HBm HWb
      rcases bm <;> rcases wb
      case true.false =>
        have hs : ownS o (k, v) = o ++ [(k, v)] := HSt.out
        have HS := Lib.hid hs
        have hbt : ∀ w, (Instr.buildSlice 22 1 #[(0, .agg #[.string k, .string v])]).run Try.prog w = .ok (.slice (some ⟨w.heap.size, 0, none⟩) 1 1) (w.alloc (.cells #[.string k, .string v] 27)) := fun w => run_bltE k v w
        have hol := HOl.out
        have hml : m = o.length := by have := HO2.out.len; rw [entC_len] at this; omega
        have hm9 : Hid (m ≤ 150) := Lib.hid (by omega)
        have hszW : w1.heap.size ≤ W.heap.size := HB2.out.size
        have HSz := Lib.hid hszW
        clear hs hol hml hszW
        go_wp2_with (at_builtin; refine wpList_app rfl (.tmp 61) (.tmp 66) 22 rfl 27 2 Try.underlying22 infoEnt (by simp [Value.cells]) (by omega) rfl (HO2.out.alloc _) rfl ((Blk.new W 27 [.string k, .string v]).rd0 (Nat.zero_le _)) rfl (entC_one [(k, v)]) (by have := hm9.out; omega) (by have := hm9.out; omega) (by have := HSz.out; simp; omega) ?_; intro A2 c2 w2 ho2 hg2 hf2)
        have hB3 : Below w1.heap.size w1 w2 := below_own (HB2.out.trans (((Below.refl _ _).alloc (Nat.le_refl _) _).mono HB2.out.size)) (HO2.out.alloc (.cells #[.string k, .string v] 27)) hg2 (Nat.le_refl _) (by have := HSz.out; simp; omega)
        have hO3 : Own w2 w1.heap.size 27 2 A2 (m + 1) c2 (entC (o ++ [(k, v)])) := by rw [entC_app]; exact ho2
        have h9 := HNew.out
        rw [HS.out] at h9
        refine ⟨⟨i + 1, A2, m + 1, c2, o ++ [(k, v)], HI9.out.1, HI9.out.2, by go_num, rfl, hO3, h9.1, ?_, hB3⟩, ?_⟩
        · have := h9.2; have := HOl.out; omega
        · simp [intOf]; omega
      all_goals
        have hs : ownS o (k, v) = o := HSt.out
        clear hs
        go_wp2
        have h9 := HNew.out
        rw [HSt.out] at h9
        refine ⟨⟨i + 1, A', m, c', o, HI9.out.1, HI9.out.2, by go_num, rfl, HO2.out, HO1.out, ?_, HB2.out⟩, ?_⟩
        · have := HOl.out; omega
        · simp [intOf]; omega
    · obtain ⟨wo, rfl⟩ : ∃ W0, W0 = wr := ⟨_, rfl⟩
      have hm : m = o.length := by have := hO.len; rw [entC_len] at this; omega
      have hm150 : m ≤ 150 := by omega
      have HO := Lib.hid (own_esr hO)
      have HO1 := Lib.hid h1
      have HBb := Lib.hid hb
      have HOb : Hid (∀ b, ablk A' = some b → w1.heap.size ≤ b ∧ b < wo.heap.size) := Lib.hid (fun b e => hO.blk e)
      have HM : Hid (m = o.length) := Lib.hid hm
      have hT2 : TrM wo w.heap.size p 500 (fun _ => none) := HT.out.below hb (Nat.le_refl _)
      have hB2 := HB.out.below hb HB.out.lt
      have HT2 := Lib.hid hT2
      have HB2 := Lib.hid hB2
      have hx : ((i : Int) < (n : Int) ∧ ¬ (i : Int) < 150) ∨ ¬ (i : Int) < (n : Int) := by omega
      clear hO h1 hol hb hm hT2 hB2 hlt hi hi150
      rcases hx with ⟨x1, x2⟩ | x1
      all_goals
        go_wp2
        clear x1
        try clear x2
        obtain ⟨gp, hgp⟩ : ∃ z, z = p.g := ⟨_, rfl⟩
        have HGp := Lib.hid hgp
        clear hgp
        go_loopw [9, 11] (fun s9 s11 wr => ∃ (j r : Nat) (p' : TrS) (T' : Nodes) (ea : List Ent), j ≤ m ∧ s11 = .int .i64 j ∧ s9 = .int .i64 r ∧ TCh wo wr w.heap.size p p' 500 T' ∧ Two 500 T' r ea 0 [] ∧ ea.Perm (o.take j)) (fun _ s11 _ => m - (intOf s11).toNat)
        case atStart => exact ⟨0, 0, p, _, [], Nat.zero_le _, rfl, rfl, TGh.init HT2.out, two_new 500, by rw [List.take_zero]⟩
        case round =>
          obtain ⟨j, r, p', T', ea, hj, rfl, rfl, hC, hTwo, hpm⟩ := hrel
          have hE := HO.out.kept hC.K (fun b e x => by have h1 := (HOb.out b e).1; have h2 := (HT.out.foot_base b x).2; omega)
          have hBw := hC.K.blk HB2.out HGf.out
          have hgf2 := hC.away HGf.out HB2.out.lt
          have hob2 : ∀ b, ablk A' = some b → ¬ p'.foot b := fun b e => hC.away (fun x => by have h1 := (HOb.out b e).1; have h2 := (HT.out.foot_base b x).2; omega) (HOb.out b e).2
          by_cases hlt : j < m
          · obtain ⟨b, of, hAe, hbl, k, v, hk, c0, c1⟩ := hE.at_ hlt
            subst hAe
            obtain ⟨q1, q2, q3⟩ := own1_take HO1.out hk
            have hjj : (j : Int) < (m : Int) := by omega
            have hjb : (0 : Int) ≤ (j : Int) ∧ (j : Int) < (m : Int) := by omega
            have hTd := hC.tr.kept (F := fun _ => False) (kept_drew (Kept.refl _ _)) (fun _ _ x => x)
            have hel : ea.length ≤ 150 := by rw [hpm.length_eq, List.length_take]; omega
            have P0 := put_pair (key := k) (val := v) hTd hTwo (by omega) hel (by simp) q1 (fun e he => q2 e (hpm.mem_iff.1 he))
            rw [hC.g, ← HGp.out] at P0
            have P := Lib.hid P0
            have b3 : wr.cell? ⟨gw, 3, none⟩ = some (.pointer (some ⟨gp, 0, none⟩)) := by rw [HGp.out]; exact hBw.cell 3
            have HQ3 := Lib.hid q3
            have HC := Lib.hid hC
            have HPm := Lib.hid hpm
            have HX : Hid (¬ p'.foot gw ∧ ¬ p'.foot b ∧ gw < wr.heap.size ∧ b < wr.heap.size) := Lib.hid ⟨hgf2, hob2 b rfl, hBw.lt, hbl⟩
            clear hE hBw hgf2 hob2 hk q1 q2 q3 hTd hel P0 hC hTwo hpm hbl
            go_upto_region 17 with fail
            go_region_held3 (fun w' => w'.cell? ⟨gw, 3, none⟩ = some (.pointer (some ⟨gp, 0, none⟩)) ∧ w'.cell? ⟨b, of + j * 2, none⟩ = some (.string k) ∧ w'.cell? ⟨b, of + j * 2 + 1, none⟩ = some (.string v))
              (first | (exact ⟨b3, c0, c1⟩) | (exact ⟨e3, e0, e1⟩) | (exact hHeld))
              (first
                | ((with_reducible refine Calls.mono P.out ?_); rintro e w9 ⟨r9, p9, T9, ea9, rfl, hc9, ht9, hp9⟩
                   have e3 : w9.cell? ⟨gw, 3, none⟩ = some (.pointer (some ⟨gp, 0, none⟩)) := (World.cell?_of_block (a := ⟨gw, 3, none⟩) (hc9.K.block gw HX.out.2.2.1 HX.out.1)).trans b3
                   have e0 : w9.cell? ⟨b, of + j * 2, none⟩ = some (.string k) := (World.cell?_of_block (a := ⟨b, of + j * 2, none⟩) (hc9.K.block b HX.out.2.2.2 HX.out.2.1)).trans c0
                   have e1 : w9.cell? ⟨b, of + j * 2 + 1, none⟩ = some (.string v) := (World.cell?_of_block (a := ⟨b, of + j * 2 + 1, none⟩) (hc9.K.block b HX.out.2.2.2 HX.out.2.1)).trans c1))
            rename_i hH
            have HC9 := Lib.hid ((HC.out.kept (F := fun _ => False) (kept_drew (Kept.refl _ _)) (fun _ x => x.elim)).trans hc9)
            have hp10 : ea9.Perm (o.take (j + 1)) := by rw [HQ3.out]; exact (hp9.trans (HPm.out.cons _)).trans (List.perm_append_singleton _ _).symm
            have HP10 := Lib.hid hp10
            have HT9 := Lib.hid ht9
            clear hH e3 e0 e1 b3 c0 c1 hc9 ht9 hp9 hp10 P HX HC HPm HQ3
            go_wp2
            go_roundw
            case rel => exact ⟨j + 1, r9, p9, T9, ea9, by omega, by go_num, rfl, HC9.out, HT9.out, HP10.out⟩
            case measure => simp [intOf]; omega
          · obtain rfl : j = m := by omega
            obtain ⟨wp, rfl⟩ : ∃ W0, W0 = wr := ⟨_, rfl⟩
            have hpa : ea.Perm o := by rw [List.take_of_length_le (by have := HM.out; omega)] at hpm; exact hpm
            have HPa := Lib.hid hpa
            have HCa := Lib.hid hC
            have HTa := Lib.hid hTwo
            clear hE hBw hgf2 hob2 hpa hC hTwo hpm hj hlt
            go_wp2
            go_loopw [10, 14] (fun s10 s14 wr => ∃ (i r2 : Nat) (p' : TrS) (T' : Nodes) (eb : List Ent), i ≤ j ∧ s14 = .int .i64 ((i : Int) - 1) ∧ s10 = .int .i64 r2 ∧ TCh wo wr w.heap.size p p' 500 T' ∧ Two 500 T' r ea r2 eb ∧ eb.Perm (o.drop i)) (fun _ s14 _ => (intOf s14 + 1).toNat)
            case atStart => exact ⟨j, 0, _, _, [], Nat.le_refl _, by go_num, rfl, HCa.out, HTa.out, by rw [List.drop_of_length_le (by have := HM.out; omega)]⟩
            case round =>
              obtain ⟨i, r2, p', T', eb, hj, rfl, rfl, hC, hTwo, hpm⟩ := hrel
              have hE := HO.out.kept hC.K (fun b e x => by have h1 := (HOb.out b e).1; have h2 := (HT.out.foot_base b x).2; omega)
              have hBw := hC.K.blk HB2.out HGf.out
              have hgf2 := hC.away HGf.out HB2.out.lt
              have hob2 : ∀ b, ablk A' = some b → ¬ p'.foot b := fun b e => hC.away (fun x => by have h1 := (HOb.out b e).1; have h2 := (HT.out.foot_base b x).2; omega) (HOb.out b e).2
              have hea : ea.length ≤ 150 := by rw [HPa.out.length_eq, ← HM.out]; exact hm150
              rcases Nat.eq_zero_or_pos i with hi0 | hi0
              · subst hi0
                obtain ⟨bl1, bl2, R, t1, t2, n1, n2, _, _, _⟩ := hTwo
                have hsm : ea = eb := perm_same (tr1_pw t1) (tr1_pw t2) (HPa.out.trans (by rw [List.drop_zero] at hpm; exact hpm.symm))
                subst hsm
                have hn0 : ¬ (0 : Int) ≤ ((0 : Nat) : Int) - 1 := by omega
                have b3 : wr.cell? ⟨gw, 3, none⟩ = some (.pointer (some ⟨gp, 0, none⟩)) := by rw [HGp.out]; exact hBw.cell 3
                have S0 := scan_any hC.tr t1 n1 hea
                rw [hC.g, ← HGp.out] at S0
                have S1 := Lib.hid S0
                have HC := Lib.hid hC
                have HBw := Lib.hid hBw
                have HGf2 := Lib.hid hgf2
                have HT1 : Hid (Tr1 500 T' r2 ea bl2 ∧ bl2.Nodup ∧ ea.length ≤ 150) := Lib.hid ⟨t2, n2, hea⟩
                have hel : ea.length = j := by rw [HPa.out.length_eq, ← HM.out]
                have HEl := Lib.hid hel
                clear hE hBw hgf2 hob2 S0 hC t1 t2 n1 n2 hea hpm hj hel
                go_upto_region 29 with ((with_reducible refine Calls.mono S1.out ?_); rintro e w2 ⟨p2, A2, m2, c2, rfl, hc2, ho2, hf2⟩)
                have hB2' := hc2.K.blk HBw.out HGf2.out
                have b3 : w2.cell? ⟨gw, 3, none⟩ = some (.pointer (some ⟨gp, 0, none⟩)) := by rw [HGp.out]; exact hB2'.cell 3
                have S0 := scan_any hc2.tr HT1.out.1 HT1.out.2.1 HT1.out.2.2
                rw [hc2.g, HC.out.g, ← HGp.out] at S0
                have S2 := Lib.hid S0
                have HC2 := Lib.hid (HC.out.trans hc2)
                have HO2 := Lib.hid ho2
                have HF2 := Lib.hid hf2
                clear S0 S1 hc2 ho2 hf2 hB2' HBw HGf2 HC hn0
                go_upto_region 30 with ((with_reducible refine Calls.mono S2.out ?_); rintro e w3 ⟨p3, A3, m3, c3, rfl, hc3, ho3, hf3⟩)
                have hO2 := own_esr (own_kept HO2.out hc3.K HF2.out)
                have hO3 := own_esr ho3
                obtain rfl : m2 = m3 := by have := hO2.2.1; have := hO3.2.1; omega
                obtain rfl : m2 = j := by have := hO2.2.1; have := HEl.out; omega
                have Q := Lib.hid (same15_any hO2 hO3)
                have hbel : Below w.heap.size w w3 := (HBel.out.trans (HBb.out.mono HBel.out.size)).trans ((HC2.out.trans hc3).bel HT2.out)
                have HBe := Lib.hid hbel
                clear hO2 hO3 ho3 hc3 hf3 b3 hbel
                go_upto_region 31 with ((with_reducible refine Calls.mono Q.out ?_); rintro e w4 ⟨rfl, q4, rfl⟩)
                have hbel : Below w.heap.size w (w3.drewN q4) := HBe.out.trans (below_drewN (Below.refl _ _) q4 |>.mono HBe.out.size)
                have HBe4 := Lib.hid hbel
                have L := Lib.hid (lives15_any (w3.drewN q4))
                clear hbel
                go_wp2_with ((with_reducible refine Calls.mono L.out ?_); rintro e w5 ⟨rfl, hb5⟩)
                go_ret
                exact ⟨rfl, HBe4.out.trans (hb5.mono HBe4.out.size)⟩
              · obtain ⟨k', rfl⟩ : ∃ k', i = k' + 1 := ⟨i - 1, by omega⟩
                have e14 : (((k' + 1 : Nat)) : Int) - 1 = (k' : Int) := by omega
                rw [e14]
                obtain ⟨b, of, hAe, hbl, k, v, hk, c0, c1⟩ := hE.at_ (show k' < j by omega)
                subst hAe
                obtain ⟨q1, q2, q3⟩ := own1_drop HO1.out hk
                have hjj : (0 : Int) ≤ (k' : Int) := by omega
                have hjb : (0 : Int) ≤ (k' : Int) ∧ (k' : Int) < (j : Int) := by omega
                have hTd := hC.tr.kept (F := fun _ => False) (kept_drew (Kept.refl _ _)) (fun _ _ x => x)
                have hel : eb.length ≤ 150 := by rw [hpm.length_eq, List.length_drop]; have := HM.out; omega
                have P0 := put_pair (key := k) (val := v) hTd hTwo.swap (by omega) hel hea q1 (fun e he => q2 e (hpm.mem_iff.1 he))
                rw [hC.g, ← HGp.out] at P0
                have P := Lib.hid P0
                have b3 : wr.cell? ⟨gw, 3, none⟩ = some (.pointer (some ⟨gp, 0, none⟩)) := by rw [HGp.out]; exact hBw.cell 3
                have HQ3 := Lib.hid q3
                have HC := Lib.hid hC
                have HPm := Lib.hid hpm
                have HX : Hid (¬ p'.foot gw ∧ ¬ p'.foot b ∧ gw < wr.heap.size ∧ b < wr.heap.size) := Lib.hid ⟨hgf2, hob2 b rfl, hBw.lt, hbl⟩
                have HJ := Lib.hid hj
                clear hE hBw hgf2 hob2 hk q1 q2 q3 hTd hel P0 hC hTwo hpm hbl e14 hi0 hea hj
                go_upto_region 24 with fail
                go_region_held3 (fun w' => w'.cell? ⟨gw, 3, none⟩ = some (.pointer (some ⟨gp, 0, none⟩)) ∧ w'.cell? ⟨b, of + k' * 2, none⟩ = some (.string k) ∧ w'.cell? ⟨b, of + k' * 2 + 1, none⟩ = some (.string v))
                  (first | (exact ⟨b3, c0, c1⟩) | (exact ⟨e3, e0, e1⟩) | (exact hHeld))
                  (first
                    | ((with_reducible refine Calls.mono P.out ?_); rintro e w9 ⟨r9, p9, T9, eb9, rfl, hc9, ht9, hp9⟩
                       have e3 : w9.cell? ⟨gw, 3, none⟩ = some (.pointer (some ⟨gp, 0, none⟩)) := (World.cell?_of_block (a := ⟨gw, 3, none⟩) (hc9.K.block gw HX.out.2.2.1 HX.out.1)).trans b3
                       have e0 : w9.cell? ⟨b, of + k' * 2, none⟩ = some (.string k) := (World.cell?_of_block (a := ⟨b, of + k' * 2, none⟩) (hc9.K.block b HX.out.2.2.2 HX.out.2.1)).trans c0
                       have e1 : w9.cell? ⟨b, of + k' * 2 + 1, none⟩ = some (.string v) := (World.cell?_of_block (a := ⟨b, of + k' * 2 + 1, none⟩) (hc9.K.block b HX.out.2.2.2 HX.out.2.1)).trans c1))
                rename_i hH
                have HC9 := Lib.hid ((HC.out.kept (F := fun _ => False) (kept_drew (Kept.refl _ _)) (fun _ x => x.elim)).trans hc9)
                have hp10 : eb9.Perm (o.drop k') := by rw [HQ3.out]; exact hp9.trans (HPm.out.cons _)
                have HP10 := Lib.hid hp10
                have HT9 := Lib.hid ht9.swap
                clear hH e3 e0 e1 b3 c0 c1 hc9 ht9 hp9 hp10 P HX HC HPm HQ3
                go_wp2
                go_roundw
                case rel => exact ⟨k', r9, p9, T9, eb9, by have := HJ.out; omega, by go_num, rfl, HC9.out, HT9.out, HP10.out⟩
                case measure => first | (simp [intOf]; done) | (simp [intOf]; omega)
end Go.Proofs.Ytdakohbfibcjeaa
