/- The statement CacheForgets: its walk. No condition. -/
import Derived.Test.YtjndopmjlbhajaaCaL
namespace Go.Proofs.Ytjndopmjlbhajaa
open Go.RowKit Go.Maps
set_option linter.unusedSimpArgs false
set_option linter.unusedVariables false

theorem put_code {t : Dsk} {s : Ca} (h52 : 52 < t.n) {kd : Int} {l : List UInt8} : (putR t s 52 kd l).1 = (if mayB 52 kd l.length then 0 else 1) := by
  unfold putR
  rw [if_pos ⟨by omega, by omega⟩]
  split <;> rfl
theorem put_ca_ok {t : Dsk} {s : Ca} (h : CaOk t.n s) {z kd : Int} {l : List UInt8} : CaOk t.n (putR t s z kd l).2 := by
  unfold putR
  split
  · rename_i h1
    split
    · rename_i h2
      unfold mayB at h2
      exact put_c_ok h (by omega) (by omega) ⟨by show 1 ≤ kd.toNat; omega, by show kd.toNat ≤ 4; omega, h2.2.2⟩
    · exact h
  · exact h
theorem forgot (t : Dsk) (s : Ca) (h52 : 52 < t.n) : getC t (forgetC s 52) 52 = (if (readB t 52).1 = 0 then (0, ⟨(readB t 52).2.1, (readB t 52).2.2⟩, (if (forgetC s 52).dirty 52 then putB (forgetC s 52) 52 ⟨(readB t 52).2.1, (readB t 52).2.2⟩ else askedC (putB (forgetC s 52) 52 ⟨(readB t 52).2.1, (readB t 52).2.2⟩) 52)) else ((readB t 52).1, nilB, forgetC s 52)) := by
  unfold getC
  rw [if_pos ⟨by omega, by omega⟩]
  have e : (forgetC s 52).blocks 52 = none := by
    show (if ((52 : Nat) : Int) = 52 then none else s.blocks 52) = none
    exact if_pos rfl
  rw [show (52 : Int).toNat = 52 from rfl, e]
/-- the cache and the disk ahead of the second put -/
def foS (fl : Bool) (ka : Int) (la : List UInt8) : Dsk × Ca := if fl then flushC (newD 60) (putR (newD 60) (newC 3) 52 ka la).2 else (newD 60, (putR (newD 60) (newC 3) 52 ka la).2)
theorem foS_ok (fl : Bool) (ka : Int) (la : List UInt8) : (foS fl ka la).1.n = 60 ∧ CaOk 60 (foS fl ka la).2 := by
  have h0 : CaOk (newD 60).n (putR (newD 60) (newC 3) 52 ka la).2 := put_ca_ok (t := newD 60) (new_ok ⟨by omega, by omega⟩)
  unfold foS
  cases fl
  · exact ⟨rfl, h0⟩
  · exact ⟨(flushC_ok h0).2.1, (flushC_ok h0).1⟩
theorem foS_no (fl : Bool) (ka : Int) (la : List UInt8) (h : ¬ mayB 52 ka la.length ∨ fl = false) : readB (foS fl ka la).1 52 = (6, 0, []) := by
  unfold foS
  cases fl
  · exact readB_new
  · have hm : ¬ mayB 52 ka la.length := by rcases h with h | h; exact h; cases h
    have e : putR (newD 60) (newC 3) 52 ka la = (1, newC 3) := by
      unfold putR
      rw [if_pos ⟨by omega, by show (52 : Int) < 60; omega⟩, if_neg hm]
    rw [e, if_pos rfl]
    show readB (flushC (newD 60) (newC 3)).1 52 = _
    rw [flush_none (fun m _ => rfl)]
    exact readB_new
theorem foS_yes (ka : Int) (la : List UInt8) (h : mayB 52 ka la.length) : readB (foS true ka la).1 52 = (0, ka.toNat, la) := by
  have e : putR (newD 60) (newC 3) 52 ka la = (0, putC (newC 3) 52 ⟨ka.toNat, la⟩) := by
    unfold putR
    rw [if_pos ⟨by omega, by show (52 : Int) < 60; omega⟩, if_pos h]
    rfl
  unfold foS
  rw [e, if_pos rfl]
  show readB (flushC (newD 60) (putC (newC 3) 52 ⟨ka.toNat, la⟩)).1 52 = _
  rw [flush_one rfl (fun _ => rfl) (by show 52 < 60; omega)]
  unfold readB
  rw [hasD_write rfl]
  unfold mayB at h
  exact gBlk_own (n := 52) (by omega) (by show 1 ≤ ka.toNat; omega) (by show ka.toNat ≤ 4; omega) h.2.2
/-- the document's Put tells the same -/
theorem rput_code {kd : Int} {A : Option Addr} {c lo : Nat} {l : List UInt8} {w : World} (hb : Bs w lo A l.length c l) :
    Calls Try.prog 17 #[.int .i64 52, .agg #[.int .i64 kd, .slice A l.length c]] w fun e w' => ∃ v, e = .returned (.tuple #[v, .int .i64 ((if mayB 52 kd l.length then 0 else 1 : Nat) : Int)]) ∧ Below w.heap.size w w' := by
  by_cases h : mayB 52 kd l.length
  · rw [if_pos h]
    unfold mayB at h
    obtain ⟨k, rfl⟩ : ∃ k : Nat, kd = (k : Int) := ⟨kd.toNat, by omega⟩
    have := rput_ok 52 k hb (by omega) (by omega) (by omega) (by omega)
    push_cast at this
    exact this.mono fun e w' ⟨A', c', h1, _, h3⟩ => ⟨_, h1, h3⟩
  · rw [if_neg h]
    unfold mayB at h
    exact (rput_no 52 kd (by omega)).mono fun e w' ⟨h1, h3⟩ => ⟨_, h1, h3⟩

set_option maxRecDepth 100000 in
set_option maxHeartbeats 8000000 in
theorem forgets_any {ka kb : Int} {fl : Bool} {A B : Option Addr} {ca cb : Nat} {la lb : List UInt8} {w : World} (ha : Bs w 0 A la.length ca la) (hb : Bs w 0 B lb.length cb lb) :
    Calls Try.prog 4 #[.agg #[.int .i64 ka, .slice A la.length ca], .agg #[.int .i64 kb, .slice B lb.length cb], .bool fl] w fun e w' => e = .returned (.bool true) ∧ Below w.heap.size w w' := by
  have HA := Lib.hid ha
  have HBb := Lib.hid hb
  clear ha hb
  go_enter Try.func4, Try.ntmps4
  go_upto_region 1 with fail
  obtain ⟨g3, hg3⟩ : ∃ g, g = w.heap.size := ⟨_, rfl⟩
  obtain ⟨g4, hg4⟩ : ∃ g, g = w.heap.size + 1 := ⟨_, rfl⟩
  have hal : Below w.heap.size w ((w.alloc (.cells #[.int .i64 ka, .slice A la.length ca] 33)).alloc (.cells #[.int .i64 kb, .slice B lb.length cb] 33)) := ((Below.refl _ _).alloc (Nat.le_refl _) _).alloc (by simp) _
  rw [← hg4, ← hg3]
  refine wp_world (fun V => Blk V g3 33 [.int .i64 ka, .slice A la.length ca] ∧ Blk V g4 33 [.int .i64 kb, .slice B lb.length cb] ∧ Bs V 0 A la.length ca la ∧ Bs V 0 B lb.length cb lb ∧ Below w.heap.size w V) ⟨by rw [hg3]; exact (Blk.new w 33 [.int .i64 ka, .slice A la.length ca]).alloc _, Blk.new_at (cs := [.int .i64 kb, .slice B lb.length cb]) (by rw [hg4]; simp), HA.out.below hal (Nat.le_refl _), HBb.out.below hal (Nat.le_refl _), hal⟩ ?_
  clear hal hg3 hg4 HA HBb
  rintro V ⟨b3, b4, ba, bb, hV⟩
  have D0 := dnew_ok 60 (by omega) V
  push_cast at D0
  have D := Lib.hid D0
  have H3 := Lib.hid b3
  have H4 := Lib.hid b4
  have HA := Lib.hid ba
  have HBb := Lib.hid bb
  have HV := Lib.hid hV
  clear D0 b3 b4 ba bb hV
  go_upto_region 4 with ((with_reducible refine Calls.mono D.out ?_); rintro e w1 ⟨d, rfl, hd1, hb1⟩)
  have N0 := cnew_ok hd1 hb1.size (room := 3) (by omega) (by omega)
  push_cast at N0
  have N := Lib.hid N0
  have HB1 := Lib.hid hb1
  clear N0 hd1 hb1 D
  go_upto_region 7 with ((with_reducible refine Calls.mono N.out ?_); rintro e w2 ⟨k, rfl, hcd2, hb2⟩)
  obtain ⟨VS, hVS⟩ : ∃ n, n = V.heap.size := ⟨_, rfl⟩
  have hB2 := HB1.out.trans (hb2.mono HB1.out.size)
  have HB2 := Lib.hid hB2
  have hoA : ∀ b, 0 < la.length → ablk A = some b → b < VS := fun b hm e => by
    obtain ⟨b', o, e2, _, h4⟩ := HA.out.at_ hm
    rw [e2] at e; injection e with e; have e : b' = b := e
    rw [← e, hVS]; exact h4
  have hoB : ∀ b, 0 < lb.length → ablk B = some b → b < VS := fun b hm e => by
    obtain ⟨b', o, e2, _, h4⟩ := HBb.out.at_ hm
    rw [e2] at e; injection e with e; have e : b' = b := e
    rw [← e, hVS]; exact h4
  have P0 := put_any_c hcd2 (new_ok ⟨by omega, by omega⟩) (z := 52) (kd := ka) ⟨by omega, by omega⟩ (HA.out.below hB2 (Nat.le_refl _)) (fun hm b e y => by
    have h1 := hoA b hm e
    have h2 := (hcd2.foot_base b (hard_foot y)).1
    omega)
  have P := Lib.hid P0
  obtain ⟨kg, hkg⟩ : ∃ z, z = k.g := ⟨_, rfl⟩
  obtain ⟨r1, hr1⟩ : ∃ r, r = putR (newD 60) (newC 3) 52 ka la := ⟨_, rfl⟩
  rw [← hkg, ← hr1] at P
  rw [← hkg]
  have x3 := (H3.out.below hB2 H3.out.lt).cells
  have HKg := Lib.hid hkg
  have HR1 := Lib.hid hr1
  have HVS := Lib.hid hVS
  have HoA := Lib.hid hoA
  have HoB := Lib.hid hoB
  have HCd2 := Lib.hid hcd2
  clear P0 hkg hr1 hcd2 hb2 hB2 hVS hoA hoB N HB1
  go_upto_region 8 with ((with_reducible refine Calls.mono P.out ?_); rintro e w3 hP; obtain ⟨rfl, k3, hc3⟩ := hP)
  have hB3 := HB2.out.trans (hc3.bel HCd2.out)
  have hk3 : kg = k3.g := by rw [HKg.out]; exact hc3.gk.symm
  have ht3 : CaOk (newD 60).n r1.2 := by rw [HR1.out]; exact put_ca_ok (t := newD 60) (new_ok ⟨by omega, by omega⟩)
  have F0 := flush_any_c hc3.cd ht3 (fun j hj => by show 0 < _; omega)
  rw [← hk3] at F0
  have F := Lib.hid F0
  have HC3 := Lib.hid hc3.cd
  have HB3 := Lib.hid hB3
  have HK3 := Lib.hid hk3
  clear F0 hc3 hB3 hk3 ht3 P x3 HCd2 HB2
  have hts : foS fl ka la = if fl then flushC (newD 60) r1.2 else (newD 60, r1.2) := by unfold foS; rw [HR1.out]
  have hfo := foS_ok fl ka la
  have hno := foS_no fl ka la
  have hye := foS_yes ka la
  obtain ⟨T, hT⟩ : ∃ T, T = foS fl ka la := ⟨_, rfl⟩
  rw [← hT] at hts hfo hno
  have HTs := Lib.hid hts
  have HFo := Lib.hid hfo
  have HNo := Lib.hid hno
  have HYe := Lib.hid hye
  have HT := Lib.hid hT
  clear hts hfo hno hye hT
  go_upto_if 42 with (fail)
  go_cut [] (fun wx => ∃ (d4 : Dw) (k4 : Cw), CD wx V.heap.size d4 k4 T.1 T.2 ∧ kg = k4.g ∧ Below V.heap.size V wx)
  case first =>
    cases fl
    · go_wp2
      go_meet
      have e : T = (newD 60, r1.2) := HTs.out
      rw [e]
      exact ⟨d, k3, HC3.out, HK3.out, HB3.out⟩
    · go_wp2_with ((with_reducible refine Calls.mono F.out ?_); rintro e w5 ⟨rfl, d5, k5, hc5⟩)
      go_meet
      have e : T = flushC (newD 60) r1.2 := HTs.out
      rw [e]
      exact ⟨d5, k5, hc5.cd, by rw [HK3.out]; exact hc5.gk.symm, HB3.out.trans (hc5.bel HC3.out)⟩
  case rest =>
    obtain ⟨d4, k4, hC, hk4, hB⟩ := hcut
    have hTn : T.1.n = 60 := HFo.out.1
    have hTo : CaOk T.1.n T.2 := by rw [hTn]; exact HFo.out.2
    have P0 := put_any_c hC hTo (z := 52) (kd := kb) ⟨by omega, by omega⟩ (HBb.out.below hB (Nat.le_refl _)) (fun hm b e y => by
      have h1 := HoB.out b hm e
      have h2 := (hC.foot_base b (hard_foot y)).1
      have h3 := HVS.out
      omega)
    obtain ⟨r2, hr2⟩ : ∃ r, r = putR T.1 T.2 52 kb lb := ⟨_, rfl⟩
    have hc2 := put_code (t := T.1) (s := T.2) (by omega) (kd := kb) (l := lb)
    have ho2 : CaOk T.1.n r2.2 := by rw [hr2]; exact put_ca_ok hTo
    rw [← hr2] at P0 hc2
    rw [← hk4] at P0
    have P := Lib.hid P0
    have x4 := (H4.out.below hB H4.out.lt).cells
    have HTn := Lib.hid hTn
    have HC2 := Lib.hid hc2
    have HO2 := Lib.hid ho2
    have HK4 := Lib.hid hk4
    have HC := Lib.hid hC
    have HB := Lib.hid hB
    clear P0 hr2 hTn hTo hc2 ho2 hk4 hC hB HC3 HB3 HK3 HTs F HKg
    go_upto_region 11 with ((with_reducible refine Calls.mono P.out ?_); rintro e w5 hP; obtain ⟨rfl, k5, hc5⟩ := hP)
    have F0 := forget_any hc5.cd (z := 52) ⟨by omega, by omega⟩
    rw [hc5.gk, ← HK4.out] at F0
    have F := Lib.hid F0
    have HC5 := Lib.hid hc5
    clear F0 hc5 P x4
    go_upto_region 12 with ((with_reducible refine Calls.mono F.out ?_); rintro e w6 ⟨rfl, k6, hc6⟩)
    have G0 := get_any_c hc6.cd (forget_ok HO2.out 52) (z := 52)
    rw [hc6.gk, HC5.out.gk, ← HK4.out] at G0
    have hB6 := HB.out.trans ((HC5.out.bel HC.out).trans (hc6.bel HC5.out.cd))
    obtain ⟨r3, hr3⟩ : ∃ r, r = getC T.1 (forgetC r2.2 52) 52 := ⟨_, rfl⟩
    have hfg := forgot T.1 r2.2 (by rw [HTn.out]; omega)
    rw [← hr3] at G0 hfg
    have G := Lib.hid G0
    have HFg := Lib.hid hfg
    have HC6 := Lib.hid hc6.cd
    have HB6 := Lib.hid hB6
    clear G0 hr3 hfg hc6 hB6 F HC5 HC HB
    obtain ⟨c3, hc3⟩ : ∃ z, z = r3.1 := ⟨_, rfl⟩
    obtain ⟨x3, hx3⟩ : ∃ z, z = r3.2.1 := ⟨_, rfl⟩
    have HC3 := Lib.hid hc3
    have HX3 := Lib.hid hx3
    clear hc3 hx3
    go_upto_region 13 with ((with_reducible refine Calls.mono G.out ?_); rintro e w7 hG; obtain ⟨k7, A7, c7, he, hc7, ho7, hf7⟩ := hG; rw [← HC3.out, ← HX3.out] at he; rw [← HX3.out] at ho7; subst he)
    have hal : Below w7.heap.size w7 (w7.alloc (.cells #[.int .i64 (x3.k : Int), .slice A7 x3.b.length c7] 33)) := (Below.refl _ _).alloc (Nat.le_refl _) _
    have hB7 := HB6.out.trans (hc7.bel HC6.out)
    have hB8 := hB7.trans (hal.mono hB7.size)
    have l3 := H3.out.lt
    have l4 := H4.out.lt
    refine wp_world (fun U => Blk U g3 33 [.int .i64 ka, .slice A la.length ca] ∧ Blk U g4 33 [.int .i64 kb, .slice B lb.length cb] ∧ Blk U w7.heap.size 33 [.int .i64 (x3.k : Int), .slice A7 x3.b.length c7] ∧ Bs U 0 A la.length ca la ∧ Bs U 0 B lb.length cb lb ∧ Bs U 0 A7 x3.b.length c7 x3.b ∧ Below w.heap.size w U)
      ⟨H3.out.below hB8 l3, H4.out.below hB8 l4, Blk.new _ _ _, HA.out.below hB8 (Nat.le_refl _), HBb.out.below hB8 (Nat.le_refl _), ((own_bs ho7).below hal (Nat.le_refl _)).weak (Nat.zero_le _), HV.out.trans (hB8.mono HV.out.size)⟩ ?_
    generalize w7.heap.size = g13
    clear hal hB7 hB8 l3 l4 hc7 ho7 hf7 HB6 HC6 G HoA HoB HVS H3 H4 HA HBb HV HK4
    rintro U ⟨b3, b4, b13, ba, bb, bz, hU⟩
    have LV0 := fun W (hb : Below U.heap.size U W) => lives13_any W
    have HLv := Lib.hid LV0
    have y3 := b3.cells
    have y4 := b4.cells
    have y13 := b13.cells
    have HU := Lib.hid hU
    have HBa := Lib.hid ba
    have HBb := Lib.hid bb
    have HBz := Lib.hid bz
    clear b3 b4 b13 ba bb bz hU LV0
    have hr1 := put_code (t := newD 60) (s := newC 3) (by show 52 < 60; omega) (kd := ka) (l := la)
    rw [← HR1.out] at hr1
    obtain ⟨c1, hc1⟩ : ∃ z, z = r1.1 := ⟨_, rfl⟩
    rw [← hc1] at hr1 ⊢
    obtain ⟨c2, hc2⟩ : ∃ z, z = r2.1 := ⟨_, rfl⟩
    rw [← hc2]
    have hc2e := HC2.out
    rw [← hc2] at hc2e
    have RP0 := rput_code (kd := kb) HBb.out
    rw [← hc2e] at RP0
    have RP := Lib.hid RP0
    clear hc1 hc2 hc2e RP0
    by_cases hgo : mayB 52 ka la.length ∧ fl = true
    rotate_left
    · have hno := HNo.out (by
        by_cases hm : mayB 52 ka la.length
        · cases fl
          · exact .inr rfl
          · exact absurd ⟨hm, rfl⟩ hgo
        · exact .inl hm)
      have h3 : c3 = 6 := by rw [HC3.out, HFg.out, hno]; rfl
      subst h3
      have hct : (c1 = 0 ∧ fl = false) ∨ c1 = 1 := by
        by_cases hm : mayB 52 ka la.length
        · rw [if_pos hm] at hr1
          cases fl
          · exact .inl ⟨hr1, rfl⟩
          · exact absurd ⟨hm, rfl⟩ hgo
        · rw [if_neg hm] at hr1; exact .inr hr1
      clear hgo hno hr1 HC3 HX3 HFg HC2 HO2 HTn HNo HYe HT HFo HR1 y13 y3
      rcases hct with ⟨rfl, rfl⟩ | rfl
      all_goals
        go_upto_region 15 with ((with_reducible refine Calls.mono RP.out ?_); rintro e w8 ⟨v8, rfl, hb8⟩)
        have HB8 := Lib.hid hb8
        clear hb8
        go_wp2_with ((with_reducible refine Calls.mono (HLv.out _ HB8.out) ?_); rintro e w9 ⟨rfl, hb9⟩)
        go_ret
        have h8 := HU.out.trans (HB8.out.mono HU.out.size)
        exact ⟨rfl, h8.trans (hb9.mono h8.size)⟩
    · obtain ⟨hm, rfl⟩ := hgo
      rw [if_pos hm] at hr1
      subst hr1
      have hye := HYe.out hm
      rw [← HT.out] at hye
      have hr3 := HFg.out
      rw [hye, if_pos rfl] at hr3
      have h3 : c3 = 0 := by rw [HC3.out, hr3]
      subst h3
      have hx : x3 = ⟨ka.toNat, la⟩ := by rw [HX3.out, hr3]
      have hk : (x3.k : Int) = ka := by rw [hx]; unfold mayB at hm; show ((ka.toNat : Nat) : Int) = ka; omega
      have hb : x3.b = la := by rw [hx]
      have S0 := bsame_any (x3.k : Int) ka HBz.out HBa.out
      rw [decide_eq_true ⟨hk, hb⟩] at S0
      have S := Lib.hid S0
      clear S0 hk hb hx hr3 hye hm HC3 HX3 HFg HC2 HO2 HTn HNo HYe HT HFo HR1 RP y4
      go_upto_region 17 with ((with_reducible refine Calls.mono S.out ?_); rintro e w8 ⟨rfl, hb8⟩)
      have HB8 := Lib.hid hb8
      clear hb8 y3 y13
      go_wp2_with ((with_reducible refine Calls.mono (HLv.out _ HB8.out) ?_); rintro e w9 ⟨rfl, hb9⟩)
      go_ret
      have h8 := HU.out.trans (HB8.out.mono HU.out.size)
      exact ⟨rfl, h8.trans (hb9.mono h8.size)⟩
end Go.Proofs.Ytjndopmjlbhajaa
