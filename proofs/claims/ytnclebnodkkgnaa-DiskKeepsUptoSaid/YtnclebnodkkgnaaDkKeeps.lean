/- The statement DiskKeeps: its walk. Condition: fewer than 2^38 deeds. -/
import Derived.Test.YtnclebnodkkgnaaDkVer
import Derived.Test.YtnclebnodkkgnaaDkElse
namespace Go.Proofs.Ytnclebnodkkgnaa
open Go.RowKit Go.Maps
set_option linter.unusedSimpArgs false
set_option linter.unusedVariables false

theorem wrAt_cut {s : Dsk} (h : s.cut = false) (k m : Nat) (y : List UInt8) : (wrAt s k m y).cut = false := by
  unfold wrAt; split
  · rw [write_new h]; exact h
  · exact h
theorem wrAt_cnt {s : Dsk} {c : Nat} (h : ∀ k, k < 12 → (s.vers k).length ≤ c) (k m : Nat) (y : List UInt8) : ∀ j, j < 12 → ((wrAt s k m y).vers j).length ≤ c + 1 := fun j hj => by
  rcases (wrAt_vers s k j m y).2 with e | ⟨e1, e⟩
  · rw [e]; have := h j hj; omega
  · rw [e, List.length_append, ← e1]; have := h j hj; simp; omega
theorem flush_has {s : Dsk} (h : s.cut = false) : (flushD s).cut = false ∧ (flushD s).n = s.n ∧ ∀ k, k < s.n → (flushD s).vers k = [] ∧ hasD (flushD s) k = (flushD s).lies k := by
  rw [flush_new h]
  exact ⟨h, rfl, fun k hk => ⟨rfl, rfl⟩⟩
theorem write_lists {s : Dsk} (h : s.cut = false) {k : Nat} (y : List UInt8) (j : Nat) : (writeD s k y).lies j :: (writeD s k y).vers j = if j = k then (s.lies k :: s.vers k) ++ [y] else s.lies j :: s.vers j := by
  rw [write_new h]
  show s.lies j :: (if j = k then s.vers k ++ [y] else s.vers j) = _
  by_cases e : j = k
  · subst e; rw [if_pos rfl, if_pos rfl]; rfl
  · rw [if_neg e, if_neg e]
theorem power_mem (s : Dsk) (ps : List Int) {k : Nat} (hk : k < s.n) : hasD (powerD s ps) k ∈ s.lies k :: s.vers k := by
  obtain ⟨h1, h2⟩ := (power_all s ps).2.2 k hk
  rw [hasD_flat h1]
  rcases h2 with e | e
  · rw [e]; exact List.mem_cons_self
  · exact List.mem_cons_of_mem _ e
theorem zeroVer (w : World) : (zeroValue 50).run Try.prog w = .ok (.agg ((List.range 12).map fun _ => Value.slice none 0 0).toArray) w := by kernel_rfl
theorem mem_take_succ (z : List UInt8) (l : List (List UInt8)) (q : Nat) (h : q < l.length) : decide (z ∈ l.take (q + 1)) = (decide (z ∈ l.take q) || decide (z = l[q])) := by
  rw [← Bool.decide_or]
  refine decide_eq_decide.2 ?_
  rw [List.take_succ_eq_append_getElem h, List.mem_append, List.mem_singleton]
theorem dirtyL_power (s : Dsk) (ps : List Int) : dirtyL (powerD s ps) = [] := by
  rw [List.eq_nil_iff_forall_not_mem]
  intro k hk
  obtain ⟨h1, h2⟩ := mem_dirty.1 hk
  exact h2 ((power_all s ps).2.2 k (by rw [← (power_all s ps).1]; exact h1)).1

set_option maxRecDepth 100000 in
set_option maxHeartbeats 8000000 in
theorem dkeeps_any {A A2 A3 : Option Addr} {n c m2 c2 m3 c3 : Nat} {f f2 : Nat → D8} {ps : List Int} {w : World} (hd : D8s w A n f) (hn : n ≤ 1048576) (hd2 : D8s w A2 m2 f2) (hn2 : m2 ≤ 1048576) (hp : Rd w 0 A3 (iz ps)) (hpl : ps.length = m3) (hpm : m3 ≤ 17592186044416) :
    Calls Try.prog 5 #[.slice A n c, .slice A2 m2 c2, .slice A3 m3 c3] w fun e w' => e = .returned (.bool true) ∧ Below w.heap.size w w' := by
  have D0 := dnew_ok 12 (by omega) w
  push_cast at D0
  have D := Lib.hid D0
  have HDs := Lib.hid hd
  have HDs2 := Lib.hid hd2
  have HPs := Lib.hid hp
  have HPl := Lib.hid hpl
  have HPm := Lib.hid hpm
  clear D0 hd hd2 hp hpl hpm
  go_enter Try.func5, Try.ntmps5
  go_upto_region 3 with ((with_reducible refine Calls.mono D.out ?_); rintro e w1 ⟨d0, rfl, hd1, hb1⟩)
  obtain ⟨gd, hgd⟩ : ∃ gd, gd = d0.g := ⟨_, rfl⟩
  rw [← hgd]
  have HGd := Lib.hid hgd
  have HD := Lib.hid hd1
  have HB := Lib.hid hb1
  clear hd1 hb1 D hgd
  go_wp2
  go_loopw [9] (fun s9 wr => ∃ (i : Nat) (d : Dw) (s : Dsk), i ≤ n ∧ s9 = .int .i64 i ∧ Dk wr w.heap.size d s ∧ d.g = gd ∧ s.n = 12 ∧ s.cut = false ∧ (∀ k, k < 12 → (s.vers k).length ≤ i) ∧ Below w.heap.size w wr) (fun s9 _ => n - (intOf s9).toNat)
  case atStart => exact ⟨0, d0, _, by omega, rfl, HD.out, HGd.out.symm, rfl, rfl, fun _ _ => Nat.le_refl _, HB.out⟩
  case round =>
    clear HD HB
    obtain ⟨i, d, s, hi, rfl, hD, hg, hsn, hsc, hcn, hB⟩ := hrel
    have HD := Lib.hid hD
    have HG := Lib.hid hg
    have HSn := Lib.hid hsn
    have HSc := Lib.hid hsc
    have HCn := Lib.hid hcn
    have HB := Lib.hid hB
    clear hD hg hsn hsc hcn hB
    by_cases hlt : i < n
    · obtain ⟨b, o, rfl, _, hbl, hrg⟩ := rd_elem (k := 6) HDs.out.rd (fun _ _ => rfl) (by omega) hlt
      have hok := HDs.out.ok i hlt
      obtain ⟨x, hx⟩ : ∃ x, x = f i := ⟨_, rfl⟩
      rw [← hx] at hrg hok
      have hrw := range_kept hrg (HB.out.block b hbl)
      have P0 := fun W => pick8_any x.at_ hok.a (n := 12) (by omega) (by omega) W
      have hk12 := pickN_lt x.at_ (n := 12) (by omega)
      obtain ⟨k, hk⟩ : ∃ k, k = pickN x.at_ 12 := ⟨_, rfl⟩
      rw [← hk] at P0 hk12
      push_cast at P0
      have P := Lib.hid P0
      have B0 : ∀ W, Calls Try.prog 29 #[.agg (d8c x).toArray] W _ := fun W => bytes8_any x.K x.at_ x.fl x.la x.sh x.pA x.pn x.pc hok.a W
      obtain ⟨m, hm⟩ : ∃ m, m = deedN x.at_ x.sh := ⟨_, rfl⟩
      obtain ⟨y, hy⟩ : ∃ y, y = deedB x.at_ x.fl x.la x.sh := ⟨_, rfl⟩
      have hyl : y.length = m := by rw [hy, hm]; exact deedB_len _ _ _ _
      have hm300 : m ≤ 300 := by rw [hm]; exact deedN_le _ _
      rw [← hm, ← hy] at B0
      have B := Lib.hid B0
      have HYl := Lib.hid hyl
      have HX := Lib.hid hrw
      have HBl := Lib.hid hbl
      clear P0 B0 hk hm hy hx hrg hrw hok hyl
      go_upto_region 7 with fail
      have hS0 : ∀ (W : World), W.rangeAt b (o + i * 6) (d8c x) → W.cell? ⟨b, o + i * 6 + 1, none⟩ = some (.int .i64 x.at_) ∧ W.rangeAt b (o + i * 6) (d8c x) := fun W h => ⟨h 1 _ rfl, h⟩
      have HS0 := Lib.hid hS0
      have HXd : Hid (wr.drew.rangeAt b (o + i * 6) (d8c x)) := HX
      have HDd := Lib.hid (HD.out.below ((Below.refl wr.heap.size wr).drew) (Nat.le_refl _))
      have HBd : Hid (Below w.heap.size w wr.drew) := Lib.hid (below_drewN HB.out 1)
      clear hS0
      refine wp_region_last (S := fun w' => w'.cell? ⟨b, o + i * 6 + 1, none⟩ = some (.int .i64 x.at_) ∧ w'.rangeAt b (o + i * 6) (d8c x)) 12 (by kernel_rfl) rfl (by kernel_rfl) ?_ ?_
      · exact HS0.out _ HXd.out
      intro hHeld
      simp only [List.take_succ_cons, List.take_zero]
      refine wpAnyH_take (i := 0) (v := ?_) (by simp only [List.getElem?_toArray, List.getElem?_cons_succ, List.getElem?_cons_zero]; rfl) (by kernel_rfl) (by kernel_rfl) (by kernel_rfl) (fun _ _ _ h => h) (Or.inl ⟨by rfl, ?_⟩) hHeld ?_
      rotate_left
      · intro wz hSw; (try dsimp only at hSw); go_simp; try with_reducible rfl
      (try simp only [Act.put, List.setIfInBounds_toArray, List.set_cons_zero, List.set_cons_succ])
      refine wpAnyH_take (i := 1) (v := ?_) (by simp only [List.getElem?_toArray, List.getElem?_cons_succ, List.getElem?_cons_zero]; rfl) (by kernel_rfl) (by kernel_rfl) (by kernel_rfl) (fun _ _ _ h => h) (Or.inl ⟨by rfl, ?_⟩) hHeld ?_
      rotate_left
      · intro wz hSw; (try dsimp only at hSw); go_simp; try with_reducible rfl
      (try simp only [Act.put, List.setIfInBounds_toArray, List.set_cons_zero, List.set_cons_succ])
      refine wpAnyH_take (i := 2) (v := ?_) (by simp only [List.getElem?_toArray, List.getElem?_cons_succ, List.getElem?_cons_zero]; rfl) (by kernel_rfl) (by kernel_rfl) (by kernel_rfl) (fun _ _ _ h => h) (Or.inl ⟨by rfl, ?_⟩) hHeld ?_
      rotate_left
      · intro wz hSw; (try dsimp only at hSw); go_simp; try with_reducible rfl
      (try simp only [Act.put, List.setIfInBounds_toArray, List.set_cons_zero, List.set_cons_succ])
      refine wpAnyH_take (i := 3) (v := ?_) (by simp only [List.getElem?_toArray, List.getElem?_cons_succ, List.getElem?_cons_zero]; rfl) (by kernel_rfl) (by kernel_rfl) (by kernel_rfl) (fun _ _ _ h => h) (Or.inl ⟨by rfl, ?_⟩) hHeld ?_
      rotate_left
      · intro wz hSw; (try dsimp only at hSw); go_simp; try with_reducible rfl
      (try simp only [Act.put, List.setIfInBounds_toArray, List.set_cons_zero, List.set_cons_succ])
      refine wpAnyH_take (i := 4) (v := ?_) (by simp only [List.getElem?_toArray, List.getElem?_cons_succ, List.getElem?_cons_zero]; rfl) (by kernel_rfl) (by kernel_rfl) (by kernel_rfl) (fun _ _ _ h => h) (Or.inl ⟨by rfl, ?_⟩) hHeld ?_
      rotate_left
      · intro wz hSw; (try dsimp only at hSw); go_simp; try with_reducible rfl
      (try simp only [Act.put, List.setIfInBounds_toArray, List.set_cons_zero, List.set_cons_succ])
      refine wpAnyH_take (i := 5) (v := ?_) (by simp only [List.getElem?_toArray, List.getElem?_cons_succ, List.getElem?_cons_zero]; rfl) (by kernel_rfl) (by kernel_rfl) (by kernel_rfl) (fun _ _ _ h => h) (Or.inl ⟨by rfl, ?_⟩) hHeld ?_
      rotate_left
      · intro wz hSw; (try dsimp only at hSw); go_simp; try with_reducible rfl
      (try simp only [Act.put, List.setIfInBounds_toArray, List.set_cons_zero, List.set_cons_succ])
      refine wpAnyH_take (i := 7) (v := ?_) (by simp only [List.getElem?_toArray, List.getElem?_cons_succ, List.getElem?_cons_zero]; rfl) (by kernel_rfl) (by kernel_rfl) (by kernel_rfl) (fun _ _ _ h => h) (Or.inl ⟨by rfl, ?_⟩) hHeld ?_
      rotate_left
      · intro wz hSw; (try dsimp only at hSw); go_simp; try with_reducible rfl
      (try simp only [Act.put, List.setIfInBounds_toArray, List.set_cons_zero, List.set_cons_succ])
      refine wpAnyH_take (i := 8) (v := ?_) (by simp only [List.getElem?_toArray, List.getElem?_cons_succ, List.getElem?_cons_zero]; rfl) (by kernel_rfl) (by kernel_rfl) (by kernel_rfl) (fun _ _ _ h => h) (Or.inl ⟨by rfl, ?_⟩) hHeld ?_
      rotate_left
      · intro wz hSw; (try dsimp only at hSw); go_simp; try with_reducible rfl
      (try simp only [Act.put, List.setIfInBounds_toArray, List.set_cons_zero, List.set_cons_succ])
      refine wpAnyH_take (i := 9) (v := ?_) (by simp only [List.getElem?_toArray, List.getElem?_cons_succ, List.getElem?_cons_zero]; rfl) (by kernel_rfl) (by kernel_rfl) (by kernel_rfl) (fun _ _ _ h => h) (Or.inl ⟨by rfl, ?_⟩) hHeld ?_
      rotate_left
      · intro wz hSw; (try dsimp only at hSw); go_simp; try with_reducible rfl
      (try simp only [Act.put, List.setIfInBounds_toArray, List.set_cons_zero, List.set_cons_succ])
      refine wpAnyH_take (i := 10) (v := .agg (d8c x).toArray) (by simp only [List.getElem?_toArray, List.getElem?_cons_succ, List.getElem?_cons_zero]; rfl) (by kernel_rfl) (by kernel_rfl) (by kernel_rfl) (fun _ _ _ h => h) (yieldsIf_load_mid (by rfl) 48 (.tmp 48) rfl b (o + i * 6) (by first | rfl | (go_simp; rfl)) (d8c x) _ (fun _ hS => hS.2) Try.underlying48 rfl (by rw [sizeDeed]; rfl)) hHeld ?_
      (try simp only [Act.put, List.setIfInBounds_toArray, List.set_cons_zero, List.set_cons_succ])
      refine wpAnyH_ready (rs := [6]) (by kernel_rfl) (by simp) ?_
      refine AllReadyH.cons (by simp only [List.getElem?_toArray, List.getElem?_cons_succ, List.getElem?_cons_zero]; rfl) (fun KK hK => ?_) AllReadyH.nil
      go_simp; ((with_reducible refine Calls.mono (P.out _) ?_); rintro e wa ⟨rfl, rfl⟩); go_wp2_with fail
      refine hK.out _ _ ?_ (fun hHeld => ?_)
      · exact HS0.out _ HXd.out
      clear hK KK
      (try simp only [Act.put, List.setIfInBounds_toArray, List.set_cons_zero, List.set_cons_succ])
      refine wpAnyH_ready (rs := [11]) (by kernel_rfl) (by simp) ?_
      refine AllReadyH.cons (by simp only [List.getElem?_toArray, List.getElem?_cons_succ, List.getElem?_cons_zero]; rfl) (fun KK hK => ?_) AllReadyH.nil
      go_simp; ((with_reducible refine Calls.mono (B.out _) ?_); rintro e w5 ⟨g5, rfl, hx5, hg5, hb5⟩); go_wp2_with fail
      refine hK.out _ _ ?_ (fun hHeld => ?_)
      · exact HS0.out _ (range_kept HXd.out (hb5.block b (Nat.lt_of_lt_of_le HBl.out HB.out.size)))
      clear hK KK
      (try simp only [Act.put, List.setIfInBounds_toArray, List.set_cons_zero, List.set_cons_succ])
      have hD5 := HDd.out.below hb5 (Nat.le_refl _)
      have hB5 := HBd.out.trans (hb5.mono HB.out.size)
      have hf5 : ¬ d.foot g5 := fun z => by have := (HDd.out.foot_base _ z).2; exact absurd hg5 (by omega)
      have W0 := d_write_at hD5 (k := k) (by rw [HSn.out]; exact hk12) (by have := HCn.out k hk12; omega) hx5 HYl.out (by omega) hf5
      rw [HG.out] at W0
      have W := Lib.hid W0
      have HD5 := Lib.hid hD5
      have HB5 := Lib.hid hB5
      clear W0 hD5 hB5 hf5 hb5 hx5 hg5 hHeld HDd HBd HXd B P HX HS0 HD HB
      refine wpAnyH_done (by kernel_rfl) ?_ _
      simp only [lastQ]
      go_wp2_with ((with_reducible refine Calls.mono W.out ?_); rintro e w6 ⟨rfl, d6, hc6⟩)
      have HD6 := Lib.hid hc6.dk
      have HB6 := Lib.hid (HB5.out.trans (hc6.bel HD5.out))
      have HG6 := Lib.hid (hc6.g.trans HG.out)
      clear hc6 W HD5 HB5
      go_roundw
      case rel => exact ⟨i + 1, d6, _, by omega, by norm_cast, HD6.out, HG6.out, by rw [wrAt_n]; exact HSn.out, wrAt_cut HSc.out _ _ _, wrAt_cnt HCn.out _ _ _, HB6.out⟩
      case measure => simp only [intOf]; omega
    · obtain rfl : i = n := by omega
      clear hlt
      have F0 : Calls Try.prog 18 #[.pointer (some ⟨d.g, 0, none⟩)] wr fun e w' => e = .returned (.tuple #[]) ∧ ∃ d', Ch wr w' w.heap.size d d' (flushD s) := (dflush_any HD.out).mono fun e w' ⟨a, b⟩ => ⟨a, Ch.of b⟩
      rw [HG.out] at F0
      obtain ⟨S, hS⟩ : ∃ S, S = flushD s := ⟨_, rfl⟩
      obtain ⟨f1, f2, f3⟩ := flush_has HSc.out
      rw [← hS] at F0 f1 f2 f3
      rw [HSn.out] at f2 f3
      have F := Lib.hid F0
      have HSn2 := Lib.hid f2
      have HSc2 := Lib.hid f1
      have HSv2 : Hid (∀ k, k < 12 → S.vers k = []) := Lib.hid fun k hk => (f3 k hk).1
      have HSh2 : Hid (∀ k, k < 12 → hasD S k = S.lies k) := Lib.hid fun k hk => (f3 k hk).2
      clear F0 hS f1 f2 f3
      go_upto_region 9 with ((with_reducible refine Calls.mono F.out ?_); rintro e w1 ⟨rfl, d1, hc1⟩)
      have hg1 : d1.g = gd := hc1.g.trans HG.out
      have HG1 := Lib.hid hg1
      have HB1 := Lib.hid (HB.out.trans (hc1.bel HD.out))
      have HD1 := Lib.hid hc1.dk
      clear hc1 hg1 F HD HB HG HSn HSc HCn
      have hz := zeroVer
      have HV0 := Lib.hid (VerI.new (bd := w.heap.size) w1 d1 w.heap.size HD1.out)
      have HB2 := Lib.hid (HB1.out.alloc HB1.out.size (.cells ((List.range 12).map fun _ => Value.slice none 0 0).toArray 50))
      have HD2 := Lib.hid (HD1.out.alloc (.cells ((List.range 12).map fun _ => Value.slice none 0 0).toArray 50))
      have hgl : w.heap.size ≤ w1.heap.size := HB1.out.size
      clear HB1 HD1
      go_upto_region 10 with fail
      refine wp_world (fun U => VerI U d1 w.heap.size w1.heap.size (fun _ => none) (fun _ => 0) (fun _ => []) (fun _ => []) ∧ Dk U w.heap.size d1 S ∧ Below w.heap.size w U) ⟨HV0.out, HD2.out, HB2.out⟩ ?_
      obtain ⟨gV, hgV⟩ : ∃ g, g = w1.heap.size := ⟨_, rfl⟩
      rw [← hgV] at hgl
      rw [← hgV]
      rintro U ⟨hV, hD, hB⟩
      have HV := Lib.hid hV
      have HD := Lib.hid hD
      have HB := Lib.hid hB
      clear hz HV0 HB2 HD2 hgV hV hD hB
      go_wp2
      go_loopw [11, 12, 13] (fun s11 _ _ wr2 => ∃ (j : Nat) (A : Nat → Option Addr) (c : Nat → Nat) (us : Nat → List Value), j ≤ 12 ∧ s11 = .int .i64 j ∧
        VerI wr2 d1 w.heap.size gV A c us (fun k => if k < j then [S.lies k] else []) ∧ Dk wr2 w.heap.size d1 S ∧ Below w.heap.size w wr2) (fun s11 _ _ _ => 12 - (intOf s11).toNat)
      case atStart => exact ⟨0, _, _, _, by omega, rfl, HV.out.congr (fun k _ => by rw [if_neg (by omega)]), HD.out, HB.out⟩
      case round =>
        clear HV HD HB
        rename World => wr2
        obtain ⟨j, AA, cc, us, hj, rfl, hV, hD, hB⟩ := hrel
        have HV := Lib.hid hV
        have HD := Lib.hid hD
        have HB := Lib.hid hB
        clear hV hD hB
        by_cases hlt : j < 12
        · have hjI : (j : Int) < 12 := by omega
          have R0 := dread_ok HD.out (k := j) (by rw [HSn2.out]; exact hlt)
          have hl3 := hasD_len HD.out (k := j) (by rw [HSn2.out]; exact hlt)
          rw [HG1.out, HSh2.out j hlt] at R0
          rw [HSh2.out j hlt] at hl3
          have R := Lib.hid R0
          have HL3 := Lib.hid hl3
          clear R0 hl3
          go_upto_region 14 with ((with_reducible refine Calls.mono R.out ?_); rintro e w3 ⟨g3, rfl, hx3, hg3, hb3⟩)
          obtain ⟨X, hX⟩ : ∃ X : Nat → List (List UInt8), X = fun k => if k < j then [S.lies k] else [] := ⟨_, rfl⟩
          have hV3 := HV.out.below hb3
          rw [← hX] at hV3
          have hXj : X j = [] := by rw [hX]; exact if_neg (by omega)
          have hf3 : ¬ d1.foot g3 := fun y => by have := (HD.out.foot_base _ y).2; omega
          have hc67 := hV3.cell hlt
          have hD3 := HD.out.below hb3 (Nat.le_refl _)
          have hB3 := HB.out.trans (hb3.mono HB.out.size)
          obtain ⟨nn, hnn⟩ : ∃ nn, nn = (X j).length := ⟨_, rfl⟩
          have hnn0 : nn ≤ 1048577 := by rw [hnn, hXj]; show 0 ≤ _; omega
          rw [← hnn] at hc67
          have HN := Lib.hid hnn
          have HX := Lib.hid hX
          have HXj := Lib.hid hXj
          have hb4 := (Below.refl w3.heap.size w3).alloc (Nat.le_refl _) (.cells #[.slice (some ⟨g3, 0, none⟩) 256 256] 33)
          have HV4 := Lib.hid (hV3.below hb4)
          have HD4 := Lib.hid (hD3.below hb4 (Nat.le_refl _))
          have HB4 := Lib.hid (hB3.trans (hb4.mono hB3.size))
          have HX4 : Hid (VerE (w3.alloc (.cells #[.slice (some ⟨g3, 0, none⟩) 256 256] 33)) d1 (.slice (some ⟨g3, 0, none⟩) 256 256) (S.lies j)) := Lib.hid ⟨g3, 93, rfl, hx3.below hb4 hx3.lt, HL3.out, by decide, by decide, hf3⟩
          have hz4 := HB4.out.size
          have ho4 := HV4.out.own j hlt
          rw [← HN.out] at ho4
          have HO4 := Lib.hid ho4
          clear hV3 hf3 hD3 hB3 hb3 hb4 hx3 hg3 R HV HD HB hnn hX hXj ho4
          go_upto_region 12 with (at_builtin; refine wpList_app rfl (.tmp 67) (.tmp 69) 22 rfl 33 1 Try.underlying22 info33h rfl (by omega) rfl HO4.out rfl (rd_one (.slice (some ⟨g3, 0, none⟩) 256 256) 33 rfl) rfl (one_slc _ _ _) (by omega) (by omega) hz4 ?_; intro A5 c5 w5 ho5 hg5 hf5; have hcf5 := HV4.out.after hlt hg5; rw [← HN.out] at hcf5; obtain ⟨hc5, hr5⟩ := hcf5)
          obtain ⟨hV5, -, hD5⟩ := HV4.out.put HD4.out hlt HX4.out (by rw [HN.out]) ho5 hg5 hf5
          have hB5 := (below_own HB4.out HO4.out hg5 (Nat.le_refl _) HB4.out.size).setCell (p := ⟨gV, j, none⟩) (show w.heap.size ≤ gV from hgl) (.slice A5 (nn + 1) c5)
          have hV6 := hV5.congr (xs' := fun k => if k < j + 1 then [S.lies k] else []) (fun k hk => by
            by_cases e : k = j
            · subst e; rw [if_pos rfl, HXj.out, if_pos (by omega)]; rfl
            · rw [if_neg e, HX.out]
              show (if k < j then _ else _) = _
              by_cases e2 : k < j
              · rw [if_pos e2, if_pos (by omega)]
              · rw [if_neg e2, if_neg (by omega)])
          have HV5 := Lib.hid hV6
          have HD5 := Lib.hid hD5
          have HB5 := Lib.hid hB5
          clear hV5 hV6 hD5 hB5 ho5 hg5 hf5 hc5 hr5 HV4 HD4 HX4 HB4 HO4 hz4 hc67
          go_wp2
          go_roundw
          case rel => exact ⟨j + 1, _, _, _, by omega, by norm_cast, HV5.out, HD5.out, HB5.out⟩
          case measure => simp only [intOf]; omega
        · have h12 : (j : Int) = 12 := by omega
          rw [h12]
          obtain rfl : j = 12 := by omega
          clear hlt h12
          have HV0 := Lib.hid (HV.out.congr (xs' := fun k => S.lies k :: S.vers k) (fun k hk => by rw [if_pos hk, HSv2.out k hk]))
          clear HV
          go_wp2
          go_loopw [14, 15, 16] (fun s14 _ _ wr3 => ∃ (q : Nat) (d : Dw) (s : Dsk) (A : Nat → Option Addr) (c : Nat → Nat) (us : Nat → List Value), q ≤ m2 ∧ s14 = .int .i64 q ∧
            VerI wr3 d w.heap.size gV A c us (fun k => s.lies k :: s.vers k) ∧ Dk wr3 w.heap.size d s ∧ d.g = gd ∧ s.n = 12 ∧ s.cut = false ∧ (∀ k, k < 12 → (s.vers k).length ≤ q) ∧ Below w.heap.size w wr3) (fun s14 _ _ _ => m2 - (intOf s14).toNat)
          case atStart => exact ⟨0, d1, S, _, _, _, by omega, rfl, HV0.out, HD.out, HG1.out, HSn2.out, HSc2.out, fun k hk => by rw [HSv2.out k hk]; exact Nat.le_refl _, HB.out⟩
          case round =>
            clear HV0 HD HB
            rename World => wr3
            obtain ⟨q, d, s, AA, cc, us, hq, rfl, hV, hD, hg, hsn, hsc, hcn, hB⟩ := hrel
            have HV := Lib.hid hV
            have HD := Lib.hid hD
            have HG := Lib.hid hg
            have HSn := Lib.hid hsn
            have HSc := Lib.hid hsc
            have HCn := Lib.hid hcn
            have HB := Lib.hid hB
            clear hV hD hg hsn hsc hcn hB
            by_cases hlt : q < m2
            · obtain ⟨b, o, rfl, _, hbl, hrg⟩ := rd_elem (k := 6) HDs2.out.rd (fun _ _ => rfl) (by omega) hlt
              have hok := HDs2.out.ok q hlt
              obtain ⟨x, hx⟩ : ∃ x, x = f2 q := ⟨_, rfl⟩
              rw [← hx] at hrg hok
              have hrw := range_kept hrg (HB.out.block b hbl)
              have hca : wr3.cell? ⟨b, o + q * 6 + 1, none⟩ = some (.int .i64 x.at_) := hrw 1 _ rfl
              have P0 := pick8_any x.at_ hok.a (n := 12) (by omega) (by omega) wr3
              have hk12 := pickN_lt x.at_ (n := 12) (by omega)
              obtain ⟨k, hk⟩ : ∃ k, k = pickN x.at_ 12 := ⟨_, rfl⟩
              rw [← hk] at P0 hk12
              push_cast at P0
              have P := Lib.hid P0
              have B0 : Calls Try.prog 29 #[.agg (d8c x).toArray] wr3 _ := bytes8_any x.K x.at_ x.fl x.la x.sh x.pA x.pn x.pc hok.a wr3
              obtain ⟨m, hm⟩ : ∃ m, m = deedN x.at_ x.sh := ⟨_, rfl⟩
              obtain ⟨y, hy⟩ : ∃ y, y = deedB x.at_ x.fl x.la x.sh := ⟨_, rfl⟩
              have hyl : y.length = m := by rw [hy, hm]; exact deedB_len _ _ _ _
              have hm300 : m ≤ 300 := by rw [hm]; exact deedN_le _ _
              rw [← hm, ← hy] at B0
              have B := Lib.hid B0
              have HYl := Lib.hid hyl
              have HRg := Lib.hid hrw
              clear P0 B0 hk hm hy hx hrg hrw hok hyl
              go_upto_region 20 with (first
                | (((with_reducible refine wpList_load_mid (op := ⟨some 87, _, _, _, _, _⟩) ?_ 48 (.tmp 86) ?_ b (o + q * 6) ?_ (d8c x) _ ?_ Try.underlying48 ?_ ?_ ?_); rfl; rfl; (first | rfl | (go_simp; rfl)); exact HRg.out; rfl; (rw [sizeDeed]; rfl)))
                | ((with_reducible refine Calls.mono P.out ?_); rintro e wa ⟨rfl, rfl⟩)
                | ((with_reducible refine Calls.mono B.out ?_); rintro e w5 ⟨g5, rfl, hx5, hg5, hb5⟩))
              have hD5 := HD.out.below hb5 (Nat.le_refl _)
              have hV5 := HV.out.below hb5
              have hB5 := HB.out.trans (hb5.mono HB.out.size)
              have hf5 : ¬ d.foot g5 := fun z => by have := (HD.out.foot_base _ z).2; omega
              have W0 := d_write_at hD5 (k := k) (by rw [HSn.out]; exact hk12) (by have := HCn.out k hk12; omega) hx5 HYl.out (by omega) hf5
              rw [HG.out] at W0
              have W := Lib.hid W0
              have HD5 := Lib.hid hD5
              have HV5 := Lib.hid hV5
              have HB5 := Lib.hid hB5
              have HX5 := Lib.hid hx5
              have HF5 := Lib.hid hf5
              have hkI : (k : Int) < 12 := by omega
              clear W0 hD5 hV5 hB5 hb5 hx5 hf5 hg5 P B HRg hca HD HV HB
              by_cases hm : m = 256
              · subst hm
                have hE : wrE 256 = 0 := rfl
                rw [hE] at W
                clear hE
                go_upto_region 21 with ((with_reducible refine Calls.mono W.out ?_); rintro e w6 ⟨rfl, d6, hc6⟩)
                obtain ⟨X, hX⟩ : ∃ X : Nat → List (List UInt8), X = fun k => s.lies k :: s.vers k := ⟨_, rfl⟩
                have hV6 := HV5.out.ch hc6
                rw [← hX] at hV6
                have hf6 := hc6.away HF5.out HX5.out.lt
                have hx6 := hc6.K.blk HX5.out HF5.out
                have hc97 := hV6.cell hk12
                obtain ⟨nn, hnn⟩ : ∃ nn, nn = (X k).length := ⟨_, rfl⟩
                have hnn0 : nn ≤ 1048577 := by
                  rw [hnn, hX]
                  have := HCn.out k hk12
                  show (s.vers k).length + 1 ≤ _
                  omega
                rw [← hnn] at hc97
                have HN := Lib.hid hnn
                have HX := Lib.hid hX
                have hB6 := HB5.out.trans (hc6.bel HD5.out)
                have hb4 := (Below.refl w6.heap.size w6).alloc (Nat.le_refl _) (.cells #[.slice (some ⟨g5, 0, none⟩) 256 256] 33)
                have HV4 := Lib.hid (hV6.below hb4)
                have HD4 := Lib.hid (hc6.dk.below hb4 (Nat.le_refl _))
                have HB4 := Lib.hid (hB6.trans (hb4.mono hB6.size))
                have HX4 : Hid (VerE (w6.alloc (.cells #[.slice (some ⟨g5, 0, none⟩) 256 256] 33)) d6 (.slice (some ⟨g5, 0, none⟩) 256 256) y) := Lib.hid ⟨g5, 5, rfl, hx6.below hb4 hx6.lt, HYl.out, by decide, by decide, hf6⟩
                have hz4 := HB4.out.size
                have ho4 := HV4.out.own k hk12
                rw [← HN.out] at ho4
                have HO4 := Lib.hid ho4
                have HG6 : Hid (d6.g = gd) := Lib.hid (hc6.g.trans HG.out)
                clear hV6 hf6 hx6 hB6 hb4 ho4 hc6 hnn hX HV5 HD5 HB5 HX5 HF5 W
                go_upto_region 17 with (at_builtin; refine wpList_app rfl (.tmp 97) (.tmp 99) 22 rfl 33 1 Try.underlying22 info33h rfl (by omega) rfl HO4.out rfl (rd_one (.slice (some ⟨g5, 0, none⟩) 256 256) 33 rfl) rfl (one_slc _ _ _) (by omega) (by omega) hz4 ?_; intro A5 c5 w7 ho5 hg5 hf5; have hcf5 := HV4.out.after hk12 hg5; rw [← HN.out] at hcf5; obtain ⟨hc5, hr5⟩ := hcf5)
                obtain ⟨hV7, -, hD7⟩ := HV4.out.put HD4.out hk12 HX4.out (by rw [HN.out]) ho5 hg5 hf5
                have hB7 := (below_own HB4.out HO4.out hg5 (Nat.le_refl _) HB4.out.size).setCell (p := ⟨gV, k, none⟩) (show w.heap.size ≤ gV from hgl) (.slice A5 (nn + 1) c5)
                have hV8 := hV7.congr (xs' := fun j => (writeD s k y).lies j :: (writeD s k y).vers j) (fun j _ => by rw [HX.out, write_lists HSc.out])
                have HV7 := Lib.hid hV8
                have HD7 := Lib.hid hD7
                have HB7 := Lib.hid hB7
                clear hV7 hV8 hD7 hB7 ho5 hg5 hf5 hc5 hr5 HV4 HD4 HX4 HB4 HO4 hz4 hc97
                go_wp2
                go_roundw
                case rel => exact ⟨q + 1, d6, _, _, _, _, by omega, by norm_cast, HV7.out, HD7.out, HG6.out, by rw [writeD_n]; exact HSn.out, by rw [write_new HSc.out]; exact HSc.out, by
                    have h9 := wrAt_cnt HCn.out k 256 y
                    rw [show wrAt s k 256 y = writeD s k y from if_pos rfl] at h9
                    exact h9, HB7.out⟩
                case measure => simp only [intOf]; omega
              · have hE : wrE m = 1 := if_neg hm
                have hA : wrAt s k m y = s := if_neg hm
                rw [hE, hA] at W
                clear hE hA
                go_upto_region 17 with ((with_reducible refine Calls.mono W.out ?_); rintro e w6 ⟨rfl, d6, hc6⟩)
                have HV6 := Lib.hid (HV5.out.ch hc6)
                have HD6 := Lib.hid hc6.dk
                have HG6 : Hid (d6.g = gd) := Lib.hid (hc6.g.trans HG.out)
                have HB6 := Lib.hid (HB5.out.trans (hc6.bel HD5.out))
                clear hc6 HV5 HD5 HB5 HX5 HF5 W
                go_wp2
                go_roundw
                case rel => exact ⟨q + 1, d6, s, _, _, _, by omega, by norm_cast, HV6.out, HD6.out, HG6.out, HSn.out, HSc.out, fun k hk => by have := HCn.out k hk; omega, HB6.out⟩
                case measure => simp only [intOf]; omega
            · obtain rfl : q = m2 := by omega
              clear hlt
              have P0 := dpower_any HD.out (fun k hk => by have := HCn.out k (by rw [HSn.out] at hk; exact hk); omega) (c := c3) (HPs.out.below HB.out (Nat.le_refl _)) HPl.out (by have := HPm.out; omega) (fun h b e z => by
                have h1 := (HD.out.foot_base b z).1
                have h2 := rd_lt HPs.out HPl.out h b e
                omega)
              rw [HG.out] at P0
              obtain ⟨S1, hS1⟩ : ∃ z, z = powerD s ps := ⟨_, rfl⟩
              have hpn : S1.n = 12 := by rw [hS1, (power_all s ps).1]; exact HSn.out
              have hpm : ∀ k, k < 12 → hasD S1 k ∈ s.lies k :: s.vers k := fun k hk => by rw [hS1]; exact power_mem s ps (by rw [HSn.out]; exact hk)
              have hpd : dirtyL S1 = [] := by rw [hS1]; exact dirtyL_power s ps
              rw [← hS1] at P0
              have P := Lib.hid P0
              have HPn := Lib.hid hpn
              have HPe := Lib.hid hpm
              have HPd := Lib.hid hpd
              clear P0 hS1 hpn hpm hpd
              go_upto_region 23 with ((with_reducible refine Calls.mono P.out ?_); rintro e w4 ⟨rfl, d4, hc4⟩)
              obtain ⟨X, hX⟩ : ∃ X : Nat → List (List UInt8), X = fun k => s.lies k :: s.vers k := ⟨_, rfl⟩
              have hV4 := HV.out.ch hc4
              rw [← hX] at hV4
              have HXl : Hid (∀ k, k < 12 → (X k).length ≤ 1048577) := Lib.hid fun k hk => by
                rw [hX]
                have := HCn.out k hk
                show (s.vers k).length + 1 ≤ _
                omega
              have HPm : Hid (∀ k, k < 12 → hasD S1 k ∈ X k) := Lib.hid fun k hk => by rw [hX]; exact HPe.out k hk
              have HV4 := Lib.hid hV4
              have HD4 := Lib.hid hc4.dk
              have HG4 : Hid (d4.g = gd) := Lib.hid (hc4.g.trans HG.out)
              have HB4 := Lib.hid (HB.out.trans (hc4.bel HD.out))
              clear hV4 hX hc4 P HPe HV HD HG HB HSn HSc HCn
              go_wp2
              go_loopw [17, 18, 19, 20, 21, 22] (fun s17 _ _ _ _ _ wr4 => ∃ j : Nat, j ≤ 12 ∧ s17 = .int .i64 j ∧ VerI wr4 d4 w.heap.size gV AA cc us X ∧ Dk wr4 w.heap.size d4 S1 ∧ Below w.heap.size w wr4) (fun s17 _ _ _ _ _ _ => 12 - (intOf s17).toNat)
              case atStart => exact ⟨0, by omega, rfl, HV4.out, HD4.out, HB4.out⟩
              case round =>
                clear HV4 HD4 HB4
                rename World => wr4
                obtain ⟨j, hj, rfl, hV, hD, hB⟩ := hrel
                have HV := Lib.hid hV
                have HD := Lib.hid hD
                have HB := Lib.hid hB
                clear hV hD hB
                by_cases hlt : j < 12
                · have hjI : (j : Int) < 12 := by omega
                  have R0 := dread_ok HD.out (k := j) (by rw [HPn.out]; exact hlt)
                  have hl3 := hasD_len HD.out (k := j) (by rw [HPn.out]; exact hlt)
                  rw [HG4.out] at R0
                  obtain ⟨z, hz⟩ : ∃ z, z = hasD S1 j := ⟨_, rfl⟩
                  rw [← hz] at R0 hl3
                  have hzm : z ∈ X j := by rw [hz]; exact HPm.out j hlt
                  have R := Lib.hid R0
                  have HL3 := Lib.hid hl3
                  have HZm := Lib.hid hzm
                  clear R0 hl3 hzm hz
                  go_upto_region 27 with ((with_reducible refine Calls.mono R.out ?_); rintro e w5 ⟨g5, rfl, hx5, hg5, hb5⟩)
                  obtain ⟨nn, hnn⟩ : ∃ nn, nn = (X j).length := ⟨_, rfl⟩
                  have hnn0 : nn ≤ 1048577 := by rw [hnn]; exact HXl.out j hlt
                  have HN := Lib.hid hnn
                  have HV5 := Lib.hid (HV.out.below hb5)
                  have HD5 := Lib.hid (HD.out.below hb5 (Nat.le_refl _))
                  have HB5 := Lib.hid (HB.out.trans (hb5.mono HB.out.size))
                  have HX5 := Lib.hid hx5
                  clear hnn hb5 hg5 hx5 R HV HD HB
                  go_wp2
                  go_loopw [20, 21, 22] (fun s20 s21 _ wr5 => ∃ (q2 : Nat) (fb : Bool), q2 ≤ nn ∧ s21 = .int .i64 q2 ∧ s20 = .bool fb ∧ fb = decide (z ∈ (X j).take q2) ∧ Blk wr5 g5 93 (bvs z) ∧ VerI wr5 d4 w.heap.size gV AA cc us X ∧ Dk wr5 w.heap.size d4 S1 ∧ Below w.heap.size w wr5) (fun _ s21 _ _ => nn - (intOf s21).toNat)
                  case atStart => exact ⟨0, false, by omega, rfl, rfl, by simp, HX5.out, HV5.out, HD5.out, HB5.out⟩
                  case round =>
                    clear HV5 HD5 HB5 HX5
                    rename World => wr5
                    obtain ⟨q2, fb, hq2, rfl, rfl, hfb, hX, hV, hD, hB⟩ := hrel
                    have hcj := hV.cell hlt
                    rw [← HN.out] at hcj
                    have HV := Lib.hid hV
                    have HX := Lib.hid hX
                    have HD := Lib.hid hD
                    have HB := Lib.hid hB
                    have HFb := Lib.hid hfb
                    clear hV hD hB hX hfb
                    by_cases hlt2 : q2 < nn
                    · have ho := HV.out.own j hlt
                      rw [← HN.out] at ho
                      obtain ⟨ga, hAj, -, -, hce, -⟩ := ho.cell (k := q2) (by rw [ho.len1]; exact hlt2)
                      have hel := all2_get (HV.out.elt j hlt) (k := q2) (by rw [ho.len1]; exact hlt2) (by rw [← HN.out]; exact hlt2)
                      obtain ⟨ge, te, he1, he2, he3, -, -, -⟩ := hel
                      rw [he1] at hce
                      rw [hAj] at hcj
                      obtain ⟨ze, hze⟩ : ∃ ze, ze = (X j)[q2]'(by rw [← HN.out]; exact hlt2) := ⟨_, rfl⟩
                      rw [← hze] at he2 he3
                      have S0 := same_any (HX.out.bs0 0 256 256 (Nat.zero_le _) (Nat.le_refl _) (by omega) HL3.out) (he2.bs0 0 256 256 (Nat.zero_le _) (Nat.le_refl _) (by omega) he3)
                      obtain ⟨sb, hsb⟩ : ∃ sb, sb = decide (z = ze) := ⟨_, rfl⟩
                      have hnew : decide (z ∈ (X j).take (q2 + 1)) = (fb || sb) := by
                        rw [HFb.out, hsb, hze]
                        exact mem_take_succ z (X j) q2 _
                      rw [← hsb] at S0
                      have Sm := Lib.hid S0
                      have HNw := Lib.hid hnew
                      clear S0 hnew ho hAj he1 he2 he3 hze hsb
                      go_upto_region 32 with ((with_reducible refine Calls.mono Sm.out ?_); rintro e wa ⟨rfl, qa, hwa⟩)
                      subst hwa
                      have hbq := below_drewN (Below.refl wr5.heap.size wr5) qa
                      have HV6 := Lib.hid (HV.out.below hbq)
                      have HX6 := Lib.hid (HX.out.drewN qa)
                      have HD6 := Lib.hid (HD.out.drewN qa)
                      have HB6 := Lib.hid (below_drewN HB.out qa)
                      clear hbq HV HX HD HB Sm hcj hce HFb
                      cases fb <;> cases sb
                      all_goals go_wp2
                      all_goals go_roundw
                      case rel => exact ⟨q2 + 1, _, by omega, by norm_cast, rfl, HNw.out.symm, HX6.out, HV6.out, HD6.out, HB6.out⟩
                      case measure => simp only [intOf]; omega
                      case rel => exact ⟨q2 + 1, _, by omega, by norm_cast, rfl, HNw.out.symm, HX6.out, HV6.out, HD6.out, HB6.out⟩
                      case measure => simp only [intOf]; omega
                      case rel => exact ⟨q2 + 1, _, by omega, by norm_cast, rfl, HNw.out.symm, HX6.out, HV6.out, HD6.out, HB6.out⟩
                      case measure => simp only [intOf]; omega
                      case rel => exact ⟨q2 + 1, _, by omega, by norm_cast, rfl, HNw.out.symm, HX6.out, HV6.out, HD6.out, HB6.out⟩
                      case measure => simp only [intOf]; omega
                    · obtain rfl : q2 = nn := by omega
                      have hfb : fb = true := by
                        rw [HFb.out, HN.out, List.take_length]
                        exact decide_eq_true HZm.out
                      subst hfb
                      clear hlt2 HFb
                      by_cases h1 : q2 = 1
                      · subst h1
                        go_wp2
                        go_roundw
                        case rel => exact ⟨j + 1, by omega, by norm_cast, HV.out, HD.out, HB.out⟩
                        case measure => simp only [intOf]; omega
                      · have h1b : ((q2 : Int) == 1) = false := beq_eq_false_iff_ne.2 (by omega)
                        have h1c : ¬ ((q2 : Int) = 1) := by omega
                        go_wp2
                        go_roundw
                        case rel => exact ⟨j + 1, by omega, by norm_cast, HV.out, HD.out, HB.out⟩
                        case measure => simp only [intOf]; omega
                · obtain rfl : j = 12 := by omega
                  have L0 := dirty_any HD.out
                  rw [HG4.out, HPd.out] at L0
                  have L := Lib.hid L0
                  clear L0 HV
                  go_wp2_with (first
                    | ((with_reducible refine Calls.mono L.out ?_); rintro e w6 ⟨A6, c6, rfl, ho6, hb6⟩; have LV := Lib.hid (lives8_any w6); have HB6 := Lib.hid (HB.out.trans (hb6.mono HB.out.size)); clear ho6 hb6)
                    | ((with_reducible refine Calls.mono LV.out ?_); rintro e wb ⟨rfl, hbb⟩))
                  go_ret
                  exact ⟨rfl, HB6.out.trans (hbb.mono HB6.out.size)⟩
end Go.Proofs.Ytnclebnodkkgnaa
