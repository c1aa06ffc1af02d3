/- The statement DiskApart: its walk. Condition: fewer than 2^38 deeds. -/
import Derived.Test.YtnclebnodkkgnaaDkAgain
import Derived.Test.YtnclebnodkkgnaaDkAlone
namespace Go.Proofs.Ytnclebnodkkgnaa
open Go.RowKit Go.Maps
set_option linter.unusedSimpArgs false
set_option linter.unusedVariables false

theorem rel_copy {s t : Dsk} {c : Nat} (h : Rel s t c) : Rel (copyD s) { t with cut := false } c := ⟨h.n_, rfl, h.lies_, h.vers_, fun e => (by cases e), h.cnt⟩

set_option maxRecDepth 100000 in
set_option maxHeartbeats 8000000 in
theorem dapart_any {A A2 : Option Addr} {n c m c2 : Nat} {f g : Nat → D8} {w : World} (hd : D8s w A n f) (hn : n ≤ 1048576) (hd2 : D8s w A2 m g) (hm : m ≤ 1048576) :
    Calls Try.prog 9 #[.slice A n c, .slice A2 m c2] w fun e w' => e = .returned (.bool true) ∧ Below w.heap.size w w' := by
  have D0 := dnew_ok 12 (by omega) w
  push_cast at D0
  have D := Lib.hid D0
  have HDs := Lib.hid hd
  have HDs2 := Lib.hid hd2
  clear D0 hd hd2
  go_enter Try.func9, Try.ntmps9
  go_upto_region 2 with ((with_reducible refine Calls.mono D.out ?_); rintro e w1 ⟨d0, rfl, hd1, hb1⟩)
  have R0 := rnew_ok 12 (by omega) w1
  push_cast at R0
  have R := Lib.hid R0
  have HD1 := Lib.hid hd1
  have HB1 := Lib.hid hb1
  clear R0 hd1 hb1 D
  go_upto_region 3 with ((with_reducible refine Calls.mono R.out ?_); rintro e w2 ⟨r0, rfl, hr2, hb2⟩)
  have HT := Lib.hid (Two.mk (HD1.out.below hb2 (Nat.le_refl _)) hr2 HB1.out.size)
  have HB := Lib.hid (HB1.out.trans (hb2.mono HB1.out.size))
  obtain ⟨gd, hgd⟩ : ∃ gd, gd = d0.g := ⟨_, rfl⟩
  obtain ⟨gr, hgr⟩ : ∃ gr, gr = r0.g := ⟨_, rfl⟩
  obtain ⟨br, hbr⟩ : ∃ br, br = w1.heap.size := ⟨_, rfl⟩
  rw [← hbr] at HT
  rw [← hgd, ← hgr]
  have HGd := Lib.hid hgd
  have HGr := Lib.hid hgr
  clear hr2 hb2 R HD1 HB1 hgd hgr hbr
  go_wp2
  go_loopw [9, 10] (fun s9 _ wr => ∃ (i : Nat) (d : Dw) (r : Rw), i ≤ n ∧ s9 = .int .i64 i ∧ Two wr w.heap.size br d r (sfo (newD 12) f i) (tfo (newD 12) f i) ∧ d.g = gd ∧ r.g = gr ∧ Below w.heap.size w wr) (fun s9 _ _ => n - (intOf s9).toNat)
  case atStart => exact ⟨0, d0, r0, by omega, rfl, HT.out, HGd.out.symm, HGr.out.symm, HB.out⟩
  case round =>
    clear HT HB
    obtain ⟨i, d, r, hi, rfl, hT, hg1, hg2, hB⟩ := hrel
    have hR := rel_fo (rel_new 12) f i (by omega)
    rw [Nat.zero_add] at hR
    have HT := Lib.hid hT
    have HR := Lib.hid hR
    have HG1 := Lib.hid hg1
    have HG2 := Lib.hid hg2
    have HB := Lib.hid hB
    clear hT hR hg1 hg2 hB
    by_cases hlt : i < n
    · obtain ⟨b, o, rfl, _, hbl, hrg⟩ := rd_elem (k := 6) HDs.out.rd (fun _ _ => rfl) (by omega) hlt
      have hok := HDs.out.ok i hlt
      have hrw := range_kept hrg (HB.out.block b hbl)
      have D0 := does_any HT.out HR.out (by omega) (hok.below HB.out hok.lt) hok.lt
      rw [HG1.out, HG2.out] at D0
      have D := Lib.hid D0
      have HRg := Lib.hid hrw
      clear D0 hrg hrw hok
      go_upto_region 7 with (first
        | (((with_reducible refine wpList_load_mid (op := ⟨some 44, _, _, _, _, _⟩) ?_ 48 (.tmp 43) ?_ b (o + i * 6) ?_ (d8c (f i)) _ ?_ Try.underlying48 ?_ ?_ ?_); rfl; rfl; (first | rfl | (go_simp; rfl)); exact HRg.out; rfl; (rw [sizeDeed]; rfl)))
        | ((with_reducible refine Calls.mono D.out ?_); rintro e w3 ⟨rfl, d3, r3, hT3, hg3, hg4, hb3⟩))
      have HT3 := Lib.hid hT3
      have HB3 := Lib.hid (HB.out.trans hb3)
      clear hT3 hb3 D HRg HT HR HB
      go_wp2
      go_roundw
      case rel => exact ⟨i + 1, d3, r3, by omega, by norm_cast, HT3.out, hg3, hg4, HB3.out⟩
      case measure => simp only [intOf]; omega
    · obtain rfl : i = n := by omega
      clear hlt
      obtain ⟨S, hS⟩ : ∃ S, S = sfo (newD 12) f i := ⟨_, rfl⟩
      obtain ⟨T, hT⟩ : ∃ T, T = tfo (newD 12) f i := ⟨_, rfl⟩
      rw [← hS, ← hT] at HT HR
      have hSn : S.n = 12 := by rw [hS, sfo_n]; rfl
      have HSn := Lib.hid hSn
      have HTe := Lib.hid hT
      have C0 := dcopy_any HT.out.dk (fun k hk => by have := HR.out.cnt k hk; omega)
      rw [HG1.out] at C0
      have C := Lib.hid C0
      clear C0 hS hT hSn
      go_upto_region 12 with ((with_reducible refine Calls.mono C.out ?_); rintro e w4 ⟨d4, rfl, hd4, hb4⟩)
      have R0 := rnew_ok 12 (by omega) w4
      push_cast at R0
      have R := Lib.hid R0
      have HD4 := Lib.hid hd4
      have HB4 := Lib.hid hb4
      clear R0 hd4 hb4 C
      go_upto_region 13 with ((with_reducible refine Calls.mono R.out ?_); rintro e w5 ⟨r5, rfl, hr5, hb5⟩)
      obtain ⟨B0, hB0⟩ : ∃ B0, B0 = wr.heap.size := ⟨_, rfl⟩
      obtain ⟨bs, hbs⟩ : ∃ bs, bs = w4.heap.size := ⟨_, rfl⟩
      obtain ⟨gc, hgc⟩ : ∃ g, g = d4.g := ⟨_, rfl⟩
      obtain ⟨gs, hgs⟩ : ∃ g, g = r5.g := ⟨_, rfl⟩
      have hT5 : Two w5 B0 bs d4 r5 (copyD S) (newD 12) := by
        rw [hB0, hbs]
        exact ⟨HD4.out.below hb5 (Nat.le_refl _), hr5, HB4.out.size⟩
      have hB5 : Below B0 wr w5 := by rw [hB0]; exact HB4.out.trans (hb5.mono HB4.out.size)
      have hwB : w.heap.size ≤ B0 := by rw [hB0]; exact HB.out.size
      have hws : B0 ≤ bs := hT5.le
      rw [← hgc, ← hgs]
      have HB0 := Lib.hid hB0
      have HGc := Lib.hid hgc
      have HGs := Lib.hid hgs
      have HT5 := Lib.hid hT5
      have HB5 := Lib.hid hB5
      have HWB := Lib.hid hwB
      have HWS := Lib.hid hws
      clear hr5 hb5 HD4 HB4 R hB0 hbs hgc hgs hT5 hB5 hwB hws
      go_wp2
      go_loopw [14] (fun s14 wr2 => ∃ (j : Nat) (r2 : Rw), j ≤ i ∧ s14 = .int .i64 j ∧ Two wr2 B0 bs d4 r2 (copyD S) (tfo (newD 12) f j) ∧ r2.g = gs ∧ Below B0 wr wr2) (fun s14 _ => i - (intOf s14).toNat)
      case atStart => exact ⟨0, r5, by omega, rfl, HT5.out, HGs.out.symm, HB5.out⟩
      case round =>
        clear HT5 HB5
        rename World => wr2
        obtain ⟨j, r2, hj, rfl, hT2, hg2, hB2⟩ := hrel
        have HT2 := Lib.hid hT2
        have HG5 := Lib.hid hg2
        have HB2 := Lib.hid hB2
        have hBw : Below w.heap.size w wr2 := HB.out.trans (hB2.mono HWB.out)
        have HBw := Lib.hid hBw
        clear hT2 hg2 hB2 hBw
        by_cases hlt : j < i
        · obtain ⟨b, o, rfl, _, hbl, hrg⟩ := rd_elem (k := 6) HDs.out.rd (fun _ _ => rfl) (by omega) hlt
          have hok := HDs.out.ok j hlt
          have hrw := range_kept hrg (HBw.out.block b hbl)
          have hRj := rel_fo (rel_new 12) f j (by omega)
          rw [Nat.zero_add] at hRj
          have D0 := alone_any HT2.out.rk (fun k hk => by rw [hRj.vers_ k (by rw [← hRj.n_]; exact hk)]; have := hRj.cnt k (by rw [← hRj.n_]; exact hk); omega) (hok.below HBw.out hok.lt) (fun h b' e => by have := hok.lt h b' e; have := HWB.out; have := HWS.out; omega)
          rw [HG5.out] at D0
          have D := Lib.hid D0
          have HRg := Lib.hid hrw
          clear D0 hrg hrw hok hRj
          go_upto_region 17 with (first
            | (((with_reducible refine wpList_load_mid (op := ⟨some 66, _, _, _, _, _⟩) ?_ 48 (.tmp 65) ?_ b (o + j * 6) ?_ (d8c (f j)) _ ?_ Try.underlying48 ?_ ?_ ?_); rfl; rfl; (first | rfl | (go_simp; rfl)); exact HRg.out; rfl; (rw [sizeDeed]; rfl)))
            | ((with_reducible refine Calls.mono D.out ?_); rintro e w3 ⟨rfl, r3, hc3⟩))
          have HT3 := Lib.hid (HT2.out.onR hc3)
          have HB3 := Lib.hid (HB2.out.trans (HT2.out.belR hc3))
          have hg3 : r3.g = gs := hc3.g.trans HG5.out
          clear hc3 D HRg HT2 HB2 HBw
          go_wp2
          go_roundw
          case rel => exact ⟨j + 1, r3, by omega, by norm_cast, HT3.out, hg3, HB3.out⟩
          case measure => simp only [intOf]; omega
        · obtain rfl : j = i := by omega
          rw [← HTe.out] at HT2
          have h1 := HT2.out.rk.uncut
          have bc := HT2.out.rk.blk.cells
          have bf := HT2.out.rk.blk.frees
          have hT6 := HT2.out.onR h1
          have hB6 := HB2.out.trans (HT2.out.belR h1)
          rw [HG5.out] at hT6 hB6 bc bf
          have HT6 := Lib.hid hT6
          have HB6 := Lib.hid hB6
          clear hlt h1 hT6 hB6
          go_upto_region 20 with fail
          refine wp_world (fun U => Two U B0 bs d4 r2 (copyD S) { T with cut := false } ∧ Below B0 wr U) ⟨HT6.out, HB6.out⟩ ?_
          clear HT6 HB6 HT2 HB2 HBw bc bf
          rintro U ⟨hT6, hB6⟩
          have HT6 := Lib.hid hT6
          have HB6 := Lib.hid hB6
          clear hT6 hB6
          go_wp2
          go_loopw [15, 16] (fun s15 _ wr3 => ∃ (q : Nat) (d3 : Dw) (r3 : Rw), q ≤ m ∧ s15 = .int .i64 q ∧ Two wr3 B0 bs d3 r3 (sfo (copyD S) g q) (tfo { T with cut := false } g q) ∧ d3.g = gc ∧ r3.g = gs ∧ Below B0 wr wr3) (fun s15 _ _ => m - (intOf s15).toNat)
          case atStart => exact ⟨0, d4, r2, by omega, rfl, HT6.out, HGc.out.symm, HG5.out, HB6.out⟩
          case round =>
            clear HT6 HB6
            rename World => wr3
            obtain ⟨q, d3, r3, hq, rfl, hT3, hg3, hg4, hB3⟩ := hrel
            have hR3 := rel_fo (rel_copy HR.out) g q (by omega)
            have HT3 := Lib.hid hT3
            have HR3 := Lib.hid hR3
            have HG3 := Lib.hid hg3
            have HG4 := Lib.hid hg4
            have HB3 := Lib.hid hB3
            have hBw : Below w.heap.size w wr3 := HB.out.trans (hB3.mono HWB.out)
            have HBw := Lib.hid hBw
            clear hT3 hR3 hg3 hg4 hB3 hBw
            by_cases hlt : q < m
            · obtain ⟨b, o, rfl, _, hbl, hrg⟩ := rd_elem (k := 6) HDs2.out.rd (fun _ _ => rfl) (by omega) hlt
              have hok := HDs2.out.ok q hlt
              have hrw := range_kept hrg (HBw.out.block b hbl)
              have D0 := does_any HT3.out HR3.out (by omega) (hok.below HBw.out hok.lt) (fun h b' e => by have := hok.lt h b' e; have := HWB.out; omega)
              rw [HG3.out, HG4.out] at D0
              have D := Lib.hid D0
              have HRg := Lib.hid hrw
              clear D0 hrg hrw hok
              go_upto_region 22 with (first
                | (((with_reducible refine wpList_load_mid (op := ⟨some 82, _, _, _, _, _⟩) ?_ 48 (.tmp 81) ?_ b (o + q * 6) ?_ (d8c (g q)) _ ?_ Try.underlying48 ?_ ?_ ?_); rfl; rfl; (first | rfl | (go_simp; rfl)); exact HRg.out; rfl; (rw [sizeDeed]; rfl)))
                | ((with_reducible refine Calls.mono D.out ?_); rintro e w7 ⟨rfl, d7, r7, hT7, hg7, hg8, hb7⟩))
              have HT7 := Lib.hid hT7
              have HB7 := Lib.hid (HB3.out.trans hb7)
              clear hT7 hb7 D HRg HT3 HR3 HB3 HBw
              go_wp2
              go_roundw
              case rel => exact ⟨q + 1, d7, r7, by omega, by norm_cast, HT7.out, hg7, hg8, HB7.out⟩
              case measure => simp only [intOf]; omega
            · obtain rfl : q = m := by omega
              have W0 := whole_any (HT.out.below (by rw [← HB0.out]; exact HB3.out)) HR.out
              rw [HG1.out, HG2.out] at W0
              have W := Lib.hid W0
              clear hlt W0
              go_upto_region 27 with ((with_reducible refine Calls.mono W.out ?_); rintro e w7 ⟨rfl, hb7⟩)
              have W0 := whole_any (HT3.out.below hb7) HR3.out
              rw [HG3.out, HG4.out] at W0
              have W2 := Lib.hid W0
              have HB7 := Lib.hid (HBw.out.trans (hb7.mono HBw.out.size))
              clear W0 W hb7 HT3 HB3 HT
              go_upto_region 28 with ((with_reducible refine Calls.mono W2.out ?_); rintro e w8 ⟨rfl, hb8⟩)
              have LV := Lib.hid (lives8_any w8)
              have HB8 := Lib.hid (HB7.out.trans (hb8.mono HB7.out.size))
              clear W2 hb8
              go_wp2_with ((with_reducible refine Calls.mono LV.out ?_); rintro e wb ⟨rfl, hbb⟩)
              go_ret
              exact ⟨rfl, HB8.out.trans (hbb.mono HB8.out.size)⟩
end Go.Proofs.Ytnclebnodkkgnaa
