/- kistlaw13.does: Forget, Flush, Power, Rot, Sync. Condition: fewer than 2^37 writes. -/
import Derived.Test.YtjndopmjlbhajaaQm
import Derived.Test.YtjndopmjlbhajaaCaCo
namespace Go.Proofs.Ytjndopmjlbhajaa
open Go.RowKit Go.Maps
set_option linter.unusedVariables false
set_option linter.unusedSimpArgs false

set_option maxRecDepth 100000 in
set_option maxHeartbeats 8000000 in
theorem does_forget {w : World} {b0 br gd gk gr gq room c : Nat} {x : Dc} (h : All w b0 br gd gk gr gq room c) (hc : c ≤ 130000000000) (hx : DcOk w x) (hxb : 0 < x.b.length → ∀ b, ablk x.bA = some b → b < b0) (hxp : 0 < x.pn → ∀ b, ablk x.pA = some b → b < b0) (hkd : pickN x.K 7 = 2) :
    Calls Try.prog 23 #[.pointer (some ⟨gd, 0, none⟩), .pointer (some ⟨gk, 0, none⟩), .pointer (some ⟨gr, 0, none⟩), .pointer (some ⟨gq, 0, none⟩), .agg #[.int .i64 x.K, .int .i64 x.N, .int .i64 x.kd, .slice x.bA x.b.length x.bc, .slice x.pA x.pn x.pc]] w fun e w' => e = .returned (.bool true) ∧ All w' b0 br gd gk gr gq room (c + 100) ∧ Below b0 w w' := by
  obtain ⟨d, k, r, q, t, s, u, D, C, hA, hR, hO, hRc, hn, hrm, hgd, hgk, hgr, hgq⟩ := h
  have hlen := hRc.len hO hn
  have P0 := fun W => pick13_any x.K hx.k (n := 7) (by omega) (by omega) W
  rw [hkd] at P0
  push_cast at P0
  have P := Lib.hid P0
  have HA := Lib.hid hA
  have HR := Lib.hid hR
  have HO := Lib.hid hO
  have HRc := Lib.hid hRc
  have HN := Lib.hid hn
  have HRm := Lib.hid hrm
  have HX := Lib.hid hx
  have HXb := Lib.hid hxb
  have HXp := Lib.hid hxp
  have HG := Lib.hid (show d.g = gd ∧ k.g = gk ∧ r.g = gr ∧ q.g = gq from ⟨hgd, hgk, hgr, hgq⟩)
  have HLen := Lib.hid hlen
  clear P0 hA hR hO hRc hn hrm hx hxb hxp hgd hgk hgr hgq hkd hlen
  go_enter Try.func23, Try.ntmps23
  go_upto_region 1 with fail
  obtain ⟨g9, hg9⟩ : ∃ g, g = w.heap.size := ⟨_, rfl⟩
  rw [← hg9]
  have hal : Below w.heap.size w (w.alloc (.cells (dcc x).toArray 37)) := (Below.refl _ _).alloc (Nat.le_refl _) _
  refine wp_world (fun V => Blk V g9 37 (dcc x) ∧ Am V b0 br d k r q t s u room D C ∧ Below w.heap.size w V) ⟨Blk.new_at hg9, HA.out.below hal (Nat.le_refl _), hal⟩ ?_
  have hn9 : ¬ footC d k g9 ∧ ¬ r.foot u.n g9 ∧ ¬ q.foot D C g9 ∧ w.heap.size ≤ g9 := by
    refine ⟨fun y => ?_, fun y => ?_, fun y => ?_, by rw [hg9]; exact Nat.le_refl _⟩
    · have := (HA.out.cd.foot_base g9 y).2; omega
    · have := (HA.out.rk.foot_base g9 y).2; omega
    · have := (HA.out.qk.foot_base g9 y).2; omega
  have HN9 := Lib.hid hn9
  clear hal hn9 hg9
  rintro V ⟨v1, v2, v3⟩
  have xc0 := v1.cell 0
  have xc1 := v1.cell 1
  have xc2 := v1.cell 2
  have xc3 := v1.cell 3
  have xc4 := v1.cell 4
  simp only [dcc, List.getElem?_cons_zero, List.getElem?_cons_succ] at xc0 xc1 xc2 xc3 xc4
  have V1 := Lib.hid v1
  have V2 := Lib.hid v2
  have V3 := Lib.hid v3
  clear v1 v2 v3
  go_upto_region 2 with ((with_reducible refine Calls.mono (P.out _) ?_); rintro e wp ⟨rfl, rfl⟩)
  clear P
  have F0 := forget_any V2.out.cd (z := x.N) HX.out.n
  rw [HG.out.2.1] at F0
  have F := Lib.hid F0
  clear F0
  go_upto_region 22 with ((with_reducible refine Calls.mono F.out ?_); rintro e w1 ⟨rfl, k1, hc1⟩)
  have a1 := V2.out.onC hc1
  have B9 := hc1.K.blk V1.out (fun y => HN9.out.1 (hard_foot y))
  have yc0 := B9.cell 0
  have yc1 := B9.cell 1
  have yc2 := B9.cell 2
  have yc3 := B9.cell 3
  have yc4 := B9.cell 4
  simp only [dcc, List.getElem?_cons_zero, List.getElem?_cons_succ] at yc0 yc1 yc2 yc3 yc4
  have Q0 := rforget_any a1.qk (by have := HLen.out; omega) (by have := HLen.out; omega) (z := x.N)
  rw [HG.out.2.2.2] at Q0
  have Q := Lib.hid Q0
  have HB1 := Lib.hid (hc1.bel V2.out.cd)
  have A1 := Lib.hid a1
  have HK1 := Lib.hid hc1.gk
  clear Q0 F a1 B9 hc1 xc0 xc1 xc2 xc3 xc4
  go_wp2_with ((with_reducible refine Calls.mono Q.out ?_); rintro e w2 ⟨rfl, q2, hc2⟩)
  go_ret
  have hb := HB1.out.trans (hc2.bel A1.out.qk)
  exact ⟨rfl, ⟨d, k1, r, q2, t, _, u, _, _, A1.out.onQ hc2, HR.out.more (by omega), forget_ok HO.out x.N, rc_forget HRc.out x.N, HN.out, HRm.out, HG.out.1, HK1.out.trans HG.out.2.1, HG.out.2.2.1, hc2.g.trans HG.out.2.2.2⟩, (V3.out.mono HA.out.b0_le).trans hb⟩

set_option maxRecDepth 100000 in
set_option maxHeartbeats 8000000 in
theorem does_flush {w : World} {b0 br gd gk gr gq room c : Nat} {x : Dc} (h : All w b0 br gd gk gr gq room c) (hc : c ≤ 130000000000) (hx : DcOk w x) (hxb : 0 < x.b.length → ∀ b, ablk x.bA = some b → b < b0) (hxp : 0 < x.pn → ∀ b, ablk x.pA = some b → b < b0) (hkd : pickN x.K 7 = 3) :
    Calls Try.prog 23 #[.pointer (some ⟨gd, 0, none⟩), .pointer (some ⟨gk, 0, none⟩), .pointer (some ⟨gr, 0, none⟩), .pointer (some ⟨gq, 0, none⟩), .agg #[.int .i64 x.K, .int .i64 x.N, .int .i64 x.kd, .slice x.bA x.b.length x.bc, .slice x.pA x.pn x.pc]] w fun e w' => e = .returned (.bool true) ∧ All w' b0 br gd gk gr gq room (c + 100) ∧ Below b0 w w' := by
  obtain ⟨d, k, r, q, t, s, u, D, C, hA, hR, hO, hRc, hn, hrm, hgd, hgk, hgr, hgq⟩ := h
  have hlen := hRc.len hO hn
  have P0 := fun W => pick13_any x.K hx.k (n := 7) (by omega) (by omega) W
  rw [hkd] at P0
  push_cast at P0
  have P := Lib.hid P0
  have HA := Lib.hid hA
  have HR := Lib.hid hR
  have HO := Lib.hid hO
  have HRc := Lib.hid hRc
  have HN := Lib.hid hn
  have HRm := Lib.hid hrm
  have HX := Lib.hid hx
  have HXb := Lib.hid hxb
  have HXp := Lib.hid hxp
  have HG := Lib.hid (show d.g = gd ∧ k.g = gk ∧ r.g = gr ∧ q.g = gq from ⟨hgd, hgk, hgr, hgq⟩)
  have HLen := Lib.hid hlen
  clear P0 hA hR hO hRc hn hrm hx hxb hxp hgd hgk hgr hgq hkd hlen
  go_enter Try.func23, Try.ntmps23
  go_upto_region 1 with fail
  obtain ⟨g9, hg9⟩ : ∃ g, g = w.heap.size := ⟨_, rfl⟩
  rw [← hg9]
  have hal : Below w.heap.size w (w.alloc (.cells (dcc x).toArray 37)) := (Below.refl _ _).alloc (Nat.le_refl _) _
  refine wp_world (fun V => Blk V g9 37 (dcc x) ∧ Am V b0 br d k r q t s u room D C ∧ Below w.heap.size w V) ⟨Blk.new_at hg9, HA.out.below hal (Nat.le_refl _), hal⟩ ?_
  have hn9 : ¬ footC d k g9 ∧ ¬ r.foot u.n g9 ∧ ¬ q.foot D C g9 ∧ w.heap.size ≤ g9 := by
    refine ⟨fun y => ?_, fun y => ?_, fun y => ?_, by rw [hg9]; exact Nat.le_refl _⟩
    · have := (HA.out.cd.foot_base g9 y).2; omega
    · have := (HA.out.rk.foot_base g9 y).2; omega
    · have := (HA.out.qk.foot_base g9 y).2; omega
  have HN9 := Lib.hid hn9
  clear hal hn9 hg9
  rintro V ⟨v1, v2, v3⟩
  have xc0 := v1.cell 0
  have xc1 := v1.cell 1
  have xc2 := v1.cell 2
  have xc3 := v1.cell 3
  have xc4 := v1.cell 4
  simp only [dcc, List.getElem?_cons_zero, List.getElem?_cons_succ] at xc0 xc1 xc2 xc3 xc4
  have V1 := Lib.hid v1
  have V2 := Lib.hid v2
  have V3 := Lib.hid v3
  clear v1 v2 v3
  go_upto_region 2 with ((with_reducible refine Calls.mono (P.out _) ?_); rintro e wp ⟨rfl, rfl⟩)
  clear P
  have hDx : ∀ y, y ∈ D → y.N < u.n ∧ 1 ≤ y.k ∧ y.k ≤ 4 ∧ y.b.length ≤ 240 := fun y hy => by
    have h1 := HO.out.blk y.N _ (HRc.out.db y hy)
    rw [HR.out.n_]
    exact ⟨h1.2.1, h1.2.2.1, h1.2.2.2.1, h1.2.2.2.2⟩
  have hvu : ∀ j, j < u.n → (u.vers j).length ≤ 549755813888 := fun j hj => by
    rw [HR.out.n_] at hj
    rw [HR.out.vers_ j hj]
    have := HR.out.cnt j hj
    omega
  have F0 := rcflush_any V2.out.rk V2.out.qk V2.out.rq (by rw [← HRm.out]; exact HLen.out.2.2.2) (by have := HLen.out; omega) (by have := HLen.out; omega) hDx hvu
  rw [HG.out.2.2.2] at F0
  have F := Lib.hid F0
  clear F0 hDx hvu
  go_upto_region 25 with ((with_reducible refine Calls.mono F.out ?_); rintro e w1 ⟨rfl, r1, q1, hc1⟩)
  have a1 := V2.out.onRQ hc1
  have G0 := flush_any_c a1.cd HO.out (fun j hj => by have := HR.out.cnt j hj; omega)
  rw [HG.out.2.1] at G0
  have G := Lib.hid G0
  have HB1 := Lib.hid (RQh.bel V2.out hc1)
  have A1 := Lib.hid a1
  have HK1 := Lib.hid (show r1.g = r.g ∧ q1.g = q.g from ⟨hc1.rg, hc1.qg⟩)
  clear G0 F a1 hc1
  go_wp2_with ((with_reducible refine Calls.mono G.out ?_); rintro e w2 ⟨rfl, d2, k2, hc2⟩)
  go_ret
  have hb := HB1.out.trans (hc2.bel A1.out.cd)
  have hfl := rc_flush HO.out HRc.out HR.out (by omega) (by have := HLen.out; omega)
  have hfo := flushC_ok HO.out
  have hfr : (flushC t s).2.room = s.room := (flushTo_ok HO.out _ (Nat.le_refl _)).2.2.2
  rw [HRm.out] at hfl
  exact ⟨rfl, ⟨d2, k2, r1, q1, _, _, _, _, _, A1.out.onC hc2, hfl.1.more (by have := HLen.out; omega), by rw [hfo.2.1]; exact hfo.1, by rw [hfo.2.1]; exact hfl.2, hfo.2.1.trans HN.out, hfr.trans HRm.out, hc2.gd.trans HG.out.1, hc2.gk.trans HG.out.2.1, HK1.out.1.trans HG.out.2.2.1, HK1.out.2.trans HG.out.2.2.2⟩, (V3.out.mono HA.out.b0_le).trans hb⟩

set_option maxRecDepth 100000 in
set_option maxHeartbeats 8000000 in
theorem does_power {w : World} {b0 br gd gk gr gq room c : Nat} {x : Dc} (h : All w b0 br gd gk gr gq room c) (hc : c ≤ 130000000000) (hx : DcOk w x) (hxb : 0 < x.b.length → ∀ b, ablk x.bA = some b → b < b0) (hxp : 0 < x.pn → ∀ b, ablk x.pA = some b → b < b0) (hkd : pickN x.K 7 = 4) :
    Calls Try.prog 23 #[.pointer (some ⟨gd, 0, none⟩), .pointer (some ⟨gk, 0, none⟩), .pointer (some ⟨gr, 0, none⟩), .pointer (some ⟨gq, 0, none⟩), .agg #[.int .i64 x.K, .int .i64 x.N, .int .i64 x.kd, .slice x.bA x.b.length x.bc, .slice x.pA x.pn x.pc]] w fun e w' => e = .returned (.bool true) ∧ All w' b0 br gd gk gr gq room (c + 100) ∧ Below b0 w w' := by
  obtain ⟨d, k, r, q, t, s, u, D, C, hA, hR, hO, hRc, hn, hrm, hgd, hgk, hgr, hgq⟩ := h
  have hlen := hRc.len hO hn
  have P0 := fun W => pick13_any x.K hx.k (n := 7) (by omega) (by omega) W
  rw [hkd] at P0
  push_cast at P0
  have P := Lib.hid P0
  have HA := Lib.hid hA
  have HR := Lib.hid hR
  have HO := Lib.hid hO
  have HRc := Lib.hid hRc
  have HN := Lib.hid hn
  have HRm := Lib.hid hrm
  have HX := Lib.hid hx
  have HXb := Lib.hid hxb
  have HXp := Lib.hid hxp
  have HG := Lib.hid (show d.g = gd ∧ k.g = gk ∧ r.g = gr ∧ q.g = gq from ⟨hgd, hgk, hgr, hgq⟩)
  have HLen := Lib.hid hlen
  clear P0 hA hR hO hRc hn hrm hx hxb hxp hgd hgk hgr hgq hkd hlen
  go_enter Try.func23, Try.ntmps23
  go_upto_region 1 with fail
  obtain ⟨g9, hg9⟩ : ∃ g, g = w.heap.size := ⟨_, rfl⟩
  rw [← hg9]
  have hal : Below w.heap.size w (w.alloc (.cells (dcc x).toArray 37)) := (Below.refl _ _).alloc (Nat.le_refl _) _
  refine wp_world (fun V => Blk V g9 37 (dcc x) ∧ Am V b0 br d k r q t s u room D C ∧ Below w.heap.size w V) ⟨Blk.new_at hg9, HA.out.below hal (Nat.le_refl _), hal⟩ ?_
  have hn9 : ¬ footC d k g9 ∧ ¬ r.foot u.n g9 ∧ ¬ q.foot D C g9 ∧ w.heap.size ≤ g9 := by
    refine ⟨fun y => ?_, fun y => ?_, fun y => ?_, by rw [hg9]; exact Nat.le_refl _⟩
    · have := (HA.out.cd.foot_base g9 y).2; omega
    · have := (HA.out.rk.foot_base g9 y).2; omega
    · have := (HA.out.qk.foot_base g9 y).2; omega
  have HN9 := Lib.hid hn9
  clear hal hn9 hg9
  rintro V ⟨v1, v2, v3⟩
  have xc0 := v1.cell 0
  have xc1 := v1.cell 1
  have xc2 := v1.cell 2
  have xc3 := v1.cell 3
  have xc4 := v1.cell 4
  simp only [dcc, List.getElem?_cons_zero, List.getElem?_cons_succ] at xc0 xc1 xc2 xc3 xc4
  have V1 := Lib.hid v1
  have V2 := Lib.hid v2
  have V3 := Lib.hid v3
  clear v1 v2 v3
  go_upto_region 2 with ((with_reducible refine Calls.mono (P.out _) ?_); rintro e wp ⟨rfl, rfl⟩)
  clear P
  have hxV := HX.out.p.below V3.out (Nat.le_refl _)
  have hb0 := HA.out.b0_le
  have F0 := dpower_any V2.out.cd.dk (fun j hj => by have := HR.out.cnt j hj; omega) (c := x.pc) hxV HX.out.pl (by have := HX.out.pz; omega) (fun hm b e y => by
    have h1 := HXp.out hm b e
    have h2 := (V2.out.cd.foot_base b (.inl y)).1
    omega)
  rw [HG.out.1] at F0
  have F := Lib.hid F0
  clear F0 hxV
  go_upto_region 28 with ((with_reducible refine Calls.mono F.out ?_); rintro e w1 ⟨rfl, d1, hch⟩)
  have hc1 := V2.out.cd.onD hch (power_all t x.ps).1
  have a1 := V2.out.onC hc1
  have B9 := hc1.K.blk V1.out (fun y => HN9.out.1 (hard_foot y))
  have yc0 := B9.cell 0
  have yc1 := B9.cell 1
  have yc2 := B9.cell 2
  have yc3 := B9.cell 3
  have yc4 := B9.cell 4
  simp only [dcc, List.getElem?_cons_zero, List.getElem?_cons_succ] at yc0 yc1 yc2 yc3 yc4
  have hxW := (HX.out.p.below V3.out (Nat.le_refl _)).kept hc1.K (fun hn b e y => by
    have h1 := HXp.out (by rw [← HX.out.pl]; simpa [iz] using hn) b e
    have h2 := (V2.out.cd.foot_base b (hard_foot y)).1
    omega)
  have Q0 := rpower_any a1.rk (fun j hj => by rw [HR.out.n_] at hj; rw [HR.out.vers_ j hj]; have := HR.out.cnt j hj; omega) (c := x.pc) hxW HX.out.pl (by have := HX.out.pz; omega) (fun hm b e y => by
    have h1 := HXp.out hm b e
    have h2 := (a1.rk.foot_base b y).1
    have h3 := a1.bs
    omega)
  rw [HG.out.2.2.1] at Q0
  have Q := Lib.hid Q0
  have HB1 := Lib.hid (hc1.bel V2.out.cd)
  have A1 := Lib.hid a1
  have HK1 := Lib.hid (show d1.g = d.g from hch.g)
  clear Q0 F a1 B9 hc1 hch xc0 xc1 xc2 xc3 xc4 hxW
  go_wp2_with ((with_reducible refine Calls.mono Q.out ?_); rintro e w2 ⟨rfl, r2, hc2⟩)
  go_ret
  have hb := HB1.out.trans (Rch.bel0 A1.out hc2)
  have hpn := (power_all t x.ps).1
  exact ⟨rfl, ⟨d1, k, r2, q, _, s, _, D, C, A1.out.onR hc2, (HR.out.power x.ps).more (by omega), by rw [hpn]; exact HO.out, by rw [hpn]; exact HRc.out, hpn.trans HN.out, HRm.out, HK1.out.trans HG.out.1, HG.out.2.1, hc2.g.trans HG.out.2.2.1, HG.out.2.2.2⟩, (V3.out.mono HA.out.b0_le).trans hb⟩

set_option maxRecDepth 100000 in
set_option maxHeartbeats 8000000 in
theorem does_sync {w : World} {b0 br gd gk gr gq room c : Nat} {x : Dc} (h : All w b0 br gd gk gr gq room c) (hc : c ≤ 130000000000) (hx : DcOk w x) (hxb : 0 < x.b.length → ∀ b, ablk x.bA = some b → b < b0) (hxp : 0 < x.pn → ∀ b, ablk x.pA = some b → b < b0) (hkd : pickN x.K 7 = 6) :
    Calls Try.prog 23 #[.pointer (some ⟨gd, 0, none⟩), .pointer (some ⟨gk, 0, none⟩), .pointer (some ⟨gr, 0, none⟩), .pointer (some ⟨gq, 0, none⟩), .agg #[.int .i64 x.K, .int .i64 x.N, .int .i64 x.kd, .slice x.bA x.b.length x.bc, .slice x.pA x.pn x.pc]] w fun e w' => e = .returned (.bool true) ∧ All w' b0 br gd gk gr gq room (c + 100) ∧ Below b0 w w' := by
  obtain ⟨d, k, r, q, t, s, u, D, C, hA, hR, hO, hRc, hn, hrm, hgd, hgk, hgr, hgq⟩ := h
  have hlen := hRc.len hO hn
  have P0 := fun W => pick13_any x.K hx.k (n := 7) (by omega) (by omega) W
  rw [hkd] at P0
  push_cast at P0
  have P := Lib.hid P0
  have HA := Lib.hid hA
  have HR := Lib.hid hR
  have HO := Lib.hid hO
  have HRc := Lib.hid hRc
  have HN := Lib.hid hn
  have HRm := Lib.hid hrm
  have HX := Lib.hid hx
  have HXb := Lib.hid hxb
  have HXp := Lib.hid hxp
  have HG := Lib.hid (show d.g = gd ∧ k.g = gk ∧ r.g = gr ∧ q.g = gq from ⟨hgd, hgk, hgr, hgq⟩)
  have HLen := Lib.hid hlen
  clear P0 hA hR hO hRc hn hrm hx hxb hxp hgd hgk hgr hgq hkd hlen
  go_enter Try.func23, Try.ntmps23
  go_upto_region 1 with fail
  obtain ⟨g9, hg9⟩ : ∃ g, g = w.heap.size := ⟨_, rfl⟩
  rw [← hg9]
  have hal : Below w.heap.size w (w.alloc (.cells (dcc x).toArray 37)) := (Below.refl _ _).alloc (Nat.le_refl _) _
  refine wp_world (fun V => Blk V g9 37 (dcc x) ∧ Am V b0 br d k r q t s u room D C ∧ Below w.heap.size w V) ⟨Blk.new_at hg9, HA.out.below hal (Nat.le_refl _), hal⟩ ?_
  have hn9 : ¬ footC d k g9 ∧ ¬ r.foot u.n g9 ∧ ¬ q.foot D C g9 ∧ w.heap.size ≤ g9 := by
    refine ⟨fun y => ?_, fun y => ?_, fun y => ?_, by rw [hg9]; exact Nat.le_refl _⟩
    · have := (HA.out.cd.foot_base g9 y).2; omega
    · have := (HA.out.rk.foot_base g9 y).2; omega
    · have := (HA.out.qk.foot_base g9 y).2; omega
  have HN9 := Lib.hid hn9
  clear hal hn9 hg9
  rintro V ⟨v1, v2, v3⟩
  have xc0 := v1.cell 0
  have xc1 := v1.cell 1
  have xc2 := v1.cell 2
  have xc3 := v1.cell 3
  have xc4 := v1.cell 4
  simp only [dcc, List.getElem?_cons_zero, List.getElem?_cons_succ] at xc0 xc1 xc2 xc3 xc4
  have V1 := Lib.hid v1
  have V2 := Lib.hid v2
  have V3 := Lib.hid v3
  clear v1 v2 v3
  go_upto_region 2 with ((with_reducible refine Calls.mono (P.out _) ?_); rintro e wp ⟨rfl, rfl⟩)
  clear P
  have F0 := dflush_any V2.out.cd.dk
  rw [HG.out.1] at F0
  have F := Lib.hid F0
  clear F0
  go_upto_region 34 with ((with_reducible refine Calls.mono F.out ?_); rintro e w1 ⟨rfl, d1, hd1, hg1, hk1, hf1⟩)
  have hch : Ch V w1 b0 d d1 (flushD t) := ⟨hd1, hg1.trans HG.out.1.symm, hk1, hf1⟩
  have hc1 := V2.out.cd.onD hch (flushD_n t)
  have a1 := V2.out.onC hc1
  have Q0 := rflush_any a1.rk
  rw [HG.out.2.2.1] at Q0
  have Q := Lib.hid Q0
  have HB1 := Lib.hid (hc1.bel V2.out.cd)
  have A1 := Lib.hid a1
  have HK1 := Lib.hid (show d1.g = d.g from hch.g)
  clear Q0 F a1 hc1 hch hd1 hg1 hk1 hf1
  go_wp2_with ((with_reducible refine Calls.mono Q.out ?_); rintro e w2 ⟨rfl, r2, hc2⟩)
  go_ret
  have hb := HB1.out.trans (Rch.bel0 A1.out hc2)
  have hpn := flushD_n t
  exact ⟨rfl, ⟨d1, k, r2, q, _, s, _, D, C, A1.out.onR hc2, (HR.out.flush (by omega)).more (by omega), by rw [hpn]; exact HO.out, by rw [hpn]; exact HRc.out, hpn.trans HN.out, HRm.out, HK1.out.trans HG.out.1, HG.out.2.1, hc2.g.trans HG.out.2.2.1, HG.out.2.2.2⟩, (V3.out.mono HA.out.b0_le).trans hb⟩

set_option maxRecDepth 100000 in
set_option maxHeartbeats 8000000 in
theorem does_rot {w : World} {b0 br gd gk gr gq room c : Nat} {x : Dc} (h : All w b0 br gd gk gr gq room c) (hc : c ≤ 130000000000) (hx : DcOk w x) (hxb : 0 < x.b.length → ∀ b, ablk x.bA = some b → b < b0) (hxp : 0 < x.pn → ∀ b, ablk x.pA = some b → b < b0) (hkd : pickN x.K 7 = 5) :
    Calls Try.prog 23 #[.pointer (some ⟨gd, 0, none⟩), .pointer (some ⟨gk, 0, none⟩), .pointer (some ⟨gr, 0, none⟩), .pointer (some ⟨gq, 0, none⟩), .agg #[.int .i64 x.K, .int .i64 x.N, .int .i64 x.kd, .slice x.bA x.b.length x.bc, .slice x.pA x.pn x.pc]] w fun e w' => e = .returned (.bool true) ∧ All w' b0 br gd gk gr gq room (c + 100) ∧ Below b0 w w' := by
  obtain ⟨d, k, r, q, t, s, u, D, C, hA, hR, hO, hRc, hn, hrm, hgd, hgk, hgr, hgq⟩ := h
  have hlen := hRc.len hO hn
  have P0 := fun W => pick13_any x.K hx.k (n := 7) (by omega) (by omega) W
  rw [hkd] at P0
  push_cast at P0
  have P := Lib.hid P0
  have HA := Lib.hid hA
  have HR := Lib.hid hR
  have HO := Lib.hid hO
  have HRc := Lib.hid hRc
  have HN := Lib.hid hn
  have HRm := Lib.hid hrm
  have HX := Lib.hid hx
  have HXb := Lib.hid hxb
  have HXp := Lib.hid hxp
  have HG := Lib.hid (show d.g = gd ∧ k.g = gk ∧ r.g = gr ∧ q.g = gq from ⟨hgd, hgk, hgr, hgq⟩)
  have HLen := Lib.hid hlen
  clear P0 hA hR hO hRc hn hrm hx hxb hxp hgd hgk hgr hgq hkd hlen
  have hpl := pickN_lt x.N (n := 20480) (by omega)
  have N0 := fun W => pick13_any x.N HX.out.n (n := 20480) (by omega) (by omega) W
  obtain ⟨pp, hpp⟩ : ∃ z, z = pickN x.N 20480 := ⟨_, rfl⟩
  rw [← hpp] at N0 hpl
  push_cast at N0
  have NP := Lib.hid N0
  have HPl := Lib.hid hpl
  clear N0 hpl hpp
  go_enter Try.func23, Try.ntmps23
  go_upto_region 1 with fail
  obtain ⟨g9, hg9⟩ : ∃ g, g = w.heap.size := ⟨_, rfl⟩
  rw [← hg9]
  have hal : Below w.heap.size w (w.alloc (.cells (dcc x).toArray 37)) := (Below.refl _ _).alloc (Nat.le_refl _) _
  refine wp_world (fun V => Blk V g9 37 (dcc x) ∧ Am V b0 br d k r q t s u room D C ∧ Below w.heap.size w V) ⟨Blk.new_at hg9, HA.out.below hal (Nat.le_refl _), hal⟩ ?_
  have hn9 : ¬ footC d k g9 ∧ ¬ r.foot u.n g9 ∧ ¬ q.foot D C g9 ∧ w.heap.size ≤ g9 := by
    refine ⟨fun y => ?_, fun y => ?_, fun y => ?_, by rw [hg9]; exact Nat.le_refl _⟩
    · have := (HA.out.cd.foot_base g9 y).2; omega
    · have := (HA.out.rk.foot_base g9 y).2; omega
    · have := (HA.out.qk.foot_base g9 y).2; omega
  have HN9 := Lib.hid hn9
  clear hal hn9 hg9
  rintro V ⟨v1, v2, v3⟩
  have xc0 := v1.cell 0
  have xc1 := v1.cell 1
  have xc2 := v1.cell 2
  have xc3 := v1.cell 3
  have xc4 := v1.cell 4
  simp only [dcc, List.getElem?_cons_zero, List.getElem?_cons_succ] at xc0 xc1 xc2 xc3 xc4
  have V1 := Lib.hid v1
  have V2 := Lib.hid v2
  have V3 := Lib.hid v3
  clear v1 v2 v3
  go_upto_region 2 with ((with_reducible refine Calls.mono (P.out _) ?_); rintro e wp ⟨rfl, rfl⟩)
  clear P
  obtain ⟨kk, hkk⟩ : ∃ z, z = 50 + pp / 2048 := ⟨_, rfl⟩
  obtain ⟨ii, hii⟩ : ∃ z, z = pp % 2048 := ⟨_, rfl⟩
  have hki : kk * 2048 + ii = 102400 + pp := by omega
  have hkn : kk < t.n := by rw [HN.out]; have := HPl.out; omega
  have hin : ii < 2048 := by omega
  have F0 := drot_any V2.out.cd.dk hkn hin (by have := HR.out.cnt kk hkn; omega)
  have hcast : ((kk * 2048 + ii : Nat) : Int) = 102400 + (pp : Int) := by omega
  rw [HG.out.1, hcast] at F0
  have HCast := Lib.hid hcast
  clear hcast
  have F := Lib.hid F0
  have HKI := Lib.hid (show kk * 2048 + ii = 102400 + pp ∧ kk < t.n ∧ ii < 2048 from ⟨hki, hkn, hin⟩)
  have hp2 : (102400 : Int) + (pp : Int) ≤ 9223372036854775807 ∧ -9223372036854775808 ≤ (102400 : Int) + (pp : Int) := by have := HPl.out; omega
  obtain ⟨hp3, hp4⟩ := hp2
  clear F0 hkk hii hki hkn hin
  go_upto_region 31 with (first | ((with_reducible refine Calls.mono (NP.out _) ?_); rintro e wn ⟨rfl, rfl⟩) | ((with_reducible refine Calls.mono F.out ?_); rintro e w1 ⟨rfl, hch⟩))
  have hc1 := V2.out.cd.onD hch rfl
  have a1 := V2.out.onC hc1
  have B9 := hc1.K.blk V1.out (fun y => HN9.out.1 (hard_foot y))
  have yc0 := B9.cell 0
  have yc1 := B9.cell 1
  have yc2 := B9.cell 2
  have yc3 := B9.cell 3
  have yc4 := B9.cell 4
  simp only [dcc, List.getElem?_cons_zero, List.getElem?_cons_succ] at yc0 yc1 yc2 yc3 yc4
  have hku : kk < u.n := by rw [HR.out.n_]; exact HKI.out.2.1
  have Q0 := rrot_ok a1.rk hku HKI.out.2.2 (by rw [HR.out.vers_ kk HKI.out.2.1]; have := HR.out.cnt kk HKI.out.2.1; omega)
  rw [HG.out.2.2.1, HCast.out] at Q0
  have Q := Lib.hid Q0
  have HB1 := Lib.hid (hc1.bel V2.out.cd)
  have A1 := Lib.hid a1
  have HK1 := Lib.hid (show d.g = d.g from hch.g)
  clear Q0 F a1 B9 hc1 hch xc0 xc1 xc2 xc3 xc4 hku
  go_wp2_with (first | ((with_reducible refine Calls.mono (NP.out _) ?_); rintro e wn ⟨rfl, rfl⟩) | ((with_reducible refine Calls.mono Q.out ?_); rintro e w2 ⟨rfl, r2, hc2⟩))
  go_ret
  have hb := HB1.out.trans (Rch.bel0 A1.out hc2)
  exact ⟨rfl, ⟨d, k, r2, q, _, s, _, D, C, A1.out.onR hc2, (HR.out.rot HKI.out.2.1).more (by omega), HO.out, HRc.out, HN.out, HRm.out, HG.out.1, HG.out.2.1, hc2.g.trans HG.out.2.2.1, HG.out.2.2.2⟩, (V3.out.mono HA.out.b0_le).trans hb⟩
end Go.Proofs.Ytjndopmjlbhajaa

namespace Go.Proofs.Ytjndopmjlbhajaa
open Go.RowKit Go.Maps
set_option linter.unusedVariables false
set_option linter.unusedSimpArgs false

theorem Am.pokes {F : Nat → Prop} {w w' : World} {b0 br room : Nat} {d : Dw} {k : Cw} {r : Rw} {q : Qw} {t u : Dsk} {s : Ca} {D C : List Hd} (h : Am w b0 br d k r q t s u room D C) (K : Kept F w w') (hF : ∀ b, F b → ¬ footC d k b ∧ ¬ q.foot D C b) (hrk : Rk w' br r u) : Am w' b0 br d k r q t s u room D C :=
  ⟨h.cd.kept K (fun b x y => (hF b y).1 x), hrk, h.qk.kept K (fun b x y => (hF b y).2 x), h.cr, h.cq, h.rq, h.bs⟩
theorem Am.keep {w w' : World} {b0 br room : Nat} {d : Dw} {k : Cw} {r : Rw} {q : Qw} {t u : Dsk} {s : Ca} {D C : List Hd} (h : Am w b0 br d k r q t s u room D C) (K : Kept (fun b => hardC d k b ∨ b = q.g) w w') : Rk w' br r u :=
  h.cd.rk_kept h.rk K h.cr (fun x => h.rq _ x (.inl rfl)) (fun ho => h.qk.bod_ne ho)

set_option maxRecDepth 100000 in
set_option maxHeartbeats 8000000 in
theorem does_get {w : World} {b0 br gd gk gr gq room c : Nat} {x : Dc} (h : All w b0 br gd gk gr gq room c) (hc : c ≤ 130000000000) (hx : DcOk w x) (hxb : 0 < x.b.length → ∀ b, ablk x.bA = some b → b < b0) (hxp : 0 < x.pn → ∀ b, ablk x.pA = some b → b < b0) (hkd : pickN x.K 7 = 0) :
    Calls Try.prog 23 #[.pointer (some ⟨gd, 0, none⟩), .pointer (some ⟨gk, 0, none⟩), .pointer (some ⟨gr, 0, none⟩), .pointer (some ⟨gq, 0, none⟩), .agg #[.int .i64 x.K, .int .i64 x.N, .int .i64 x.kd, .slice x.bA x.b.length x.bc, .slice x.pA x.pn x.pc]] w fun e w' => e = .returned (.bool true) ∧ All w' b0 br gd gk gr gq room (c + 100) ∧ Below b0 w w' := by
  obtain ⟨d, k, r, q, t, s, u, D, C, hA, hR, hO, hRc, hn, hrm, hgd, hgk, hgr, hgq⟩ := h
  have hlen := hRc.len hO hn
  have P0 := fun W => pick13_any x.K hx.k (n := 7) (by omega) (by omega) W
  rw [hkd] at P0
  push_cast at P0
  have P := Lib.hid P0
  have HA := Lib.hid hA
  have HR := Lib.hid hR
  have HO := Lib.hid hO
  have HRc := Lib.hid hRc
  have HN := Lib.hid hn
  have HRm := Lib.hid hrm
  have HX := Lib.hid hx
  have HXb := Lib.hid hxb
  have HXp := Lib.hid hxp
  have HG := Lib.hid (show d.g = gd ∧ k.g = gk ∧ r.g = gr ∧ q.g = gq from ⟨hgd, hgk, hgr, hgq⟩)
  have HLen := Lib.hid hlen
  clear P0 hA hR hO hRc hn hrm hx hxb hxp hgd hgk hgr hgq hkd hlen
  go_enter Try.func23, Try.ntmps23
  go_upto_region 1 with fail
  obtain ⟨g9, hg9⟩ : ∃ g, g = w.heap.size := ⟨_, rfl⟩
  rw [← hg9]
  have hal : Below w.heap.size w (w.alloc (.cells (dcc x).toArray 37)) := (Below.refl _ _).alloc (Nat.le_refl _) _
  refine wp_world (fun V => Blk V g9 37 (dcc x) ∧ Am V b0 br d k r q t s u room D C ∧ Below w.heap.size w V) ⟨Blk.new_at hg9, HA.out.below hal (Nat.le_refl _), hal⟩ ?_
  have hn9 : ¬ footC d k g9 ∧ ¬ r.foot u.n g9 ∧ ¬ q.foot D C g9 ∧ w.heap.size ≤ g9 := by
    refine ⟨fun y => ?_, fun y => ?_, fun y => ?_, by rw [hg9]; exact Nat.le_refl _⟩
    · have := (HA.out.cd.foot_base g9 y).2; omega
    · have := (HA.out.rk.foot_base g9 y).2; omega
    · have := (HA.out.qk.foot_base g9 y).2; omega
  have HN9 := Lib.hid hn9
  clear hal hn9 hg9
  rintro V ⟨v1, v2, v3⟩
  have xc0 := v1.cell 0
  have xc1 := v1.cell 1
  have xc2 := v1.cell 2
  have xc3 := v1.cell 3
  have xc4 := v1.cell 4
  simp only [dcc, List.getElem?_cons_zero, List.getElem?_cons_succ] at xc0 xc1 xc2 xc3 xc4
  have V1 := Lib.hid v1
  have V2 := Lib.hid v2
  have V3 := Lib.hid v3
  clear v1 v2 v3
  go_upto_region 2 with ((with_reducible refine Calls.mono (P.out _) ?_); rintro e wp ⟨rfl, rfl⟩)
  clear P
  have hzb := zeroBk
  have G0 := get_any_c V2.out.cd HO.out (z := x.N)
  have hgo := get_c_ok HO.out x.N
  have hgr := get_room HO.out x.N
  obtain ⟨⟨cd, y, s1⟩, hr⟩ : ∃ z, z = getC t s x.N := ⟨_, rfl⟩
  rw [← hr] at G0 hgo hgr
  rw [HG.out.2.1] at G0
  have G := Lib.hid G0
  have HGo := Lib.hid hgo
  have HGr := Lib.hid hgr
  have HGe := Lib.hid hr
  clear G0 hgo hgr hr
  go_upto_region 4 with ((with_reducible refine Calls.mono G.out ?_); rintro e w1 hG; obtain ⟨k1, A1, c1, rfl, hc1, ho1, hf1⟩ := hG)
  obtain ⟨g11, h11⟩ : ∃ g, g = w1.heap.size := ⟨_, rfl⟩
  rw [← h11]
  have hal : Below w1.heap.size w1 (w1.alloc (.cells #[.int .i64 (y.k : Int), .slice A1 y.b.length c1] 33)) := (Below.refl _ _).alloc (Nat.le_refl _) _
  have a1 := V2.out.onC hc1
  have hb1 := hc1.bel V2.out.cd
  have b91 := hc1.K.blk V1.out (fun y => HN9.out.1 (hard_foot y))
  have hk1 := hc1.gk
  have ho1 : Own w1 V.heap.size 5 1 A1 y.b.length c1 (bvs y.b) := ho1
  have hb0w : b0 ≤ w1.heap.size := Nat.le_trans V2.out.b0_le hc1.K.size
  refine wp_world (fun U => Blk U g11 33 [.int .i64 (y.k : Int), .slice A1 y.b.length c1] ∧ Blk U g9 37 (dcc x) ∧ Am U b0 br d k1 r q t s1 u room D C ∧ Own U V.heap.size 5 1 A1 y.b.length c1 (bvs y.b) ∧ Kept (hardC d k) V U ∧ Below b0 V U) ⟨Blk.new_at h11, b91.alloc _, a1.below hal (Nat.le_refl _), ho1.alloc _, hc1.K.trans (Kept.of_below (F := fun _ => False) hal (Nat.le_refl _)) (fun _ _ x => x.elim), hb1.trans (hal.mono hb0w)⟩ ?_
  have HA1 := Lib.hid (show (∀ b, ablk A1 = some b → ¬ footC d k1 b) ∧ (∀ b, ablk A1 = some b → V.heap.size ≤ b) ∧ k1.g = k.g ∧ V.heap.size ≤ g11 from ⟨hf1, fun b e => (ho1.blk e).1, hk1, by rw [h11]; exact hc1.K.size⟩)
  clear hal a1 hb1 b91 hk1 ho1 hb0w hc1 hf1 h11 G xc0 xc1 xc2 xc3 xc4
  rintro U ⟨u1, u2, u3, u4, u5, u6⟩
  have Q0 := rcget_any u3.qk u3.rk (by rw [← HRm.out]; exact HLen.out.2.2.2) (by have := HLen.out; omega) (by have := HLen.out; omega) u3.b0_le (z := x.N) HX.out.n
  rw [HG.out.2.2.2] at Q0
  have Q := Lib.hid Q0
  have yc1 := u2.cell 1
  simp only [dcc, List.getElem?_cons_zero, List.getElem?_cons_succ] at yc1
  have U1 := Lib.hid u1
  have U3 := Lib.hid u3
  have U4 := Lib.hid u4
  have U5 := Lib.hid u5
  have U6 := Lib.hid u6
  have hus : V.heap.size ≤ U.heap.size := u5.size
  have HUs := Lib.hid hus
  clear Q0 u1 u2 u3 u4 u5 u6 hus
  go_upto_region 5 with ((with_reducible refine Calls.mono Q.out ?_); rintro e w2 hG; obtain ⟨cd2, k2, bb, A2, c2, C2, q2, rfl, hq2, hb2, hgh⟩ := hG)
  rw [← HRm.out] at hgh
  have hrcg := rc_get HO.out HRc.out HR.out.n_ (fun m hm => by unfold readB; rw [HR.out.has hm]) hgh
  rw [← HGe.out] at hrcg
  obtain ⟨e1, e2, hrc2⟩ := hrcg
  have e1 : cd = cd2 := e1
  have e2 : y = ⟨k2, bb⟩ := e2
  subst e1
  subst e2
  obtain ⟨g13, h13⟩ : ∃ g, g = w2.heap.size := ⟨_, rfl⟩
  rw [← h13]
  have hal : Below w2.heap.size w2 (w2.alloc (.cells #[.int .i64 (k2 : Int), .slice A2 bb.length c2] 33)) := (Below.refl _ _).alloc (Nat.le_refl _) _
  have a2 := U3.out.onQ hq2
  have h11l := U1.out.lt
  have hqg : g11 ≠ q.g := by have h1 := V2.out.qk.blk.lt; have h2 := HA1.out.2.2.2; omega
  have b11 := hq2.K.blk U1.out hqg
  have hoq := own_kept U4.out hq2.K (fun b e z => (by have h1 := HA1.out.2.1 b e; have h2 := V2.out.qk.blk.lt; have z : b = q.g := z; omega))
  have hKq : Kept (fun b => hardC d k b ∨ b = q.g) V w2 := (U5.out.mono (fun b _ x => .inl x)).trans hq2.K (fun b _ e => .inr e)
  have hb0w : b0 ≤ w2.heap.size := Nat.le_trans U3.out.b0_le hq2.K.size
  have hbq : Below b0 V w2 := U6.out.trans (hq2.bel U3.out.qk)
  have hnq : ∀ b, ablk A1 = some b → ¬ q2.foot D C2 b := fun b e z => by
    rcases hq2.foot b z with z | z | z
    · have h1 := (V2.out.qk.foot_base b z).2; have h2 := HA1.out.2.1 b e; omega
    · exact z
    · have := (U4.out.blk e).2; omega
  have hq2g := hq2.g
  refine wp_world (fun X => Blk X g13 33 [.int .i64 (k2 : Int), .slice A2 bb.length c2] ∧ Blk X g11 33 [.int .i64 (k2 : Int), .slice A1 bb.length c1] ∧ Am X b0 br d k1 r q2 t s1 u room D C2 ∧ Own X V.heap.size 5 1 A1 bb.length c1 (bvs bb) ∧ Bs X 0 A2 bb.length c2 bb ∧ Kept (fun b => hardC d k b ∨ b = q.g) V X ∧ Below b0 V X) ⟨Blk.new_at h13, b11.alloc _, a2.below hal (Nat.le_refl _), hoq.alloc _, hb2.below hal (Nat.le_refl _), hKq.trans (Kept.of_below (F := fun _ => False) hal (Nat.le_refl _)) (fun _ _ x => x.elim), hbq.trans (hal.mono hb0w)⟩ ?_
  have HRc2 := Lib.hid hrc2
  have HNq := Lib.hid (show (∀ b, ablk A1 = some b → ¬ q2.foot D C2 b) ∧ q2.g = q.g from ⟨hnq, hq2g⟩)
  clear hal a2 h11l hqg b11 hoq hKq hb0w hbq hnq hq2g hq2 hb2 hgh hrc2 h13 Q yc1 U1 U3 U4 U5 U6 HUs
  rintro X ⟨x1, x2, x3, x4, x5, x6, x7⟩
  have S0 := bsame_any (k2 : Int) (k2 : Int) (own_bs x4) x5
  rw [decide_eq_true ⟨rfl, rfl⟩] at S0
  have S := Lib.hid S0
  have z0 := x1.cell 0
  have z1 := x1.cell 1
  have y0 := x2.cell 0
  have y1 := x2.cell 1
  simp only [List.getElem?_cons_zero, List.getElem?_cons_succ] at z0 z1 y0 y1
  have X2 := Lib.hid x2
  have X3 := Lib.hid x3
  have X4 := Lib.hid x4
  have X6 := Lib.hid x6
  have X7 := Lib.hid x7
  clear S0 x1 x2 x3 x4 x5 x6 x7
  go_upto_region 6 with ((with_reducible refine Calls.mono S.out ?_); rintro e w3 ⟨rfl, hb3⟩)
  obtain ⟨m, hm⟩ : ∃ m, m = bb.length := ⟨_, rfl⟩
  have Y2 := Lib.hid (X2.out.below hb3 X2.out.lt)
  have Y3 := Lib.hid (X3.out.below hb3 (Nat.le_refl _))
  have Y4 := Lib.hid (X4.out.below hb3 (Nat.le_refl _))
  have Y6 := Lib.hid (X6.out.trans (Kept.of_below (F := fun _ => False) hb3 (Nat.le_refl _)) (fun _ _ x => x.elim))
  have Y7 := Lib.hid (X7.out.trans (hb3.mono X3.out.b0_le))
  have hng : ∀ b, ablk A1 = some b → ¬ g11 = b := fun b e z => by
    have h0 := Y2.out
    exact blk_own_ne h0 Y4.out (by decide) (by rw [e, ← z])
  have HNg := Lib.hid hng
  rw [← hm] at Y2 Y4 ⊢
  have HM := Lib.hid hm
  clear S hb3 hm X2 X3 X4 X6 X7 z0 z1 y0 y1 hng
  go_wp2
  go_loopw [16] (fun s16 wr => ∃ (i : Nat) (xs : List Value), i ≤ m ∧ s16 = .int .i64 i ∧ Own wr V.heap.size 5 1 A1 m c1 xs ∧ Kept (fun b => ablk A1 = some b) w3 wr) (fun s16 _ => m - (intOf s16).toNat)
  case atStart => exact ⟨0, _, by omega, rfl, Y4.out, Kept.refl _ _⟩
  case round =>
    obtain ⟨i, xs, hi, rfl, ho, hK⟩ := hrel
    have b11 := hK.blk Y2.out (fun e => HNg.out g11 e rfl)
    have y1 := b11.cell 1
    simp only [List.getElem?_cons_zero, List.getElem?_cons_succ] at y1
    have hml : m ≤ 9223372036854775807 := by have := ho.cap; omega
    have HO1 := Lib.hid ho
    have HK1 := Lib.hid hK
    clear ho hK b11
    by_cases hlt : i < m
    · obtain ⟨g, hAg, _, _, hce, hfr⟩ := HO1.out.cell (k := i) (by rw [HO1.out.len1]; exact hlt)
      have hin : (i : Int) < (m : Int) := by omega
      have HAg := Lib.hid hAg
      rw [hAg] at y1
      clear hAg
      go_wp2
      have hs := HO1.out
      rw [HAg.out] at hs
      have hs2 := hs.set_ i (.int .u8 99)
      rw [← HAg.out] at hs2
      have hk2 := HK1.out.trans (kept_set wr g i (.int .u8 99)) (F := fun b => ablk A1 = some b) (fun b _ e => by rw [HAg.out, e]; rfl)
      have HS2 := Lib.hid hs2
      have HK2 := Lib.hid hk2
      clear hs hs2 hk2 HO1 HK1 hce hfr y1
      go_roundw
      case rel => exact ⟨i + 1, _, by omega, by norm_cast, HS2.out, HK2.out⟩
      case measure => simp only [intOf]; omega
    · obtain rfl : i = m := by omega
      go_wp2
      go_ret
      have hKV : Kept (fun b => hardC d k b ∨ b = q.g) V wr := Y6.out.trans HK1.out (fun b hb e => by have := HA1.out.2.1 b e; omega)
      have hrk := V2.out.keep hKV
      have ha := Y3.out.pokes HK1.out (fun b e => ⟨HA1.out.1 b e, HNq.out.1 b e⟩) hrk
      have hbb : Below b0 w wr := ((V3.out.mono HA.out.b0_le).trans Y7.out).trans (HK1.out.below Y3.out.b0_le (fun b e => by have h1 := HA1.out.2.1 b e; have h2 := V2.out.b0_le; omega))
      exact ⟨rfl, ⟨d, k1, r, q2, t, s1, u, D, C2, ha, HR.out.more (by omega), HGo.out, HRc2.out, HN.out, HGr.out.trans HRm.out, HG.out.1, HA1.out.2.2.1.trans HG.out.2.1, HG.out.2.2.1, HNq.out.2.trans HG.out.2.2.2⟩, hbb⟩
end Go.Proofs.Ytjndopmjlbhajaa

namespace Go.Proofs.Ytjndopmjlbhajaa
open Go.RowKit Go.Maps
set_option linter.unusedVariables false
set_option linter.unusedSimpArgs false

set_option maxRecDepth 100000 in
set_option maxHeartbeats 8000000 in
theorem does_put {w : World} {b0 br gd gk gr gq room c : Nat} {x : Dc} (h : All w b0 br gd gk gr gq room c) (hc : c ≤ 130000000000) (hx : DcOk w x) (hxb : 0 < x.b.length → ∀ b, ablk x.bA = some b → b < b0) (hxp : 0 < x.pn → ∀ b, ablk x.pA = some b → b < b0) (hkd : pickN x.K 7 = 1) :
    Calls Try.prog 23 #[.pointer (some ⟨gd, 0, none⟩), .pointer (some ⟨gk, 0, none⟩), .pointer (some ⟨gr, 0, none⟩), .pointer (some ⟨gq, 0, none⟩), .agg #[.int .i64 x.K, .int .i64 x.N, .int .i64 x.kd, .slice x.bA x.b.length x.bc, .slice x.pA x.pn x.pc]] w fun e w' => e = .returned (.bool true) ∧ All w' b0 br gd gk gr gq room (c + 100) ∧ Below b0 w w' := by
  obtain ⟨d, k, r, q, t, s, u, D, C, hA, hR, hO, hRc, hn, hrm, hgd, hgk, hgr, hgq⟩ := h
  have hlen := hRc.len hO hn
  have P0 := fun W => pick13_any x.K hx.k (n := 7) (by omega) (by omega) W
  rw [hkd] at P0
  push_cast at P0
  have P := Lib.hid P0
  have HA := Lib.hid hA
  have HR := Lib.hid hR
  have HO := Lib.hid hO
  have HRc := Lib.hid hRc
  have HN := Lib.hid hn
  have HRm := Lib.hid hrm
  have HX := Lib.hid hx
  have HXb := Lib.hid hxb
  have HXp := Lib.hid hxp
  have HG := Lib.hid (show d.g = gd ∧ k.g = gk ∧ r.g = gr ∧ q.g = gq from ⟨hgd, hgk, hgr, hgq⟩)
  have HLen := Lib.hid hlen
  clear P0 hA hR hO hRc hn hrm hx hxb hxp hgd hgk hgr hgq hkd hlen
  go_enter Try.func23, Try.ntmps23
  go_upto_region 1 with fail
  obtain ⟨g9, hg9⟩ : ∃ g, g = w.heap.size := ⟨_, rfl⟩
  rw [← hg9]
  have hal : Below w.heap.size w (w.alloc (.cells (dcc x).toArray 37)) := (Below.refl _ _).alloc (Nat.le_refl _) _
  refine wp_world (fun V => Blk V g9 37 (dcc x) ∧ Am V b0 br d k r q t s u room D C ∧ Below w.heap.size w V) ⟨Blk.new_at hg9, HA.out.below hal (Nat.le_refl _), hal⟩ ?_
  have hn9 : ¬ footC d k g9 ∧ ¬ r.foot u.n g9 ∧ ¬ q.foot D C g9 ∧ w.heap.size ≤ g9 := by
    refine ⟨fun y => ?_, fun y => ?_, fun y => ?_, by rw [hg9]; exact Nat.le_refl _⟩
    · have := (HA.out.cd.foot_base g9 y).2; omega
    · have := (HA.out.rk.foot_base g9 y).2; omega
    · have := (HA.out.qk.foot_base g9 y).2; omega
  have HN9 := Lib.hid hn9
  clear hal hn9 hg9
  rintro V ⟨v1, v2, v3⟩
  have xc0 := v1.cell 0
  have xc1 := v1.cell 1
  have xc2 := v1.cell 2
  have xc3 := v1.cell 3
  have xc4 := v1.cell 4
  simp only [dcc, List.getElem?_cons_zero, List.getElem?_cons_succ] at xc0 xc1 xc2 xc3 xc4
  have V1 := Lib.hid v1
  have V2 := Lib.hid v2
  have V3 := Lib.hid v3
  clear v1 v2 v3
  go_upto_region 2 with ((with_reducible refine Calls.mono (P.out _) ?_); rintro e wp ⟨rfl, rfl⟩)
  clear P
  have hbV := HX.out.b.below V3.out (Nat.le_refl _)
  have hl47 : x.b.length ≤ 140737488351232 := Nat.le_trans HX.out.b.2.1 HX.out.bz
  have HBV := Lib.hid hbV
  obtain ⟨m, hm⟩ : ∃ m, m = x.b.length := ⟨_, rfl⟩
  have hml : m ≤ 140737488351232 := by omega
  have HM := Lib.hid hm
  clear hbV hl47
  rw [← hm] at xc3 ⊢
  go_upto_region 14 with (at_builtin; refine wpList_app rfl (.tmp 61) (.tmp 64) 31 rfl 5 1 Try.underlying31 info5 rfl (by omega) rfl (Own.nil_ _ V.heap.size 5 1) rfl HBV.out.2.2.2 (by have := HM.out; rw [length_bvs]; omega) (bvs_oneCell _) (by omega) (by omega) (Nat.le_refl _) ?_; intro A1 c1 w1 ho1 hg1 _; rw [Nat.zero_add, List.nil_append] at ho1; rw [Nat.zero_add])
  have hbl : Below V.heap.size V w1 := (Below.refl _ _).grown hg1 (Nat.le_refl _) (by intro k hk; cases hk)
  have a1 := V2.out.below hbl (Nat.le_refl _)
  have b91 := V1.out.below hbl V1.out.lt
  have hbs := own_bs ho1
  rw [← hm] at ho1 ⊢
  have hoff : 0 < x.b.length → ∀ b, ablk A1 = some b → ¬ hardC d k b := fun _ b e y => by
    have h1 := (ho1.blk e).1
    have h2 := (V2.out.cd.foot_base b (hard_foot y)).2
    omega
  have Q0 := put_any_c a1.cd HO.out (z := x.N) (kd := x.kd) HX.out.n hbs hoff
  have hpo := put_ca_ok (z := x.N) (kd := x.kd) (l := x.b) HO.out
  have hpr := put_room (t := t) (s := s) (z := x.N) (kd := x.kd) (l := x.b)
  obtain ⟨⟨cd, s1⟩, hr⟩ : ∃ z, z = putR t s x.N x.kd x.b := ⟨_, rfl⟩
  rw [← hr] at Q0 hpo hpr
  rw [HG.out.2.1, ← hm] at Q0
  have Q := Lib.hid Q0
  have HPo := Lib.hid hpo
  have HPr := Lib.hid hpr
  have HRe := Lib.hid hr
  have A1h := Lib.hid a1
  have B91 := Lib.hid b91
  have HO1 := Lib.hid ho1
  have HBl := Lib.hid hbl
  have zc1 := b91.cell 1
  have zc2 := b91.cell 2
  simp only [dcc, List.getElem?_cons_zero, List.getElem?_cons_succ] at zc1 zc2
  clear Q0 hpo hpr hr a1 b91 hbs hoff ho1 hg1 hbl HBV hm xc0 xc1 xc2 xc3 xc4
  go_upto_region 15 with ((with_reducible refine Calls.mono Q.out ?_); rintro e w2 hQ; obtain ⟨rfl, k2, hc2⟩ := hQ)
  have a2 := Lib.hid (A1h.out.onC hc2)
  have hnf : ∀ b, ablk A1 = some b → ¬ footC d k2 b ∧ ¬ q.foot D C b ∧ V.heap.size ≤ b ∧ b ≠ g9 := fun b e => by
    have h1 := HO1.out.blk e
    refine ⟨fun y => ?_, fun y => ?_, h1.1, fun y => ?_⟩
    · rcases hc2.foot b y with z | z
      · have := (V2.out.cd.foot_base b z).2; omega
      · omega
    · have := (V2.out.qk.foot_base b y).2; omega
    · have := V1.out.lt; omega
  have HNf := Lib.hid hnf
  have ho2 := own_kept HO1.out hc2.K (fun b e y => by
    have h1 := (HO1.out.blk e).1
    have h2 := (V2.out.cd.foot_base b (hard_foot y)).2
    omega)
  have HO2 := Lib.hid ho2
  have b92 := Lib.hid (hc2.K.blk B91.out (fun y => HN9.out.1 (hard_foot y)))
  have HKV := Lib.hid (show Kept (fun b => hardC d k b ∨ b = q.g) V w2 from ((Kept.of_below (F := hardC d k) HBl.out (Nat.le_refl _)).trans hc2.K (fun _ _ x => x)).mono (fun b _ x => .inl x))
  have HBe := Lib.hid ((HBl.out.mono V2.out.b0_le).trans (hc2.bel A1h.out.cd))
  have HK2 := Lib.hid hc2.gk
  clear hnf ho2 hc2 Q A1h B91 HO1 HBl zc1 zc2
  go_wp2
  go_loopw [19] (fun s19 wr => ∃ (i : Nat) (xs : List Value), i ≤ m ∧ s19 = .int .i64 i ∧ Own wr V.heap.size 5 1 A1 m c1 xs ∧ Kept (fun b => ablk A1 = some b) w2 wr) (fun s19 _ => m - (intOf s19).toNat)
  case atStart => exact ⟨0, _, by omega, rfl, HO2.out, Kept.refl _ _⟩
  case round =>
    obtain ⟨i, xs, hi, rfl, ho, hK⟩ := hrel
    have HO1 := Lib.hid ho
    have HK1 := Lib.hid hK
    clear ho hK
    by_cases hlt : i < m
    · obtain ⟨g, hAg, _, _, hce, hfr⟩ := HO1.out.cell (k := i) (by rw [HO1.out.len1]; exact hlt)
      have hin : (i : Int) < (m : Int) := by omega
      have HAg := Lib.hid hAg
      subst hAg
      go_wp2
      have hs2 := HO1.out.set_ i (.int .u8 98)
      have hk2 := HK1.out.trans (kept_set wr g i (.int .u8 98)) (F := fun b => ablk (some (⟨g, 0, none⟩ : Addr)) = some b) (fun b _ e => by rw [e]; rfl)
      have HS2 := Lib.hid hs2
      have HK2' := Lib.hid hk2
      clear hs2 hk2 HO1 HK1 hce hfr
      go_roundw
      case rel => exact ⟨i + 1, _, by omega, by norm_cast, HS2.out, HK2'.out⟩
      case measure => simp only [intOf]; omega
    · obtain rfl : i = m := by omega
      have hKV : Kept (fun b => hardC d k b ∨ b = q.g) V wr := HKV.out.trans HK1.out (fun b hb e => by have := (HNf.out b e).2.2.1; omega)
      have hrk := V2.out.keep hKV
      have ha := a2.out.pokes HK1.out (fun b e => ⟨(HNf.out b e).1, (HNf.out b e).2.1⟩) hrk
      have hbV : Below b0 V wr := HBe.out.trans (HK1.out.below a2.out.b0_le (fun b e => by have h1 := (HNf.out b e).2.2.1; have h2 := V2.out.b0_le; omega))
      have b9 := HK1.out.blk b92.out (fun e => (HNf.out g9 e).2.2.2 rfl)
      have hxq : ∀ b, 0 < x.b.length → ablk x.bA = some b → b < b0 := fun b h e => HXb.out h b e
      have hbw := ((HX.out.b.below V3.out (Nat.le_refl _)).kept HKV.out (fun h b e y => by
        have h1 := hxq b h e
        rcases y with y | y
        · have := (V2.out.cd.foot_base b (hard_foot y)).1; omega
        · have := V2.out.qk.gb; omega)).kept HK1.out (fun h b e y => by
        have h1 := hxq b h e
        have h2 := (HNf.out b y).2.2.1
        have h3 := V2.out.b0_le
        omega)
      have P0 := rcput_any ha.qk ha.rk (by have := HLen.out; omega) (by have := HLen.out; omega) ha.b0_le (z := x.N) (kd := x.kd) hbw (by rw [← HM.out]; omega) (fun h b e y => by have h1 := hxq b h e; have h2 := ha.qk.gb; omega)
      rw [HG.out.2.2.2, ← HM.out] at P0
      have PP := Lib.hid P0
      have AH := Lib.hid ha
      have HBV := Lib.hid hbV
      have yc1 := b9.cell 1
      have yc2 := b9.cell 2
      have yc3 := b9.cell 3
      simp only [dcc, List.getElem?_cons_zero, List.getElem?_cons_succ] at yc1 yc2 yc3
      rw [← HM.out] at yc3
      clear P0 ha hbV hbw hxq hrk hKV b9 HO1 HK1 HO2 b92 HKV HBe a2 hlt
      go_wp2_with ((with_reducible refine Calls.mono PP.out ?_); rintro e w4 hP; obtain ⟨cd2, D2, C2, q2, rfl, hq2, hph⟩ := hP; have hrcp := rc_put HRc.out HR.out.n_ hph; rw [← HRe.out] at hrcp; obtain ⟨e1, hrc2⟩ := hrcp; have e1 : cd = cd2 := e1; subst e1)
      go_ret
      exact ⟨rfl, ⟨d, k2, r, q2, t, s1, u, D2, C2, AH.out.onQ hq2, HR.out.more (by omega), HPo.out, hrc2, HN.out, HPr.out.trans HRm.out, HG.out.1, HK2.out.trans HG.out.2.1, HG.out.2.2.1, hq2.g.trans HG.out.2.2.2⟩, ((V3.out.mono HA.out.b0_le).trans HBV.out).trans (hq2.bel AH.out.qk)⟩
end Go.Proofs.Ytjndopmjlbhajaa

namespace Go.Proofs.Ytjndopmjlbhajaa
open Go.RowKit Go.Maps
set_option linter.unusedVariables false
set_option linter.unusedSimpArgs false

theorem does13_any {w : World} {b0 br gd gk gr gq room c : Nat} {x : Dc} (h : All w b0 br gd gk gr gq room c) (hc : c ≤ 130000000000) (hx : DcOk w x) (hxb : 0 < x.b.length → ∀ b, ablk x.bA = some b → b < b0) (hxp : 0 < x.pn → ∀ b, ablk x.pA = some b → b < b0) :
    Calls Try.prog 23 #[.pointer (some ⟨gd, 0, none⟩), .pointer (some ⟨gk, 0, none⟩), .pointer (some ⟨gr, 0, none⟩), .pointer (some ⟨gq, 0, none⟩), .agg #[.int .i64 x.K, .int .i64 x.N, .int .i64 x.kd, .slice x.bA x.b.length x.bc, .slice x.pA x.pn x.pc]] w fun e w' => e = .returned (.bool true) ∧ All w' b0 br gd gk gr gq room (c + 100) ∧ Below b0 w w' := by
  have hl := pickN_lt x.K (n := 7) (by omega)
  obtain e | e | e | e | e | e | e : pickN x.K 7 = 0 ∨ pickN x.K 7 = 1 ∨ pickN x.K 7 = 2 ∨ pickN x.K 7 = 3 ∨ pickN x.K 7 = 4 ∨ pickN x.K 7 = 5 ∨ pickN x.K 7 = 6 := by omega
  · exact does_get h hc hx hxb hxp e
  · exact does_put h hc hx hxb hxp e
  · exact does_forget h hc hx hxb hxp e
  · exact does_flush h hc hx hxb hxp e
  · exact does_power h hc hx hxb hxp e
  · exact does_rot h hc hx hxb hxp e
  · exact does_sync h hc hx hxb hxp e
/-- a new cache lies in new blocks -/
theorem cnew_ok2 {w : World} {base : Nat} {d : Dw} {t : Dsk} (h : Dk w base d t) (hb : base ≤ w.heap.size) {room : Nat} (h1 : 1 ≤ room) (h2 : room ≤ 1024) :
    Calls Try.prog 9 #[.pointer (some ⟨d.g, 0, none⟩), .int .i64 (room : Int)] w fun e w' => ∃ k, e = .returned (.tuple #[.pointer (some ⟨k.g, 0, none⟩), .int .i64 0]) ∧ CD w' base d k t (newC room) ∧ Below w.heap.size w w' ∧ ∀ b, footC d k b → d.foot b ∨ w.heap.size ≤ b := by
  have H := Lib.hid (CD.new h hb room)
  obtain ⟨gd, hgd⟩ : ∃ z, z = d.g := ⟨_, rfl⟩
  rw [← hgd] at H ⊢
  have hmm := @run_makeMap Try.prog
  have d1 : decide ((room : Int) < 1) = false := decide_eq_false (by omega)
  have d2 : decide ((1024 : Int) < (room : Int)) = false := decide_eq_false (by omega)
  clear h hgd
  go_enter Try.func9, Try.ntmps9
  go_wp2
  go_ret2
  refine ⟨⟨w.heap.size + 2, w.heap.size, w.heap.size + 1, fun _ => ⟨none, 0, 0⟩, none, 0⟩, rfl, H.out, (((Below.refl _ _).alloc (Nat.le_refl _) _).alloc (by simp) _).alloc (by simp; omega) _, fun b x => ?_⟩
  rcases x with x | x | ⟨n, hm, _⟩
  · exact .inl x
  · right
    rcases x with x | x | x | x
    · have x : b = w.heap.size + 2 := x; omega
    · have x : b = w.heap.size := x; omega
    · have x : b = w.heap.size + 1 := x; omega
    · cases x
  · exact absurd hm (Nat.lt_irrefl _)
theorem All.len {w : World} {b0 br gd gk gr gq room c : Nat} (h : All w b0 br gd gk gr gq room c) : b0 ≤ w.heap.size := by
  obtain ⟨d, k, r, q, t, s, u, D, C, hA, _⟩ := h
  exact hA.b0_le
theorem All.below {w w' : World} {b0 br gd gk gr gq room c B : Nat} (h : All w b0 br gd gk gr gq room c) (hb : Below B w w') (hB : w.heap.size ≤ B) : All w' b0 br gd gk gr gq room c := by
  obtain ⟨d, k, r, q, t, s, u, D, C, hA, h2⟩ := h
  exact ⟨d, k, r, q, t, s, u, D, C, hA.below hb hB, h2⟩
/-- what is asked of a round's state: three pairs of lists, each of the same numbers -/
structure Lists (V : World) (gd gk gr gq : Nat) (l1 l2 l3 : List Nat) (dA cA : Option Addr) (dn dc cn cc : Nat) : Prop where
  c1 : ∀ W, Below V.heap.size V W → Calls Try.prog 19 #[.pointer (some ⟨gk, 0, none⟩)] W fun e w' => ∃ A c, e = .returned (.slice A l1.length c) ∧ Own w' W.heap.size 3 1 A l1.length c (iv l1) ∧ Below W.heap.size W w'
  n1 : ∀ W, Below V.heap.size V W → Calls Try.prog 24 #[.slice dA dn dc] W fun e w' => ∃ A c, e = .returned (.slice A l1.length c) ∧ Own w' W.heap.size 3 1 A l1.length c (iv l1) ∧ Below W.heap.size W w'
  s1 : ∀ W, Below V.heap.size V W → W.cell? ⟨gq, 2, none⟩ = some (.slice dA dn dc)
  c2 : ∀ W, Below V.heap.size V W → Calls Try.prog 21 #[.pointer (some ⟨gk, 0, none⟩)] W fun e w' => ∃ A c, e = .returned (.slice A l2.length c) ∧ Own w' W.heap.size 3 1 A l2.length c (iv l2) ∧ Below W.heap.size W w'
  n2 : ∀ W, Below V.heap.size V W → Calls Try.prog 24 #[.slice cA cn cc] W fun e w' => ∃ A c, e = .returned (.slice A l2.length c) ∧ Own w' W.heap.size 3 1 A l2.length c (iv l2) ∧ Below W.heap.size W w'
  s2 : ∀ W, Below V.heap.size V W → W.cell? ⟨gq, 3, none⟩ = some (.slice cA cn cc)
  c3 : ∀ W, Below V.heap.size V W → Calls Try.prog 18 #[.pointer (some ⟨gd, 0, none⟩)] W fun e w' => ∃ A c, e = .returned (.slice A l3.length c) ∧ Own w' W.heap.size 3 1 A l3.length c (iv l3) ∧ Below W.heap.size W w'
  n3 : ∀ W, Below V.heap.size V W → Calls Try.prog 25 #[.pointer (some ⟨gr, 0, none⟩)] W fun e w' => ∃ A c, e = .returned (.slice A l3.length c) ∧ Own w' W.heap.size 3 1 A l3.length c (iv l3) ∧ Below W.heap.size W w'
  len : l1.length ≤ 5000 ∧ l2.length ≤ 5000 ∧ l3.length ≤ 5000
theorem All.lists {V : World} {b0 br gd gk gr gq room c : Nat} (h : All V b0 br gd gk gr gq room c) : ∃ l1 l2 l3 dA cA dn dc cn cc, Lists V gd gk gr gq l1 l2 l3 dA cA dn dc cn cc := by
  obtain ⟨d, k, r, q, t, s, u, D, C, hA, hR, hO, hRc, hn, hrm, rfl, rfl, rfl, rfl⟩ := h
  have hlen := hRc.len hO hn
  have h1 : (dirtyN t.n s).length = D.length := by rw [← hRc.dn, List.length_map]
  have h2 : s.order.length = C.length := by rw [← hRc.cn, List.length_map]
  have h3 : (dirtyL t).length ≤ 60 := Nat.le_trans (List.length_filter_le _ _) (by rw [List.length_range, hn]; exact Nat.le_refl _)
  refine ⟨dirtyN t.n s, s.order, dirtyL t, q.dA, q.cA, D.length, q.dc, C.length, q.cc, ⟨fun W hb => ?_, fun W hb => ?_, fun W hb => ?_, fun W hb => ?_, fun W hb => ?_, fun W hb => ?_, fun W hb => ?_, fun W hb => ?_, by omega, by omega, by omega⟩⟩
  · exact cdirty_any (hA.below hb (Nat.le_refl _)).cd
  · have := rnumbers_any (c := q.dc) (hA.below hb (Nat.le_refl _)).qk.dl (by omega)
    rw [hRc.dn] at this
    exact this
  · exact (hA.below hb (Nat.le_refl _)).qk.blk.cell 2
  · exact clean_any (hA.below hb (Nat.le_refl _)).cd (by omega)
  · have := rnumbers_any (c := q.cc) (hA.below hb (Nat.le_refl _)).qk.cl (by omega)
    rw [hRc.cn] at this
    exact this
  · exact (hA.below hb (Nat.le_refl _)).qk.blk.cell 3
  · exact dirty_any (hA.below hb (Nat.le_refl _)).cd.dk
  · have := rdirty_any (hA.below hb (Nat.le_refl _)).rk
    rw [hR.dirty] at this
    exact this

set_option maxRecDepth 100000 in
set_option maxHeartbeats 16000000 in
theorem cplays_any {A : Option Addr} {n c : Nat} {f : Nat → Dc} {rm : Int} {w : World} (hd : Dcs w A n f) (hn : n ≤ 1048576) :
    Calls Try.prog 7 #[.int .i64 rm, .slice A n c] w fun e w' => e = .returned (.bool true) ∧ Below w.heap.size w w' := by
  have D0 := dnew_ok 60 (by omega) w
  push_cast at D0
  have D := Lib.hid D0
  have HDs := Lib.hid hd
  clear D0 hd
  go_enter Try.func7, Try.ntmps7
  go_upto_region 2 with ((with_reducible refine Calls.mono D.out ?_); rintro e w1 ⟨d, rfl, hd1, hb1⟩)
  have R0 := rnew_ok 60 ⟨by omega, by omega⟩ w1
  push_cast at R0
  have R := Lib.hid R0
  have HD1 := Lib.hid hd1
  have HB1 := Lib.hid hb1
  obtain ⟨gd, hgd⟩ : ∃ z, z = d.g := ⟨_, rfl⟩
  rw [← hgd]
  have HGd := Lib.hid hgd
  clear R0 hd1 hb1 D hgd
  go_upto_region 3 with ((with_reducible refine Calls.mono R.out ?_); rintro e w2 ⟨r, rfl, hr2, hb2⟩)
  obtain ⟨gr, hgr⟩ : ∃ z, z = r.g := ⟨_, rfl⟩
  rw [← hgr]
  have HGr := Lib.hid hgr
  have HR2 := Lib.hid hr2
  have HB2 := Lib.hid hb2
  have HD2 := Lib.hid (HD1.out.below hb2 (Nat.le_refl _))
  have hbw2 := HB1.out.trans (hb2.mono HB1.out.size)
  have HBw2 := Lib.hid hbw2
  clear hgr hr2 hb2 R hbw2
  by_cases hrm : 1 ≤ rm ∧ rm ≤ 1024
  rotate_left
  · have N0 := cnew_bad (w := w2) (g := d.g) (room := rm) (by omega)
    rw [← HGd.out] at N0
    have N := Lib.hid N0
    clear N0
    rcases Int.lt_or_le rm 1 with h1 | h1
    · clear hrm
      go_upto_region 9 with ((with_reducible refine Calls.mono N.out ?_); rintro e wx ⟨rfl, rfl⟩)
      refine wp_world (fun Y => Below w.heap.size w Y) (HBw2.out.trans (((Below.refl _ _).alloc (Nat.le_refl _) _).mono HBw2.out.size)) ?_
      clear N HGr HR2 HB2 HD2 HBw2 HGd HD1 HB1
      rintro Y hY
      have HY := Lib.hid hY
      clear hY
      go_wp2
      go_loopw [12] (fun s12 wr => s12 = .int .i64 0 ∧ Below w.heap.size w wr) (fun _ _ => 0)
      case atStart => exact ⟨rfl, HY.out⟩
      case round =>
        clear HY
        obtain ⟨rfl, hB⟩ := hrel
        have HB := Lib.hid hB
        have LV := Lib.hid (lives13_any wr)
        clear hB
        rcases Nat.eq_zero_or_pos n with hn0 | hn0
        · have hnI : ¬ (0 : Int) < (n : Int) := by omega
          go_wp2_with ((with_reducible refine Calls.mono LV.out ?_); rintro e w3 ⟨rfl, hb3⟩)
          go_ret
          exact ⟨rfl, HB.out.trans (hb3.mono HB.out.size)⟩
        · go_wp2_with ((with_reducible refine Calls.mono LV.out ?_); rintro e w3 ⟨rfl, hb3⟩)
          go_ret
          exact ⟨rfl, HB.out.trans (hb3.mono HB.out.size)⟩
    · have h2 : (1024 : Int) < rm := by omega
      have h3 : ¬ rm < 1 := by omega
      clear hrm h1
      go_upto_region 9 with ((with_reducible refine Calls.mono N.out ?_); rintro e wx ⟨rfl, rfl⟩)
      refine wp_world (fun Y => Below w.heap.size w Y) (HBw2.out.trans (((Below.refl _ _).alloc (Nat.le_refl _) _).mono HBw2.out.size)) ?_
      clear N HGr HR2 HB2 HD2 HBw2 HGd HD1 HB1
      rintro Y hY
      have HY := Lib.hid hY
      clear hY
      go_wp2
      go_loopw [12] (fun s12 wr => s12 = .int .i64 0 ∧ Below w.heap.size w wr) (fun _ _ => 0)
      case atStart => exact ⟨rfl, HY.out⟩
      case round =>
        clear HY
        obtain ⟨rfl, hB⟩ := hrel
        have HB := Lib.hid hB
        have LV := Lib.hid (lives13_any wr)
        clear hB
        rcases Nat.eq_zero_or_pos n with hn0 | hn0
        · have hnI : ¬ (0 : Int) < (n : Int) := by omega
          go_wp2_with ((with_reducible refine Calls.mono LV.out ?_); rintro e w3 ⟨rfl, hb3⟩)
          go_ret
          exact ⟨rfl, HB.out.trans (hb3.mono HB.out.size)⟩
        · go_wp2_with ((with_reducible refine Calls.mono LV.out ?_); rintro e w3 ⟨rfl, hb3⟩)
          go_ret
          exact ⟨rfl, HB.out.trans (hb3.mono HB.out.size)⟩
  · obtain ⟨room, rfl⟩ : ∃ room : Nat, rm = (room : Int) := ⟨rm.toNat, by omega⟩
    obtain ⟨hr1, hr2⟩ := hrm
    have N0 := cnew_ok2 HD2.out HBw2.out.size (room := room) (by omega) (by omega)
    rw [← HGd.out] at N0
    have N := Lib.hid N0
    have hrl : ¬ (room : Int) < 1 := by omega
    have hrh : ¬ (1024 : Int) < (room : Int) := by omega
    have HRb := Lib.hid (show 1 ≤ room ∧ room ≤ 1024 from ⟨by omega, by omega⟩)
    clear N0 hr1 hr2
    go_upto_region 6 with ((with_reducible refine Calls.mono N.out ?_); rintro e w3 ⟨k, rfl, hcd3, hb3, hft⟩)
    obtain ⟨gk, hgk⟩ : ∃ z, z = k.g := ⟨_, rfl⟩
    rw [← hgk]
    have HGk := Lib.hid hgk
    have HCd3 := Lib.hid hcd3
    have HB3 := Lib.hid hb3
    have HFt := Lib.hid hft
    clear hgk hcd3 hb3 hft N
    go_upto_region 9 with fail
    obtain ⟨gq, hgq⟩ : ∃ z, z = w3.heap.size := ⟨_, rfl⟩
    rw [← hgq]
    have hal : Below w3.heap.size w3 (w3.alloc (.cells #[.pointer (some ⟨gr, 0, none⟩), .int .i64 (room : Int), .slice none 0 0, .slice none 0 0] 58)) := (Below.refl _ _).alloc (Nat.le_refl _) _
    have hbw3 := HBw2.out.trans (HB3.out.mono HBw2.out.size)
    have hI : All (w3.alloc (.cells #[.pointer (some ⟨gr, 0, none⟩), .int .i64 (room : Int), .slice none 0 0, .slice none 0 0] 58)) w.heap.size w1.heap.size gd gk gr gq room 0 := by
      have hs1 := HB1.out.size
      have hs2 := HB2.out.size
      have hs3 := HB3.out.size
      refine ⟨d, k, r, ⟨gq, none, 0, none, 0⟩, newD 60, newC room, newD 60, [], [], ⟨HCd3.out.below hal (Nat.le_refl _), (HR2.out.below HB3.out (Nat.le_refl _)).below hal (Nat.le_refl _), ⟨?_, by show w.heap.size ≤ gq; omega, fun hn => absurd hn (by show ¬ 0 < 0; omega), fun hn => absurd hn (by show ¬ 0 < 0; omega), fun b e => (by cases e), fun b e => (by cases e), ⟨Nat.le_refl _, by show 0 ≤ _; omega⟩, fun y hy => (by rcases hy with hy | hy <;> cases hy)⟩, fun b y z => ?_, fun b y z => ?_, fun b y z => ?_, hs1⟩, rel_new 60, new_ok HRb.out, rc_new _ _, rfl, rfl, HGd.out.symm, HGk.out.symm, HGr.out.symm, rfl⟩
      · rw [← HGr.out]; exact Blk.new_at (cs := [.pointer (some ⟨gr, 0, none⟩), .int .i64 (room : Int), .slice none 0 0, .slice none 0 0]) hgq
      · have h1 := HR2.out.foot_base b z
        rcases HFt.out b y with y | y
        · have := (HD1.out.foot_base b y).2; omega
        · omega
      · rcases z with z | z | z | ⟨v, hv, _⟩
        · have z : b = gq := z
          have := (HCd3.out.foot_base b y).2; omega
        · cases z
        · cases z
        · rcases hv with hv | hv <;> cases hv
      · rcases z with z | z | z | ⟨v, hv, _⟩
        · have z : b = gq := z
          have := (HR2.out.foot_base b y).2; omega
        · cases z
        · cases z
        · rcases hv with hv | hv <;> cases hv
    have hbw4 := hbw3.trans (hal.mono hbw3.size)
    refine wp_world (fun V => All V w.heap.size w1.heap.size gd gk gr gq room 0 ∧ Below w.heap.size w V) ⟨hI, hbw4⟩ ?_
    clear hal hbw3 hI hbw4 HCd3 HB3 HFt HR2 HB2 HD2 HBw2 HD1 hgq
    rintro V ⟨v1, v2⟩
    have V1 := Lib.hid v1
    have V2 := Lib.hid v2
    clear v1 v2
    obtain ⟨bb, hbb⟩ : ∃ z, z = w1.heap.size := ⟨_, rfl⟩
    rw [← hbb] at V1
    clear hbb HGr HGd HGk HB1
    go_wp2
    go_loopw [12] (fun s12 wr => ∃ i : Nat, i ≤ n ∧ s12 = .int .i64 i ∧ All wr w.heap.size bb gd gk gr gq room (100 * i) ∧ Below w.heap.size w wr) (fun s12 _ => n - (intOf s12).toNat)
    case atStart => exact ⟨0, by omega, rfl, V1.out, V2.out⟩
    case round =>
      clear V1 V2
      obtain ⟨i, hi, rfl, hAl, hB⟩ := hrel
      have HAl := Lib.hid hAl
      have HB := Lib.hid hB
      clear hAl hB
      by_cases hlt : i < n
      · obtain ⟨b, o, rfl, _, hbl, hrg⟩ := rd_elem (k := 5) HDs.out.rd (fun _ _ => rfl) (by omega) hlt
        have hok := HDs.out.ok i hlt
        have hrw := range_kept hrg (HB.out.block b hbl)
        obtain ⟨x, hx⟩ : ∃ x, x = f i := ⟨_, rfl⟩
        rw [← hx] at hrw hok
        have hokw : DcOk wr x := ⟨hok.k, hok.n, hok.b.below HB.out (Nat.le_refl _), hok.p.below HB.out (Nat.le_refl _), hok.pl, hok.pz, hok.bz⟩
        have hxb : 0 < x.b.length → ∀ b, ablk x.bA = some b → b < w.heap.size := fun hm b e => by
          obtain ⟨b', o', e2, _, h4⟩ := hok.b.at_ hm
          rw [e2] at e; injection e with e; have e : b' = b := e
          omega
        have hxp : 0 < x.pn → ∀ b, ablk x.pA = some b → b < w.heap.size := fun hm b e => rd_lt hok.p hok.pl hm b e
        have DO : Hid (Calls Try.prog 23 #[.pointer (some ⟨gd, 0, none⟩), .pointer (some ⟨gk, 0, none⟩), .pointer (some ⟨gr, 0, none⟩), .pointer (some ⟨gq, 0, none⟩), .agg (dcc x).toArray] wr fun e w' => e = .returned (.bool true) ∧ All w' w.heap.size bb gd gk gr gq room (100 * i + 100) ∧ Below w.heap.size wr w') := Lib.hid (does13_any HAl.out (by omega) hokw hxb hxp)
        have HRg := Lib.hid hrw
        have hin : (i : Int) < (n : Int) := by omega
        clear hrg hok hrw hx hokw hxb hxp
        go_upto_region 13 with (first
          | (((with_reducible refine wpList_load_mid (op := ⟨some 74, _, _, _, _, _⟩) ?_ 37 (.tmp 73) ?_ b (o + i * 5) ?_ (dcc x) _ ?_ Try.underlying37 ?_ ?_ ?_); rfl; rfl; (first | rfl | (go_simp; rfl)); exact HRg.out; rfl; (rw [sizeDc]; rfl)))
          | ((with_reducible refine Calls.mono DO.out ?_); rintro e w4 ⟨rfl, hA4, hb4⟩))
        obtain ⟨l1, l2, l3, dA, cA, dn, dc, cn, cc, hL⟩ := hA4.lists
        have HL := Lib.hid hL
        have HA4 := Lib.hid hA4
        have HB4 := Lib.hid (HB.out.trans hb4)
        have hm := hL.len
        clear hL hA4 hb4 DO HRg HAl HB
        go_upto_region 15 with fail
        have hbD : Below w4.heap.size w4 w4.drew := (below_drewN (Below.refl w4.heap.size w4) 1)
        have c0 : w4.drew.cell? ⟨gq, 2, none⟩ = some (.slice dA dn dc) := HL.out.s1 _ hbD
        have HC1 := Lib.hid (HL.out.c1 _ hbD)
        go_region_held3 (fun w' => w'.cell? ⟨gq, 2, none⟩ = some (.slice dA dn dc))
          (first | go_keep | (exact K7.out) | (exact K6.out) | (exact K5.out))
          (first
            | ((with_reducible refine Calls.mono HC1.out ?_); rintro e wa ⟨Aa, ca, rfl, hoa, hba⟩
               have hbA : Below w4.heap.size w4 wa := hbD.trans (hba.mono hbD.size)
               have HN1 := Lib.hid (HL.out.n1 _ hbA)
               have K5 : Hid (wa.cell? ⟨gq, 2, none⟩ = some (.slice dA dn dc)) := HL.out.s1 _ hbA)
            | ((with_reducible refine Calls.mono HN1.out ?_); rintro e wb ⟨Ab, cb, rfl, hob, hbb⟩
               have hbB : Below w4.heap.size w4 wb := hbA.trans (hbb.mono hbA.size)
               have HM1 := Lib.hid (numbers13_any (hoa.below hbb (Nat.le_refl _)) hob rfl (by omega))
               have K6 : Hid (wb.cell? ⟨gq, 2, none⟩ = some (.slice dA dn dc)) := HL.out.s1 _ hbB)
            | ((with_reducible refine Calls.mono HM1.out ?_); rintro e wn ⟨rfl, qn, hwn⟩
               have hbN : Below w4.heap.size w4 wn := by rw [hwn]; exact below_drewN hbB qn
               have K7 : Hid (wn.cell? ⟨gq, 2, none⟩ = some (.slice dA dn dc)) := HL.out.s1 _ hbN))
        rename_i hH
        rw [← hwn]
        have HBN := Lib.hid hbN
        clear hH K5 K6 K7 HM1 HN1 HC1 hob hoa hba hbb hbA hbB hbD c0 hwn hbN
        go_upto_region 16 with fail
        refine wp_world (fun Y => Below w4.heap.size w4 Y) HBN.out ?_
        clear HBN
        rintro Y1 hbY1
        have hbD : Below w4.heap.size w4 Y1.drew := (below_drewN hbY1 1)
        have c0 : Y1.drew.cell? ⟨gq, 3, none⟩ = some (.slice cA cn cc) := HL.out.s2 _ hbD
        have HC1 := Lib.hid (HL.out.c2 _ hbD)
        go_region_held3 (fun w' => w'.cell? ⟨gq, 3, none⟩ = some (.slice cA cn cc))
          (first | go_keep | (exact K7.out) | (exact K6.out) | (exact K5.out))
          (first
            | ((with_reducible refine Calls.mono HC1.out ?_); rintro e wa ⟨Aa, ca, rfl, hoa, hba⟩
               have hbA : Below w4.heap.size w4 wa := hbD.trans (hba.mono hbD.size)
               have HN1 := Lib.hid (HL.out.n2 _ hbA)
               have K5 : Hid (wa.cell? ⟨gq, 3, none⟩ = some (.slice cA cn cc)) := HL.out.s2 _ hbA)
            | ((with_reducible refine Calls.mono HN1.out ?_); rintro e wb ⟨Ab, cb, rfl, hob, hbb⟩
               have hbB : Below w4.heap.size w4 wb := hbA.trans (hbb.mono hbA.size)
               have HM1 := Lib.hid (numbers13_any (hoa.below hbb (Nat.le_refl _)) hob rfl (by omega))
               have K6 : Hid (wb.cell? ⟨gq, 3, none⟩ = some (.slice cA cn cc)) := HL.out.s2 _ hbB)
            | ((with_reducible refine Calls.mono HM1.out ?_); rintro e wn ⟨rfl, qn, hwn⟩
               have hbN : Below w4.heap.size w4 wn := by rw [hwn]; exact below_drewN hbB qn
               have K7 : Hid (wn.cell? ⟨gq, 3, none⟩ = some (.slice cA cn cc)) := HL.out.s2 _ hbN))
        clear hbY1
        rename_i hH
        rw [← hwn]
        have HBN := Lib.hid hbN
        clear hH K5 K6 K7 HM1 HN1 HC1 hob hoa hba hbb hbA hbB hbD c0 hwn hbN
        go_upto_region 17 with fail
        refine wp_world (fun Y => Below w4.heap.size w4 Y) HBN.out ?_
        clear HBN
        rintro Y2 hbY2
        have HC1 := Lib.hid (HL.out.c3 _ hbY2)
        go_upto_region 18 with (first
            | ((with_reducible refine Calls.mono HC1.out ?_); rintro e wa ⟨Aa, ca, rfl, hoa, hba⟩
               have hbA : Below w4.heap.size w4 wa := hbY2.trans (hba.mono hbY2.size)
               have HN1 := Lib.hid (HL.out.n3 _ hbA))
            | ((with_reducible refine Calls.mono HN1.out ?_); rintro e wb ⟨Ab, cb, rfl, hob, hbb⟩
               have hbB : Below w4.heap.size w4 wb := hbA.trans (hbb.mono hbA.size)
               have HM1 := Lib.hid (numbers13_any (hoa.below hbb (Nat.le_refl _)) hob rfl (by omega)))
            | ((with_reducible refine Calls.mono HM1.out ?_); rintro e wn ⟨rfl, qn, hwn⟩
               have hbN : Below w4.heap.size w4 wn := by rw [hwn]; exact below_drewN hbB qn))
        rw [← hwn]
        have HBN := Lib.hid hbN
        clear HM1 HN1 HC1 hob hoa hba hbb hbA hbB hwn hbN hbY2
        have HJ := Lib.hid (show All wn w.heap.size bb gd gk gr gq room (100 * (i + 1)) ∧ Below w.heap.size w wn from ⟨by rw [Nat.mul_add]; exact HA4.out.below HBN.out (Nat.le_refl _), HB4.out.trans (HBN.out.mono HA4.out.len)⟩)
        clear HBN HA4 HB4 HL
        go_wp2
        go_roundw
        case rel => exact ⟨i + 1, by omega, by norm_cast, HJ.out.1, HJ.out.2⟩
        case measure => simp only [intOf]; omega
      · obtain rfl : i = n := by omega
        have LV := Lib.hid (lives13_any wr)
        clear hlt
        go_wp2_with ((with_reducible refine Calls.mono LV.out ?_); rintro e w3 ⟨rfl, hb3⟩)
        go_ret
        exact ⟨rfl, HB.out.trans (hb3.mono HB.out.size)⟩
end Go.Proofs.Ytjndopmjlbhajaa

