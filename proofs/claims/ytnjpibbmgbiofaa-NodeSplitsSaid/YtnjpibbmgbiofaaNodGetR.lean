/- kistref14.Get reads a node as the plain function does. (Printed by gen_nodgetr.py.) -/
import Derived.Test.YtnjpibbmgbiofaaNodGetRN
namespace Go.Proofs.Ytnjpibbmgbiofaa
open Go.RowKit
set_option linter.unusedSimpArgs false
set_option linter.unusedVariables false

theorem GetQ.init {w : World} {kd : Int} {A : Option Addr} {m c : Nat} (lf : Bool) :
    GetQ w kd A m c (((w.alloc (.cells #[.int .i64 kd, .slice A m c] 34)).alloc (.cells #[.bool false, .slice none 0 0, .slice none 0 0, .slice none 0 0] 25)).alloc (.cells #[.bool lf, .slice none 0 0, .slice none 0 0, .slice none 0 0] 25)) lf [] [] [] none 0 none 0 none 0 :=
  ⟨((Blk.new w _ [.int .i64 kd, .slice A m c]).alloc _).alloc _,
    (Blk.new_at (cs := [.bool false, .slice none 0 0, .slice none 0 0, .slice none 0 0]) (n := w.heap.size + 1) (by simp)).alloc _,
    Blk.new_at (cs := [.bool lf, .slice none 0 0, .slice none 0 0, .slice none 0 0]) (n := w.heap.size + 2) (by simp),
    Own.nil_ _ _ _ _, Own.nil_ _ _ _ _, Own.nil_ _ _ _ _, fun g h => by simp at h,
    (((Below.refl _ _).alloc (Nat.le_refl _) _).alloc (by simp) _).alloc (by simp; omega) _, by simp⟩
theorem GetQ.drewN {w W : World} {kd : Int} {A : Option Addr} {m c : Nat} {lf : Bool} {ks vs : List ByteArray} {ds : List Int} {K V D : Option Addr} {ck cv cd : Nat} (h : GetQ w kd A m c W lf ks vs ds K ck V cv D cd) (n : Nat) : GetQ w kd A m c (W.drewN n) lf ks vs ds K ck V cv D cd :=
  ⟨h.box.drewN n, h.res.drewN n, h.nod.drewN n, h.keys.drewN n, h.vals.drewN n, h.kids.drewN n, h.kv, below_drewN h.below n, h.high⟩

theorem psCount_at {body : List UInt8} (h : 0 < body.length) : psCount body = (body.getD 0 0).toNat ∧ tkBad body false 1 = false ∧ tkRest body false 1 = body.drop 1 := by
  obtain ⟨a1, a2, a3⟩ := tk_there (r := body) (n := 1) h
  refine ⟨?_, a1, a3⟩
  unfold psCount
  rw [a2]
  cases body with
  | nil => simp at h
  | cons x l => rfl
theorem rnput_b {s : Nd} {lf : Bool} {ks vs : List ByteArray} {ds : List Int} (hs : s = ⟨lf, ks, vs, ds⟩) {w : World} {lo : Nat} {K V D : Option Addr} {nk ck nv cv nd cd : Nat} (h : NdR w lo ⟨lf, ks, vs, ds⟩ K nk ck V nv cv D nd cd) (hm : mayN ⟨lf, ks, vs, ds⟩) :
    Calls Try.prog 14 #[.agg #[.bool lf, .slice K nk ck, .slice V nv cv, .slice D nd cd]] w fun e w' =>
      ∃ A' c', e = .returned (.tuple #[.agg #[.int .i64 (kindN s), .slice A' (bodyN s).length c'], .int .i64 0]) ∧ Own w' w.heap.size 5 1 A' (bodyN s).length c' (bvs (bodyN s)) ∧ Below w.heap.size w w' := hs ▸ rnput_ok _ h hm
theorem kid_two {r : List UInt8} {p : Nat} (h : p + 2 ≤ r.length) : tkBad (r.drop p) false 2 = false ∧ kidOf (tkOut (r.drop p) false 2) = (((r.getD p 0).toNat + 256 * (r.getD (p + 1) 0).toNat : Nat) : Int) ∧ tkRest (r.drop p) false 2 = r.drop (p + 2) := by
  obtain ⟨a1, a2, a3⟩ := tk_there (r := r.drop p) (n := 2) (by rw [List.length_drop]; omega)
  refine ⟨a1, ?_, ?_⟩
  · rw [a2, drop_at (by omega), drop_at (by omega)]; rfl
  · rw [a3, List.drop_drop]
theorem kid_no {r : List UInt8} {p : Nat} (h : ¬ p + 2 ≤ r.length) : tkBad (r.drop p) false 2 = true := by
  unfold tkBad
  simp
  omega

set_option maxRecDepth 100000 in
set_option maxHeartbeats 4000000 in
theorem rget_leaf {A : Option Addr} {c lo : Nat} {body : List UInt8} {w : World} (hb : Bs w lo A body.length c body) (hr : body.length ≤ 140737488351232) (h0 : 0 < body.length) :
    Calls Try.prog 19 #[.agg #[.int .i64 1, .slice A body.length c]] w (NGet w (getN 1 body)) := by
  obtain ⟨b, o, rfl, _, hbw⟩ := hb.at_ h0
  have HB := Lib.hid hb
  have hz := zero25_
  have HG : Hid (getN 1 body = if getOk 1 body then some (psN true body).nd else none) := rfl
  have HOK : Hid (getOk 1 body ↔ ((psN true body).bad = false ∧ mayN (psN true body).nd ∧ (kindN (psN true body).nd : Int) = 1 ∧ bodyN (psN true body).nd = body)) := Iff.rfl
  have HN : Hid (psN true body = psTo true body (psCount body)) := rfl
  have HNk : Hid (∀ j, j < psCount body → (psKey (psTo true body j)).bad = true → getN 1 body = none) := fun j h1 h2 => getN_key (kd := 1) h1 h2
  have HNb : Hid (∀ j, j ≤ psCount body → (psTo true body j).bad = true → getN 1 body = none) := fun j h1 h2 => getN_bad (kd := 1) h1 h2
  have hN : psCount body < 256 := UInt8.toNat_lt _
  have HSh := Lib.hid (psTo_short true body)
  have H0 : Hid (psTo true body 0 = ⟨⟨true, [], [], []⟩, body.drop 1, false⟩) := by show _ = _; rw [psTo, (psCount_at h0).2.1, (psCount_at h0).2.2]
  have HSt : Hid (∀ i, psTo true body (i + 1) = psVal (psKey (psTo true body i))) := fun _ => rfl
  have HC0 : Hid (∀ W', Below w.heap.size w W' → W'.cell? ⟨b, o, none⟩ = some (.int .u8 (psCount body : Int))) := fun W' hW => by
    have := (HB.out.below hW (Nat.le_refl _)).cell 0 h0
    rw [← (psCount_at h0).1] at this
    exact this
  have hc1 := hb.2.1
  have hc2 := hb.2.2.1
  have hl1 : decide ((body.length : Int) < 1) = false := decide_eq_false (by omega)
  have hl2 : (0 : Int) < (body.length : Int) := by omega
  clear hb
  generalize psCount body = N at *
  go_enter Try.func19, Try.ntmps19
  go_upto_region 4 with fail
  refine wp_world (fun W => GetQ w 1 (some ⟨b, o, none⟩) body.length c W true [] [] [] none 0 none 0 none 0) (GetQ.init true) ?_
  clear hz
  rintro W G1
  go_wp2
  go_loopw [5, 6, 7, 8, 9, 10, 11, 12] (fun s5 s6 _ _ _ _ _ _ wr => ∃ (i p : Nat) (ks vs : List ByteArray) (ds : List Int) (K : Option Addr) (ck : Nat) (V : Option Addr) (cv : Nat) (D : Option Addr) (cd : Nat), i ≤ N ∧ s6 = .int .i64 i ∧ s5 = .int .i64 p ∧ p ≤ body.length ∧ psTo true body i = ⟨⟨true, ks, vs, ds⟩, body.drop p, false⟩ ∧ ks.length ≤ i ∧ vs.length ≤ i ∧ ds.length ≤ i ∧ GetQ w 1 (some ⟨b, o, none⟩) body.length c wr true ks vs ds K ck V cv D cd)
    (fun _ s6 _ _ _ _ _ _ _ => N - (intOf s6).toNat)
  case atStart => exact ⟨0, 1, [], [], [], none, 0, none, 0, none, 0, Nat.zero_le _, rfl, rfl, h0, H0.out, Nat.le_refl _, Nat.le_refl _, Nat.le_refl _, G1⟩
  case round =>
    clear G1
    obtain ⟨i, p, ks, vs, ds, K, ck, V, cv, D, cd, hi, rfl, rfl, hp, hps, hlk, hlv, hld, hG⟩ := hrel
    have bc := hG.box.cells
    have c0 := HC0.out _ hG.below
    by_cases hlt : i < N
    · have HS1 := Lib.hid (HSt.out i)
      rw [hps] at HS1
      have HNk1 := Lib.hid (HNk.out i hlt)
      rw [hps] at HNk1
      have HNb1 := Lib.hid (HNb.out (i + 1) hlt)
      clear hps
      have T1 := Lib.hid (rtext_any (HB.out.below hG.below (Nat.le_refl _)) hr hp)
      go_upto_region 9 with ((with_reducible refine Calls.mono T1.out ?_); rintro e w1 ⟨rfl, (⟨hbad, rfl⟩ | ⟨q, hgood, rfl, hrest, hq⟩)⟩)
      · have hno := Lib.hid (HNk1.out hbad)
        have rc_ := hG.res.cells
        have rf_ := hG.res.frees
        clear T1 HNk1 HNb1 HS1
        go_wp2
        refine bodyPost_ret (results_rd rfl rfl rfl ((((hG.res.set_ 0 _).set_ 1 _).set_ 2 _).set_ 3 _)) rfl ?_
        rw [hno.out]
        exact nget_none rfl ((((hG.below.setCell (by simp) _).setCell (by simp) _).setCell (by simp) _).setCell (by simp) _)
      · have HPk : Hid (psKey ⟨⟨true, ks, vs, ds⟩, body.drop p, false⟩ = ⟨⟨true, ks ++ [strOf (txOut (body.drop p) false)], vs, ds⟩, body.drop q, false⟩) := by
          show _ = _
          unfold psKey
          simp only
          rw [hrest, hgood]
        rw [HPk.out] at HS1
        have nc := hG.nod.cells
        generalize strOf (txOut (body.drop p) false) = kk at *
        clear HPk T1 HNk1 hgood hrest c0
        go_upto_region 13 with (at_builtin; refine wpList_app rfl (.tmp 57) (.tmp 59) 22 rfl 9 1 Try.underlying22 info9 rfl (by omega) rfl (hG.keys.alloc _) rfl (rd_one _ _ rfl) rfl (one_str _) (by omega) (by omega) (by have := hG.high; simp; omega) ?_; intro K2 ck2 w2 ho2 hg2 hf2; have G2 := hG.allocg hg2; have eF := (G2.midk hg2).frees; have eC := (G2.midk hg2).cells)
        refine wp_world (fun W => GetQ w 1 (some ⟨b, o, none⟩) body.length c W true (ks ++ [kk]) vs ds K2 ck2 V cv D cd) (G2.key ho2 hg2 hf2) ?_
        clear hG G2 ho2 hg2 hf2 bc nc eF eC
        rintro W3 hG
        have hlk2 : (ks ++ [kk]).length ≤ i + 1 := by simp; omega
        generalize ks ++ [kk] = ks2 at *
        clear hlk hp
        have bc := hG.box.cells
        have nc := hG.nod.cells
        have T1 := Lib.hid (rtext_any (HB.out.below hG.below (Nat.le_refl _)) hr hq)
        go_upto_region 15 with ((with_reducible refine Calls.mono T1.out ?_); rintro e w1 ⟨rfl, (⟨hbad, rfl⟩ | ⟨q2, hgood, rfl, hrest, hq2⟩)⟩)
        · have hno := Lib.hid (HNb1.out (by rw [HS1.out]; exact hbad))
          have rc_ := hG.res.cells
          have rf_ := hG.res.frees
          clear T1 HNb1 HS1
          go_wp2
          refine bodyPost_ret (results_rd rfl rfl rfl ((((hG.res.set_ 0 _).set_ 1 _).set_ 2 _).set_ 3 _)) rfl ?_
          rw [hno.out]
          exact nget_none rfl ((((hG.below.setCell (by simp) _).setCell (by simp) _).setCell (by simp) _).setCell (by simp) _)
        · have HPv : Hid (psVal ⟨⟨true, ks2, vs, ds⟩, body.drop q, false⟩ = ⟨⟨true, ks2, vs ++ [strOf (txOut (body.drop q) false)], ds⟩, body.drop q2, false⟩) := by
            show _ = _
            unfold psVal
            simp only [if_true]
            rw [hrest, hgood]
          rw [HPv.out] at HS1
          generalize strOf (txOut (body.drop q) false) = vv at *
          clear HPv T1 HNb1 hgood hrest
          go_upto_region 7 with (at_builtin; refine wpList_app rfl (.tmp 77) (.tmp 79) 22 rfl 9 1 Try.underlying22 info9 rfl (by omega) rfl (hG.vals.alloc _) rfl (rd_one _ _ rfl) rfl (one_str _) (by omega) (by omega) (by have := hG.high; simp; omega) ?_; intro K5 ck5 w5 ho2 hg2 hf2; have G2 := hG.allocg hg2; have eF := (G2.midv hg2).frees; have eC := (G2.midv hg2).cells)
          have hGf := G2.val ho2 hg2 hf2
          clear hG G2 ho2 hg2 hf2 bc nc eF eC
          go_wp2
          go_roundw
          case rel =>
            exact ⟨i + 1, q2, _, _, _, _, _, _, _, _, _, by omega, by go_num, by go_num, hq2, HS1.out, hlk2, by simp; omega, by omega, hGf⟩
          case measure => simp [intOf]; omega
    · obtain rfl : i = N := by omega
      have HNd : Hid (psN true body = ⟨⟨true, ks, vs, ds⟩, body.drop p, false⟩) := by show _ = _; rw [HN.out, hps]
      have hsh := HSh.out i
      rw [hps] at hsh
      have hndr : NdR wr w.heap.size ⟨true, ks, vs, ds⟩ K ks.length ck V vs.length cv D ds.length cd :=
        ⟨(own_ls hG.keys).weak (by omega), (own_ls hG.vals).weak (by omega), (own_ls hG.kids).weak (by omega), fun i => Nat.le_trans (hsh.1 i) (by omega), fun i => Nat.le_trans (hsh.2 i) (by omega), by omega, by omega, by omega⟩
      rw [HNd.out] at HOK
      have HG2 : Hid (getN 1 body = if getOk 1 body then some ⟨true, ks, vs, ds⟩ else none) := by show _ = _; rw [HG.out, HNd.out]
      have HNR := Lib.hid hndr
      have nc := hG.nod.cells
      clear hsh HSh HSt HN H0 HG hps HNk HNb
      have HNo : Hid (¬ getOk 1 body → getN 1 body = none) := fun h1 => by rw [HG2.out, if_neg h1]
      by_cases hm : mayN ⟨true, ks, vs, ds⟩
      · obtain ⟨s, hs⟩ : ∃ s : Nd, s = ⟨true, ks, vs, ds⟩ := ⟨_, rfl⟩
        have P1 := Lib.hid (rnput_b hs hndr hm)
        have HS := Lib.hid hs
        have HM := Lib.hid hm
        clear hndr hs hm
        go_upto_region 24 with ((with_reducible refine Calls.mono P1.out ?_); rintro e w5 ⟨A5, c5, rfl, ho5, hb5⟩)
        refine wp_world (fun U => GetQ w 1 (some ⟨b, o, none⟩) body.length c U true ks vs ds K ck V cv D cd ∧ Blk U w5.heap.size 34 [.int .i64 (kindN s), .slice A5 (bodyN s).length c5] ∧ Bs U 0 A5 (bodyN s).length c5 (bodyN s))
          ⟨(hG.under hb5).alloc _, Blk.new_at (cs := [.int .i64 (kindN s), .slice A5 (bodyN s).length c5]) rfl, (own_bs (ho5.alloc _)).weak (Nat.zero_le _)⟩ ?_
        clear hG bc nc c0 P1 ho5 hb5
        generalize w5.heap.size = g7 at *
        rintro U ⟨G4, hB7, hb7⟩
        have bc := G4.box.cells
        have c7 := hB7.cells
        have E1 := Lib.hid (same_any hb7 (HB.out.below G4.below (Nat.le_refl _)))
        clear hb7
        go_upto_region 25 with ((with_reducible refine Calls.mono E1.out ?_); rintro e w6 ⟨rfl, q6, rfl⟩)
        have G5 := G4.drewN q6
        clear bc c7 E1
        have nc := G5.nod.cells
        have rc_ := G5.res.cells
        have rf_ := G5.res.frees
        by_cases he : bodyN s = body
        · have hok : Hid (getOk 1 body) := HOK.out.2 ⟨trivial, HM.out, rfl, by rw [← HS.out]; exact he⟩
          rw [decide_eq_true he]
          clear he
          go_wp2
          refine bodyPost_ret (results_rd rfl rfl rfl ((((G5.res.set_ 0 _).set_ 1 _).set_ 2 _).set_ 3 _)) rfl ?_
          rw [HG2.out, if_pos hok.out]
          refine ⟨K, ks.length, ck, V, vs.length, cv, D, ds.length, cd, rfl, ?_, ((((G5.below.setCell (by simp) _).setCell (by simp) _).setCell (by simp) _).setCell (by simp) _)⟩
          have hn := HNR.out
          exact ⟨(own_ls ((((G5.keys.far (by simp) _).far (by simp) _).far (by simp) _).far (by simp) _)).weak (by omega), (own_ls ((((G5.vals.far (by simp) _).far (by simp) _).far (by simp) _).far (by simp) _)).weak (by omega), (own_ls ((((G5.kids.far (by simp) _).far (by simp) _).far (by simp) _).far (by simp) _)).weak (by omega), hn.ksmall, hn.vsmall, hn.kroom, hn.vroom, hn.droom⟩
        · have hno : Hid (¬ getOk 1 body) := fun h => he (by have := (HOK.out.1 h).2.2.2; rw [← HS.out] at this; exact this)
          rw [decide_eq_false he]
          clear he
          go_wp2
          refine bodyPost_ret (results_rd rfl rfl rfl ((((G5.res.set_ 0 _).set_ 1 _).set_ 2 _).set_ 3 _)) rfl ?_
          rw [HNo.out hno.out]
          exact nget_none rfl ((((G5.below.setCell (by simp) _).setCell (by simp) _).setCell (by simp) _).setCell (by simp) _)
      · have P1 := Lib.hid (rnput_no _ hndr hm)
        have hno : Hid (¬ getOk 1 body) := fun h => hm (HOK.out.1 h).2.1
        simp only at P1
        clear hndr hm
        go_upto_region 24 with ((with_reducible refine Calls.mono P1.out ?_); rintro e w5 ⟨rfl, hb5⟩)
        refine wp_world (fun U => GetQ w 1 (some ⟨b, o, none⟩) body.length c U true ks vs ds K ck V cv D cd ∧ Blk U w5.heap.size 34 [.int .i64 0, .slice none 0 0])
          ⟨(hG.under hb5).alloc _, Blk.new_at (cs := [.int .i64 0, .slice none 0 0]) rfl⟩ ?_
        clear hG bc nc c0 P1 hb5
        generalize w5.heap.size = g7 at *
        rintro U ⟨G4, hB7⟩
        have bc := G4.box.cells
        have c7 := hB7.cells
        have E1 := Lib.hid (same_any (Bs.nil_ U 0) (HB.out.below G4.below (Nat.le_refl _)))
        go_upto_region 25 with ((with_reducible refine Calls.mono E1.out ?_); rintro e w6 ⟨rfl, q6, rfl⟩)
        have G5 := G4.drewN q6
        clear bc c7 E1
        have rc_ := G5.res.cells
        have rf_ := G5.res.frees
        generalize decide (([] : List UInt8) = body) = dd at *
        go_wp2
        refine bodyPost_ret (results_rd rfl rfl rfl ((((G5.res.set_ 0 _).set_ 1 _).set_ 2 _).set_ 3 _)) rfl ?_
        rw [HNo.out hno.out]
        exact nget_none rfl ((((G5.below.setCell (by simp) _).setCell (by simp) _).setCell (by simp) _).setCell (by simp) _)

set_option maxRecDepth 100000 in
set_option maxHeartbeats 4000000 in
theorem rget_inner {A : Option Addr} {c lo : Nat} {body : List UInt8} {w : World} (hb : Bs w lo A body.length c body) (hr : body.length ≤ 140737488351232) (h0 : 0 < body.length) :
    Calls Try.prog 19 #[.agg #[.int .i64 2, .slice A body.length c]] w (NGet w (getN 2 body)) := by
  obtain ⟨b, o, rfl, _, hbw⟩ := hb.at_ h0
  have HB := Lib.hid hb
  have hz := zero25_
  have HG : Hid (getN 2 body = if getOk 2 body then some (psN false body).nd else none) := rfl
  have HOK : Hid (getOk 2 body ↔ ((psN false body).bad = false ∧ mayN (psN false body).nd ∧ (kindN (psN false body).nd : Int) = 2 ∧ bodyN (psN false body).nd = body)) := Iff.rfl
  have HN : Hid (psN false body = psTo false body (psCount body)) := rfl
  have HNk : Hid (∀ j, j < psCount body → (psKey (psTo false body j)).bad = true → getN 2 body = none) := fun j h1 h2 => getN_key (kd := 2) h1 h2
  have HNb : Hid (∀ j, j ≤ psCount body → (psTo false body j).bad = true → getN 2 body = none) := fun j h1 h2 => getN_bad (kd := 2) h1 h2
  have hN : psCount body < 256 := UInt8.toNat_lt _
  have HSh := Lib.hid (psTo_short false body)
  have H0 : Hid (psTo false body 0 = ⟨⟨false, [], [], []⟩, body.drop 1, false⟩) := by show _ = _; rw [psTo, (psCount_at h0).2.1, (psCount_at h0).2.2]
  have HSt : Hid (∀ i, psTo false body (i + 1) = psVal (psKey (psTo false body i))) := fun _ => rfl
  have HC0 : Hid (∀ W', Below w.heap.size w W' → W'.cell? ⟨b, o, none⟩ = some (.int .u8 (psCount body : Int))) := fun W' hW => by
    have := (HB.out.below hW (Nat.le_refl _)).cell 0 h0
    rw [← (psCount_at h0).1] at this
    exact this
  have hc1 := hb.2.1
  have hc2 := hb.2.2.1
  have hl1 : decide ((body.length : Int) < 1) = false := decide_eq_false (by omega)
  have hl2 : (0 : Int) < (body.length : Int) := by omega
  clear hb
  generalize psCount body = N at *
  go_enter Try.func19, Try.ntmps19
  go_upto_region 4 with fail
  refine wp_world (fun W => GetQ w 2 (some ⟨b, o, none⟩) body.length c W false [] [] [] none 0 none 0 none 0) (GetQ.init false) ?_
  clear hz
  rintro W G1
  go_wp2
  go_loopw [5, 6, 7, 8, 9, 10, 11, 12] (fun s5 s6 _ _ _ _ _ _ wr => ∃ (i p : Nat) (ks vs : List ByteArray) (ds : List Int) (K : Option Addr) (ck : Nat) (V : Option Addr) (cv : Nat) (D : Option Addr) (cd : Nat), i ≤ N ∧ s6 = .int .i64 i ∧ s5 = .int .i64 p ∧ p ≤ body.length ∧ psTo false body i = ⟨⟨false, ks, vs, ds⟩, body.drop p, false⟩ ∧ ks.length ≤ i ∧ vs.length ≤ i ∧ ds.length ≤ i ∧ GetQ w 2 (some ⟨b, o, none⟩) body.length c wr false ks vs ds K ck V cv D cd)
    (fun _ s6 _ _ _ _ _ _ _ => N - (intOf s6).toNat)
  case atStart => exact ⟨0, 1, [], [], [], none, 0, none, 0, none, 0, Nat.zero_le _, rfl, rfl, h0, H0.out, Nat.le_refl _, Nat.le_refl _, Nat.le_refl _, G1⟩
  case round =>
    clear G1
    obtain ⟨i, p, ks, vs, ds, K, ck, V, cv, D, cd, hi, rfl, rfl, hp, hps, hlk, hlv, hld, hG⟩ := hrel
    have bc := hG.box.cells
    have c0 := HC0.out _ hG.below
    by_cases hlt : i < N
    · have HS1 := Lib.hid (HSt.out i)
      rw [hps] at HS1
      have HNk1 := Lib.hid (HNk.out i hlt)
      rw [hps] at HNk1
      have HNb1 := Lib.hid (HNb.out (i + 1) hlt)
      clear hps
      have T1 := Lib.hid (rtext_any (HB.out.below hG.below (Nat.le_refl _)) hr hp)
      go_upto_region 9 with ((with_reducible refine Calls.mono T1.out ?_); rintro e w1 ⟨rfl, (⟨hbad, rfl⟩ | ⟨q, hgood, rfl, hrest, hq⟩)⟩)
      · have hno := Lib.hid (HNk1.out hbad)
        have rc_ := hG.res.cells
        have rf_ := hG.res.frees
        clear T1 HNk1 HNb1 HS1
        go_wp2
        refine bodyPost_ret (results_rd rfl rfl rfl ((((hG.res.set_ 0 _).set_ 1 _).set_ 2 _).set_ 3 _)) rfl ?_
        rw [hno.out]
        exact nget_none rfl ((((hG.below.setCell (by simp) _).setCell (by simp) _).setCell (by simp) _).setCell (by simp) _)
      · have HPk : Hid (psKey ⟨⟨false, ks, vs, ds⟩, body.drop p, false⟩ = ⟨⟨false, ks ++ [strOf (txOut (body.drop p) false)], vs, ds⟩, body.drop q, false⟩) := by
          show _ = _
          unfold psKey
          simp only
          rw [hrest, hgood]
        rw [HPk.out] at HS1
        have nc := hG.nod.cells
        generalize strOf (txOut (body.drop p) false) = kk at *
        clear HPk T1 HNk1 hgood hrest c0
        go_upto_region 13 with (at_builtin; refine wpList_app rfl (.tmp 57) (.tmp 59) 22 rfl 9 1 Try.underlying22 info9 rfl (by omega) rfl (hG.keys.alloc _) rfl (rd_one _ _ rfl) rfl (one_str _) (by omega) (by omega) (by have := hG.high; simp; omega) ?_; intro K2 ck2 w2 ho2 hg2 hf2; have G2 := hG.allocg hg2; have eF := (G2.midk hg2).frees; have eC := (G2.midk hg2).cells)
        refine wp_world (fun W => GetQ w 2 (some ⟨b, o, none⟩) body.length c W false (ks ++ [kk]) vs ds K2 ck2 V cv D cd) (G2.key ho2 hg2 hf2) ?_
        clear hG G2 ho2 hg2 hf2 bc nc eF eC
        rintro W3 hG
        have hlk2 : (ks ++ [kk]).length ≤ i + 1 := by simp; omega
        generalize ks ++ [kk] = ks2 at *
        clear hlk hp
        have bc := hG.box.cells
        have nc := hG.nod.cells
        by_cases h2 : q + 2 ≤ body.length
        rotate_left
        · have hno := Lib.hid (HNb1.out (by rw [HS1.out]; exact kid_no h2))
          have rc_ := hG.res.cells
          have rf_ := hG.res.frees
          have d2 : decide ((body.length : Int) < (q : Int) + 2) = true := decide_eq_true (by omega)
          clear HNb1 HS1
          go_wp2
          refine bodyPost_ret (results_rd rfl rfl rfl ((((hG.res.set_ 0 _).set_ 1 _).set_ 2 _).set_ 3 _)) rfl ?_
          rw [hno.out]
          exact nget_none rfl ((((hG.below.setCell (by simp) _).setCell (by simp) _).setCell (by simp) _).setCell (by simp) _)
        · have HPv : Hid (psVal ⟨⟨false, ks2, vs, ds⟩, body.drop q, false⟩ = ⟨⟨false, ks2, vs, ds ++ [(((body.getD q 0).toNat + 256 * (body.getD (q + 1) 0).toNat : Nat) : Int)]⟩, body.drop (q + 2), false⟩) := by
            show _ = _
            obtain ⟨a1, a2, a3⟩ := kid_two h2
            unfold psVal
            simp only [Bool.false_eq_true, if_false]
            rw [a1, a2, a3]
          rw [HPv.out] at HS1
          have d2 : decide ((body.length : Int) < (q : Int) + 2) = false := decide_eq_false (by omega)
          have hy0 := (body.getD q 0).toNat_lt
          have hy1 := (body.getD (q + 1) 0).toNat_lt
          have HY0 := Lib.hid (show ∀ W', Below w.heap.size w W' → W'.cell? ⟨b, o + q, none⟩ = some (.int .u8 ((body.getD q 0).toNat : Int)) from fun W' hW => (HB.out.below hW (Nat.le_refl _)).cell q (by omega))
          have HY1 := Lib.hid (show ∀ W', Below w.heap.size w W' → W'.cell? ⟨b, o + (q + 1), none⟩ = some (.int .u8 ((body.getD (q + 1) 0).toNat : Int)) from fun W' hW => (HB.out.below hW (Nat.le_refl _)).cell (q + 1) (by omega))
          generalize (body.getD q 0).toNat = y0 at *
          generalize (body.getD (q + 1) 0).toNat = y1 at *
          clear HPv HNb1
          have hqa : (q : Int) < (body.length : Int) := by omega
          have hqb : (q : Int) + 1 < (body.length : Int) := by omega
          have hqn : q < body.length := by omega
          have hq1 : ((q : Int) + 1).toNat = q + 1 := by omega
          have hqc : (0 : Int) ≤ (q : Int) + 1 := by omega
          have hqd : IntKind.i64.wrap ((q : Int) + 1) = (q : Int) + 1 := IntWalk.i64_in _ (by omega)
          go_upto_region 21 with fail
          refine wp_region_last (S := fun w' => w'.cell? ⟨w.heap.size + 2, 3, none⟩ = some (.slice D ds.length cd) ∧ w'.cell? ⟨w.heap.size, 1, none⟩ = some (.slice (some ⟨b, o, none⟩) body.length c) ∧ w'.cell? ⟨b, o + q, none⟩ = some (.int .u8 (y0 : Int)) ∧ w'.cell? ⟨b, o + (q + 1), none⟩ = some (.int .u8 (y1 : Int))) 20 (by kernel_rfl) rfl (by kernel_rfl) ?_ ?_
          · exact ⟨hG.nod.cell 3, hG.box.cell 1, HY0.out _ hG.below.drew, HY1.out _ hG.below.drew⟩
          intro hHeld
          simp only [List.take_succ_cons, List.take_zero]
          refine wpAnyH_take (i := 0) (v := ?_) (by simp only [List.getElem?_toArray, List.getElem?_cons_succ, List.getElem?_cons_zero]; rfl) (by kernel_rfl) (by kernel_rfl) (by kernel_rfl) (fun _ _ _ h => h) (Or.inl ⟨by rfl, ?_⟩) hHeld ?_
          rotate_left
          · intro wz hSw; (try dsimp only at hSw); go_simp; try with_reducible rfl
          (try simp only [Act.put, List.setIfInBounds_toArray, List.set_cons_zero, List.set_cons_succ])
          refine wpAnyH_take (i := 1) (v := ?_) (by simp only [List.getElem?_toArray, List.getElem?_cons_succ, List.getElem?_cons_zero]; rfl) (by kernel_rfl) (by kernel_rfl) (by kernel_rfl) (fun _ _ _ h => h) (Or.inl ⟨by rfl, ?_⟩) hHeld ?_
          rotate_left
          · intro wz hSw; (try dsimp only at hSw); go_simp; try with_reducible rfl
          (try simp only [Act.put, List.setIfInBounds_toArray, List.set_cons_zero, List.set_cons_succ])
          refine wpAnyH_take (i := 2) (v := ?_) (by simp only [List.getElem?_toArray, List.getElem?_cons_succ, List.getElem?_cons_zero]; rfl) (by kernel_rfl) (by kernel_rfl) (by kernel_rfl) (fun _ _ _ h => h) (Or.inl ⟨by rfl, ?_⟩) hHeld ?_
          rotate_left
          · intro wz hSw; (try dsimp only at hSw); go_simp; try with_reducible rfl
          (try simp only [Act.put, List.setIfInBounds_toArray, List.set_cons_zero, List.set_cons_succ])
          refine wpAnyH_take (i := 3) (v := ?_) (by simp only [List.getElem?_toArray, List.getElem?_cons_succ, List.getElem?_cons_zero]; rfl) (by kernel_rfl) (by kernel_rfl) (by kernel_rfl) (fun _ _ _ h => h) (Or.inl ⟨by rfl, ?_⟩) hHeld ?_
          rotate_left
          · intro wz hSw; (try dsimp only at hSw); go_simp; try with_reducible rfl
          (try simp only [Act.put, List.setIfInBounds_toArray, List.set_cons_zero, List.set_cons_succ])
          refine wpAnyH_take (i := 4) (v := ?_) (by simp only [List.getElem?_toArray, List.getElem?_cons_succ, List.getElem?_cons_zero]; rfl) (by kernel_rfl) (by kernel_rfl) (by kernel_rfl) (fun _ _ _ h => h) (Or.inl ⟨by rfl, ?_⟩) hHeld ?_
          rotate_left
          · intro wz hSw; (try dsimp only at hSw); go_simp; try with_reducible rfl
          (try simp only [Act.put, List.setIfInBounds_toArray, List.set_cons_zero, List.set_cons_succ])
          refine wpAnyH_take (i := 5) (v := ?_) (by simp only [List.getElem?_toArray, List.getElem?_cons_succ, List.getElem?_cons_zero]; rfl) (by kernel_rfl) (by kernel_rfl) (by kernel_rfl) (fun _ _ _ h => h) (Or.inl ⟨by rfl, ?_⟩) hHeld ?_
          rotate_left
          · intro wz hSw; (try dsimp only at hSw); go_simp; try with_reducible rfl
          (try simp only [Act.put, List.setIfInBounds_toArray, List.set_cons_zero, List.set_cons_succ])
          refine wpAnyH_take (i := 6) (v := ?_) (by simp only [List.getElem?_toArray, List.getElem?_cons_succ, List.getElem?_cons_zero]; rfl) (by kernel_rfl) (by kernel_rfl) (by kernel_rfl) (fun _ _ _ h => h) (Or.inl ⟨by rfl, ?_⟩) hHeld ?_
          rotate_left
          · intro wz hSw; (try dsimp only at hSw); go_simp; try with_reducible rfl
          (try simp only [Act.put, List.setIfInBounds_toArray, List.set_cons_zero, List.set_cons_succ])
          refine wpAnyH_take (i := 7) (v := ?_) (by simp only [List.getElem?_toArray, List.getElem?_cons_succ, List.getElem?_cons_zero]; rfl) (by kernel_rfl) (by kernel_rfl) (by kernel_rfl) (fun _ _ _ h => h) (Or.inl ⟨by rfl, ?_⟩) hHeld ?_
          rotate_left
          · intro wz hSw; (try dsimp only at hSw); go_simp; try with_reducible rfl
          (try simp only [Act.put, List.setIfInBounds_toArray, List.set_cons_zero, List.set_cons_succ])
          refine wpAnyH_take (i := 8) (v := ?_) (by simp only [List.getElem?_toArray, List.getElem?_cons_succ, List.getElem?_cons_zero]; rfl) (by kernel_rfl) (by kernel_rfl) (by kernel_rfl) (fun _ _ _ h => h) (Or.inl ⟨by rfl, ?_⟩) hHeld ?_
          rotate_left
          · intro wz hSw; (try dsimp only at hSw); go_simp; try with_reducible rfl
          (try simp only [Act.put, List.setIfInBounds_toArray, List.set_cons_zero, List.set_cons_succ])
          refine wpAnyH_take (i := 9) (v := ?_) (by simp only [List.getElem?_toArray, List.getElem?_cons_succ, List.getElem?_cons_zero]; rfl) (by kernel_rfl) (by kernel_rfl) (by kernel_rfl) (fun _ _ _ h => h) (Or.inl ⟨by rfl, ?_⟩) hHeld ?_
          rotate_left
          · intro wz hSw; (try dsimp only at hSw); go_simp; try with_reducible rfl
          (try simp only [Act.put, List.setIfInBounds_toArray, List.set_cons_zero, List.set_cons_succ])
          refine wpAnyH_take (i := 10) (v := ?_) (by simp only [List.getElem?_toArray, List.getElem?_cons_succ, List.getElem?_cons_zero]; rfl) (by kernel_rfl) (by kernel_rfl) (by kernel_rfl) (fun _ _ _ h => h) (Or.inl ⟨by rfl, ?_⟩) hHeld ?_
          rotate_left
          · intro wz hSw; (try dsimp only at hSw); go_simp; try with_reducible rfl
          (try simp only [Act.put, List.setIfInBounds_toArray, List.set_cons_zero, List.set_cons_succ])
          refine wpAnyH_take (i := 11) (v := ?_) (by simp only [List.getElem?_toArray, List.getElem?_cons_succ, List.getElem?_cons_zero]; rfl) (by kernel_rfl) (by kernel_rfl) (by kernel_rfl) (fun _ _ _ h => h) (Or.inl ⟨by rfl, ?_⟩) hHeld ?_
          rotate_left
          · intro wz hSw; (try dsimp only at hSw); go_simp; try with_reducible rfl
          (try simp only [Act.put, List.setIfInBounds_toArray, List.set_cons_zero, List.set_cons_succ])
          refine wpAnyH_take (i := 12) (v := ?_) (by simp only [List.getElem?_toArray, List.getElem?_cons_succ, List.getElem?_cons_zero]; rfl) (by kernel_rfl) (by kernel_rfl) (by kernel_rfl) (fun _ _ _ h => h) (Or.inl ⟨by rfl, ?_⟩) hHeld ?_
          rotate_left
          · intro wz hSw; (try dsimp only at hSw); go_simp; try with_reducible rfl
          (try simp only [Act.put, List.setIfInBounds_toArray, List.set_cons_zero, List.set_cons_succ])
          refine wpAnyH_take (i := 13) (v := ?_) (by simp only [List.getElem?_toArray, List.getElem?_cons_succ, List.getElem?_cons_zero]; rfl) (by kernel_rfl) (by kernel_rfl) (by kernel_rfl) (fun _ _ _ h => h) (Or.inl ⟨by rfl, ?_⟩) hHeld ?_
          rotate_left
          · intro wz hSw; (try dsimp only at hSw); go_simp; try with_reducible rfl
          (try simp only [Act.put, List.setIfInBounds_toArray, List.set_cons_zero, List.set_cons_succ])
          refine wpAnyH_take (i := 14) (v := ?_) (by simp only [List.getElem?_toArray, List.getElem?_cons_succ, List.getElem?_cons_zero]; rfl) (by kernel_rfl) (by kernel_rfl) (by kernel_rfl) (fun _ _ _ h => h) (Or.inl ⟨by rfl, ?_⟩) hHeld ?_
          rotate_left
          · intro wz hSw; (try dsimp only at hSw); go_simp; try with_reducible rfl
          (try simp only [Act.put, List.setIfInBounds_toArray, List.set_cons_zero, List.set_cons_succ])
          refine wpAnyH_take (i := 15) (v := ?_) (by simp only [List.getElem?_toArray, List.getElem?_cons_succ, List.getElem?_cons_zero]; rfl) (by kernel_rfl) (by kernel_rfl) (by kernel_rfl) (fun _ _ _ h => h) (Or.inl ⟨by rfl, ?_⟩) hHeld ?_
          rotate_left
          · intro wz hSw; (try dsimp only at hSw); go_simp; try with_reducible rfl
          (try simp only [Act.put, List.setIfInBounds_toArray, List.set_cons_zero, List.set_cons_succ])
          refine wpAnyH_take (i := 16) (v := ?_) (by simp only [List.getElem?_toArray, List.getElem?_cons_succ, List.getElem?_cons_zero]; rfl) (by kernel_rfl) (by kernel_rfl) (by kernel_rfl) (fun _ _ _ h => h) (Or.inl ⟨by rfl, ?_⟩) hHeld ?_
          rotate_left
          · intro wz hSw; (try dsimp only at hSw); go_simp; try with_reducible rfl
          (try simp only [Act.put, List.setIfInBounds_toArray, List.set_cons_zero, List.set_cons_succ])
          refine wpAnyH_ready (rs := [17]) (by kernel_rfl) (by simp) ?_
          refine AllReadyH.cons (by simp only [List.getElem?_toArray, List.getElem?_cons_succ, List.getElem?_cons_zero]; rfl) (fun K hK => ?_) AllReadyH.nil
          go_simp
          refine hK.out _ _ ?_ (fun hHeld => ?_)
          · exact ⟨(hG.drew.alloc _).nod.cell 3, (hG.drew.alloc _).box.cell 1, HY0.out _ (hG.drew.alloc _).below, HY1.out _ (hG.drew.alloc _).below⟩
          clear hK K
          (try simp only [Act.put, List.setIfInBounds_toArray, List.set_cons_zero, List.set_cons_succ])
          refine wpAnyH_ready (rs := [18]) (by kernel_rfl) (by simp) ?_
          refine AllReadyH.cons (by simp only [List.getElem?_toArray, List.getElem?_cons_succ, List.getElem?_cons_zero]; rfl) (fun K hK => ?_) AllReadyH.nil
          (refine step_app rfl (.tmp 90) (.tmp 106) 23 rfl 3 1 Try.underlying23 info3 rfl (by omega) rfl (hG.kids.drew.alloc _) rfl (rd_one _ _ rfl) rfl (one_int _ _) (by omega) (by omega) (by have := hG.high; simp; omega) ?_; intro K5 ck5 w5 ho2 hg2 hf2; have G2 := hG.drew.allocg hg2; have hb5 := below_own G2.below G2.kids hg2 (by omega) G2.below.size)
          refine hK.out _ _ ?_ (fun hHeld => ?_)
          · exact ⟨(G2.midd hg2).cell 3, (G2.box.grown hg2 (own_ne G2.kids (by omega))).cell 1, HY0.out _ hb5, HY1.out _ hb5⟩
          clear hK K
          (try simp only [Act.put, List.setIfInBounds_toArray, List.set_cons_zero, List.set_cons_succ])
          refine wpAnyH_take (i := 19) (v := ?_) (by simp only [List.getElem?_toArray, List.getElem?_cons_succ, List.getElem?_cons_zero]; rfl) (by kernel_rfl) (by kernel_rfl) (by kernel_rfl) (fun _ _ _ h => h) (Or.inl ⟨by rfl, ?_⟩) hHeld ?_
          rotate_left
          · intro wz hSw; (try dsimp only at hSw); go_simp; try with_reducible rfl
          (try simp only [Act.put, List.setIfInBounds_toArray, List.set_cons_zero, List.set_cons_succ])
          have eF := (G2.midd hg2).frees
          have eC := (G2.midd hg2).cells
          refine wpAnyH_done (by kernel_rfl) ?_ _
          simp only [lastQ]
          go_simp
          clear eF eC
          have hGf := G2.kid ho2 hg2
          rw [show IntKind.i64.wrap (IntKind.i64.wrap (y0 : Int) + IntKind.i64.wrap (256 * IntKind.i64.wrap (y1 : Int))) = ((y0 + 256 * y1 : Nat) : Int) from by rw [IntWalk.i64_in (y1 : Int) (by omega), IntWalk.i64_in (y0 : Int) (by omega), IntWalk.i64_in (256 * (y1 : Int)) (by omega), IntWalk.i64_in _ (by omega)]; omega] at hGf
          clear hG G2 ho2 hg2 hf2 hHeld bc nc hb5
          go_wp2
          go_roundw
          case rel =>
            exact ⟨i + 1, q + 2, _, _, _, _, _, _, _, _, _, by omega, by go_num, by go_num, h2, HS1.out, hlk2, by omega, by simp; omega, hGf⟩
          case measure => simp [intOf]; omega
    · obtain rfl : i = N := by omega
      have HNd : Hid (psN false body = ⟨⟨false, ks, vs, ds⟩, body.drop p, false⟩) := by show _ = _; rw [HN.out, hps]
      have hsh := HSh.out i
      rw [hps] at hsh
      have hndr : NdR wr w.heap.size ⟨false, ks, vs, ds⟩ K ks.length ck V vs.length cv D ds.length cd :=
        ⟨(own_ls hG.keys).weak (by omega), (own_ls hG.vals).weak (by omega), (own_ls hG.kids).weak (by omega), fun i => Nat.le_trans (hsh.1 i) (by omega), fun i => Nat.le_trans (hsh.2 i) (by omega), by omega, by omega, by omega⟩
      rw [HNd.out] at HOK
      have HG2 : Hid (getN 2 body = if getOk 2 body then some ⟨false, ks, vs, ds⟩ else none) := by show _ = _; rw [HG.out, HNd.out]
      have HNR := Lib.hid hndr
      have nc := hG.nod.cells
      clear hsh HSh HSt HN H0 HG hps HNk HNb
      have HNo : Hid (¬ getOk 2 body → getN 2 body = none) := fun h1 => by rw [HG2.out, if_neg h1]
      by_cases hm : mayN ⟨false, ks, vs, ds⟩
      · obtain ⟨s, hs⟩ : ∃ s : Nd, s = ⟨false, ks, vs, ds⟩ := ⟨_, rfl⟩
        have P1 := Lib.hid (rnput_b hs hndr hm)
        have HS := Lib.hid hs
        have HM := Lib.hid hm
        clear hndr hs hm
        go_upto_region 24 with ((with_reducible refine Calls.mono P1.out ?_); rintro e w5 ⟨A5, c5, rfl, ho5, hb5⟩)
        refine wp_world (fun U => GetQ w 2 (some ⟨b, o, none⟩) body.length c U false ks vs ds K ck V cv D cd ∧ Blk U w5.heap.size 34 [.int .i64 (kindN s), .slice A5 (bodyN s).length c5] ∧ Bs U 0 A5 (bodyN s).length c5 (bodyN s))
          ⟨(hG.under hb5).alloc _, Blk.new_at (cs := [.int .i64 (kindN s), .slice A5 (bodyN s).length c5]) rfl, (own_bs (ho5.alloc _)).weak (Nat.zero_le _)⟩ ?_
        clear hG bc nc c0 P1 ho5 hb5
        generalize w5.heap.size = g7 at *
        rintro U ⟨G4, hB7, hb7⟩
        have bc := G4.box.cells
        have c7 := hB7.cells
        have E1 := Lib.hid (same_any hb7 (HB.out.below G4.below (Nat.le_refl _)))
        clear hb7
        go_upto_region 25 with ((with_reducible refine Calls.mono E1.out ?_); rintro e w6 ⟨rfl, q6, rfl⟩)
        have G5 := G4.drewN q6
        clear bc c7 E1
        have nc := G5.nod.cells
        have rc_ := G5.res.cells
        have rf_ := G5.res.frees
        by_cases he : bodyN s = body
        · have hok : Hid (getOk 2 body) := HOK.out.2 ⟨trivial, HM.out, rfl, by rw [← HS.out]; exact he⟩
          rw [decide_eq_true he]
          clear he
          go_wp2
          refine bodyPost_ret (results_rd rfl rfl rfl ((((G5.res.set_ 0 _).set_ 1 _).set_ 2 _).set_ 3 _)) rfl ?_
          rw [HG2.out, if_pos hok.out]
          refine ⟨K, ks.length, ck, V, vs.length, cv, D, ds.length, cd, rfl, ?_, ((((G5.below.setCell (by simp) _).setCell (by simp) _).setCell (by simp) _).setCell (by simp) _)⟩
          have hn := HNR.out
          exact ⟨(own_ls ((((G5.keys.far (by simp) _).far (by simp) _).far (by simp) _).far (by simp) _)).weak (by omega), (own_ls ((((G5.vals.far (by simp) _).far (by simp) _).far (by simp) _).far (by simp) _)).weak (by omega), (own_ls ((((G5.kids.far (by simp) _).far (by simp) _).far (by simp) _).far (by simp) _)).weak (by omega), hn.ksmall, hn.vsmall, hn.kroom, hn.vroom, hn.droom⟩
        · have hno : Hid (¬ getOk 2 body) := fun h => he (by have := (HOK.out.1 h).2.2.2; rw [← HS.out] at this; exact this)
          rw [decide_eq_false he]
          clear he
          go_wp2
          refine bodyPost_ret (results_rd rfl rfl rfl ((((G5.res.set_ 0 _).set_ 1 _).set_ 2 _).set_ 3 _)) rfl ?_
          rw [HNo.out hno.out]
          exact nget_none rfl ((((G5.below.setCell (by simp) _).setCell (by simp) _).setCell (by simp) _).setCell (by simp) _)
      · have P1 := Lib.hid (rnput_no _ hndr hm)
        have hno : Hid (¬ getOk 2 body) := fun h => hm (HOK.out.1 h).2.1
        simp only at P1
        clear hndr hm
        go_upto_region 24 with ((with_reducible refine Calls.mono P1.out ?_); rintro e w5 ⟨rfl, hb5⟩)
        refine wp_world (fun U => GetQ w 2 (some ⟨b, o, none⟩) body.length c U false ks vs ds K ck V cv D cd ∧ Blk U w5.heap.size 34 [.int .i64 0, .slice none 0 0])
          ⟨(hG.under hb5).alloc _, Blk.new_at (cs := [.int .i64 0, .slice none 0 0]) rfl⟩ ?_
        clear hG bc nc c0 P1 hb5
        generalize w5.heap.size = g7 at *
        rintro U ⟨G4, hB7⟩
        have bc := G4.box.cells
        have c7 := hB7.cells
        have E1 := Lib.hid (same_any (Bs.nil_ U 0) (HB.out.below G4.below (Nat.le_refl _)))
        go_upto_region 25 with ((with_reducible refine Calls.mono E1.out ?_); rintro e w6 ⟨rfl, q6, rfl⟩)
        have G5 := G4.drewN q6
        clear bc c7 E1
        have rc_ := G5.res.cells
        have rf_ := G5.res.frees
        generalize decide (([] : List UInt8) = body) = dd at *
        go_wp2
        refine bodyPost_ret (results_rd rfl rfl rfl ((((G5.res.set_ 0 _).set_ 1 _).set_ 2 _).set_ 3 _)) rfl ?_
        rw [HNo.out hno.out]
        exact nget_none rfl ((((G5.below.setCell (by simp) _).setCell (by simp) _).setCell (by simp) _).setCell (by simp) _)

theorem rget_any (kd : Int) {A : Option Addr} {m c lo : Nat} {body : List UInt8} {w : World} (hb : Bs w lo A m c body) (hr : m ≤ 140737488351232) :
    Calls Try.prog 19 #[.agg #[.int .i64 kd, .slice A m c]] w (NGet w (getN kd body)) := by
  obtain rfl := hb.1
  rcases Nat.eq_zero_or_pos body.length with h0 | h0
  · exact rget_no hb (.inr h0)
  · by_cases h1 : kd = 1
    · subst h1
      exact rget_leaf hb hr h0
    · by_cases h2 : kd = 2
      · subst h2
        exact rget_inner hb hr h0
      · exact rget_no hb (.inl ⟨h1, h2⟩)
end Go.Proofs.Ytnjpibbmgbiofaa
