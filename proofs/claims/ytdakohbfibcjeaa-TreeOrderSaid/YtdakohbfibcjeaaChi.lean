/- tree.change where a key that is not there is put, at any height. No condition. -/
import Derived.Test.YtdakohbfibcjeaaCh
namespace Go.Proofs.Ytdakohbfibcjeaa
open Go.RowKit Go.Maps
set_option linter.unusedSimpArgs false
set_option linter.unusedVariables false

set_option maxRecDepth 100000 in
set_option maxHeartbeats 8000000 in
theorem change_any (N : Nat) (key val : ByteArray) : ∀ (h : Nat) {w : World} {base root kx vx : Nat} {p : TrS} {T : Nodes} {beside : ByteArray} {lv : Int}, TrM w base p N T → ChgP N key val h T root → 0 ≤ lv ∧ lv + h ≤ 16 →
    Blk w kx 9 [.string key] → Blk w vx 9 [.string val] → ¬ p.foot kx → ¬ p.foot vx →
    Calls Try.prog 16 #[.pointer (some ⟨p.g, 0, none⟩), .int .i64 (root : Int), .int .i64 lv, .string beside, .string key, closureV kx vx] w (ChgTo w base p N (ChgR N key val h T root beside)) := by
  intro h
  induction h with
  | zero => intro w base root kx vx p T beside lv hM hp hl hk hv hkf hvf; exact change_leaf hM hp (by omega) hk hv hkf hvf
  | succ h ih =>
    intro w base root kx vx p T beside lv hM hp hl hk hv hkf hvf
    obtain ⟨nd, kid, hT, hlf, hkl, hk1, hk2, hat, hkid, hpk, hrest⟩ := hp
    obtain ⟨gp, hgp⟩ : ∃ z, z = p.g := ⟨_, rfl⟩
    have L0 := load_any (lv := lv) hM hT ⟨by omega, by omega⟩
    rw [← hgp] at L0
    have L := Lib.hid L0
    have HGp := Lib.hid hgp
    rw [← hgp]
    have IH : Hid (∀ (w : World) (base root kx vx : Nat) (p : TrS) (T : Nodes) (beside : ByteArray) (lv : Int), TrM w base p N T → ChgP N key val h T root → 0 ≤ lv ∧ lv + h ≤ 16 →
        Blk w kx 9 [.string key] → Blk w vx 9 [.string val] → ¬ p.foot kx → ¬ p.foot vx →
        Calls Try.prog 16 #[.pointer (some ⟨p.g, 0, none⟩), .int .i64 (root : Int), .int .i64 lv, .string beside, .string key, closureV kx vx] w (ChgTo w base p N (ChgR N key val h T root beside))) := Lib.hid (fun w base root kx vx p T beside lv => ih)
    have H := Lib.hid hM
    have HT := Lib.hid hT
    have HK := Lib.hid hk
    have HV := Lib.hid hv
    have HKf : Hid (¬ p.foot kx ∧ ¬ p.foot vx) := Lib.hid ⟨hkf, hvf⟩
    have HNd : Hid (nd.leaf = false ∧ nd.kids.length = nd.keys.length ∧ 2 ≤ nd.keys.length ∧ nd.keys.length ≤ 240) := Lib.hid ⟨hlf, hkl, hk1, hk2⟩
    have HPk := Lib.hid hpk
    have HRest := Lib.hid hrest
    have HLv := Lib.hid hl
    obtain ⟨at_, hatE⟩ : ∃ z, z = placeTo nd key nd.keys.length := ⟨_, rfl⟩
    rw [← hatE] at HRest hat hkid
    have HAtE := Lib.hid hatE
    have HAt := Lib.hid hat
    have HKid := Lib.hid hkid
    have hzn := zero26_
    unfold closureV
    have hlvw : IntKind.i64.wrap (lv + 1) = lv + 1 := by rw [IntKind.wrap_i64]; omega
    clear ih L0 hM hT hk hv hkf hvf hlf hkl hk1 hk2 hpk hrest hat hatE hkid hgp hl
    go_enter Try.func16, Try.ntmps16
    go_upto_region 2 with ((with_reducible refine Calls.mono L.out ?_); rintro e w1 ⟨p1, lo1, K, nk, ck, V, nv, cv, D, ndd, cd, rfl, hc1, ho, hlo, hf1⟩)
    have hkw := HK.out.lt
    have hvw := HV.out.lt
    have hNb := NdB.loaded hc1 ho hlo hf1 hkw hvw
    have hK1 := hc1.K.blk HK.out HKf.out.1
    have hV1 := hc1.K.blk HV.out HKf.out.2
    have hkf1 := hc1.away HKf.out.1 hkw
    have hvf1 := hc1.away HKf.out.2 hvw
    have hal : Below w1.heap.size w1 (w1.alloc (.cells #[.bool nd.leaf, .slice K nk ck, .slice V nv cv, .slice D ndd cd] 59)) := (Below.refl _ _).alloc (Nat.le_refl _) _
    obtain ⟨g15, hg15⟩ : ∃ z, z = w1.heap.size := ⟨_, rfl⟩
    rw [← hg15] at hNb
    rw [← hg15]
    refine wp_world (fun U => TCh w U base p p1 N T ∧ NdB w U p1 g15 (fun _ => False) nd ∧ Blk U kx 9 [.string key] ∧ Blk U vx 9 [.string val]) ⟨hc1.below hal (Nat.le_refl _), hNb.mono (fun _ _ x => x.elim), hK1.alloc _, hV1.alloc _⟩ ?_
    have HKf1 : Hid (¬ p1.foot kx ∧ ¬ p1.foot vx) := Lib.hid ⟨hkf1, hvf1⟩
    clear hc1 hNb hK1 hV1 hal hg15 ho hlo hf1 hkw hvw hkf1 hvf1 L HK HV HKf H
    rintro U ⟨hC, hNb, hk, hv⟩
    have HNb := Lib.hid hNb
    obtain ⟨K1, nk1, ck1, V1, nv1, cv1, D1, nd1, cd1, hb, ho, _, hgf, hX⟩ := hNb
    have a1 := ho.nk_eq
    have a2 := ho.nv_eq
    have a3 := ho.nd_eq
    have hsay := hC.tr.says _ _ HT.out
    have hl3 := may_len3 hsay.2.2.1 hsay.2.2.2.1
    have hn := ho.ndr (may_sm hsay.2.2.1) (by omega) (by omega) (by omega)
    have P0 := nplace_inner HNd.out.1 key hn
    rw [HNd.out.1] at P0 hb
    rw [← a1, ← HAtE.out] at P0
    rw [a1] at P0
    have P := Lib.hid P0
    have hBc := hb.cells
    have hat1 : at_ < nk1 := by have := HAt.out; omega
    obtain ⟨kb, rfl, _, hkb2⟩ := ho.keys.head (by omega)
    obtain ⟨db, rfl, _, hdb2⟩ := ho.kids.head (by have := HNd.out.2.1; omega)
    have ck0 : U.cell? ⟨kb, at_, none⟩ = some (.string (kAt nd at_)) := by
      have := sl_cell (own_ls ho.keys) at_ hat1
      rwa [Nat.zero_add] at this
    have cd0 : U.cell? ⟨db, at_, none⟩ = some (.int .i64 (kid : Int)) := by
      have := il_cell (own_ls ho.kids) at_ (by have := HNd.out.2.1; omega)
      rwa [Nat.zero_add, HKid.out] at this
    have HC := Lib.hid hC
    have HK := Lib.hid hk
    have HV := Lib.hid hv
    have HB := Lib.hid hb
    obtain rfl : nd1 = nk1 := by have := HNd.out.2.1; omega
    have HX : Hid (¬ p1.foot g15 ∧ ¬ p1.foot kb ∧ ¬ p1.foot db) := Lib.hid ⟨hgf, (hX kb (.inl rfl)).1, (hX db (.inr (.inr rfl))).1⟩
    clear hC hk hv hb ho a2 a3 hsay hl3 hn P0 hgf hX
    go_upto_region 5 with ((with_reducible refine Calls.mono P.out ?_); rintro e w2 ⟨rfl, hb2⟩)
    clear P hBc
    have hC2 := HC.out.below hb2 (Nat.le_refl _)
    have HNb2 := Lib.hid (HNb.out.below hb2 (Nat.le_refl _))
    have hB2 := HB.out.below hb2 HB.out.lt
    have ck2 : w2.cell? ⟨kb, at_, none⟩ = some (.string (kAt nd at_)) := (hb2.cell (p := ⟨kb, at_, none⟩) hkb2).trans ck0
    have cd2 : w2.cell? ⟨db, at_, none⟩ = some (.int .i64 (kid : Int)) := (hb2.cell (p := ⟨db, at_, none⟩) hdb2).trans cd0
    have b0 : w2.cell? ⟨g15, 0, none⟩ = some (.bool false) := hB2.cell 0
    have b1 : w2.cell? ⟨g15, 1, none⟩ = some (.slice (some ⟨kb, 0, none⟩) nd1 ck1) := hB2.cell 1
    have b3 : w2.cell? ⟨g15, 3, none⟩ = some (.slice (some ⟨db, 0, none⟩) nd1 cd1) := hB2.cell 3
    have ih0 := IH.out w2.drew base kid kx vx p1 T (kAt nd at_) (lv + 1) (hC2.tr.kept (F := fun _ => False) (kept_drew (Kept.refl _ _)) (fun _ _ x => x)) HPk.out (by have := HLv.out; omega) (HK.out.below hb2 HK.out.lt).drew (HV.out.below hb2 HV.out.lt).drew HKf1.out.1 HKf1.out.2
    rw [hC2.g, ← HGp.out] at ih0
    unfold closureV at ih0
    have R := Lib.hid ih0
    have hati : (0 : Int) ≤ (at_ : Int) ∧ (at_ : Int) < (nd1 : Int) := by omega
    obtain ⟨kk, hkk⟩ : ∃ z, z = kAt nd at_ := ⟨_, rfl⟩
    rw [← hkk] at R ck2
    have HKk := Lib.hid hkk
    have HC2 := Lib.hid hC2
    clear hC2 hB2 ih0 HC HNb HK HV HB hb2 ck0 cd0 hkk
    have HXs : Hid (g15 < w2.heap.size ∧ kb < w2.heap.size ∧ db < w2.heap.size) := Lib.hid ⟨HNb2.out.lt, block_lt_of_cell ck2, block_lt_of_cell cd2⟩
    go_upto_region 8 with fail
    go_region_held3 (fun w' => w'.cell? ⟨g15, 1, none⟩ = some (.slice (some ⟨kb, 0, none⟩) nd1 ck1) ∧ w'.cell? ⟨g15, 3, none⟩ = some (.slice (some ⟨db, 0, none⟩) nd1 cd1) ∧ w'.cell? ⟨kb, at_, none⟩ = some (.string kk) ∧ w'.cell? ⟨db, at_, none⟩ = some (.int .i64 (kid : Int)))
      (first | go_keep | (exact d1) | (exact d3) | (exact dk) | (exact dd))
      (first
        | ((with_reducible refine Calls.mono R.out ?_); rintro e w4 ⟨g0, p4, l0, T1, rfl, hg0, hgw0, hgf0, hc4, hr4⟩
           have d1 : w4.cell? ⟨g15, 1, none⟩ = some (.slice (some ⟨kb, 0, none⟩) nd1 ck1) := (World.cell?_of_block (a := ⟨g15, 1, none⟩) (hc4.K.block g15 HXs.out.1 HX.out.1)).trans b1
           have d3 : w4.cell? ⟨g15, 3, none⟩ = some (.slice (some ⟨db, 0, none⟩) nd1 cd1) := (World.cell?_of_block (a := ⟨g15, 3, none⟩) (hc4.K.block g15 HXs.out.1 HX.out.1)).trans b3
           have dk : w4.cell? ⟨kb, at_, none⟩ = some (.string kk) := (World.cell?_of_block (a := ⟨kb, at_, none⟩) (hc4.K.block kb HXs.out.2.1 HX.out.2.1)).trans ck2
           have dd : w4.cell? ⟨db, at_, none⟩ = some (.int .i64 (kid : Int)) := (World.cell?_of_block (a := ⟨db, at_, none⟩) (hc4.K.block db HXs.out.2.2 HX.out.2.2)).trans cd2))
    rename_i hH
    have hC4 := (HC2.out.kept (F := fun _ => False) (kept_drew (Kept.refl _ _)) (fun _ x => x.elim)).trans hc4
    rw [HKk.out] at hr4
    obtain ⟨hT1, hl1, hl2, hnj, hsv, hrm⟩ := HRest.out l0 T1 hr4
    have hg15 : g15 ≠ g0 := by have h1 := HXs.out.1; have h2 : w2.heap.size ≤ g0 := hgw0; omega
    have hNb4 := ((HNb2.out.below (below_drewN (Below.refl w2.heap.size w2) 1) (Nat.le_refl _)).mono (Y := fun b => b = g0) (fun b hb e => by have h2 : w2.heap.size ≤ g0 := hgw0; have h3 : b < w2.heap.size := hb; omega)).step hc4
    have P0 := place_any hC4 hNb4 HAt.out HNd.out.2.1 HNd.out.2.2.2 hg0 hg15 hl2 hl1 HNd.out.2.2.1 hnj
    rw [hC4.g, ← HGp.out] at P0
    have P := Lib.hid P0
    have HHr : Hid (ChgR N key val h T kid (kAt nd at_) l0 T1 ∧ T1 root = some nd ∧ SaveOk (placeN nd at_ l0) ∧ Room N T1 2) := Lib.hid ⟨hr4, hT1, hsv, hrm⟩
    clear hH d1 d3 dk dd b0 b1 b3 ck2 cd2 hC4 hT1 hl1 hl2 hnj hsv hrm hg15 hNb4 P0 hg0 hgw0 hgf0 hc4 hr4 R HC2 HNb2 HXs HX HRest IH HPk
    go_upto_region 12 with ((with_reducible refine Calls.mono P.out ?_); rintro e w5 ⟨rfl, p5, hC5, hNb5⟩)
    clear P
    obtain ⟨K2, nk2, ck2, V2, nv2, cv2, D2, nd2, cd2, hb3, ho3, _, _, _⟩ := hNb5
    have S0 := saves_any (key := beside) hC5.tr HHr.out.2.2.2 HHr.out.2.2.1 ho3
    rw [hC5.g, ← HGp.out] at S0
    have S := Lib.hid S0
    have hBc := hb3.cells
    have HC5 := Lib.hid hC5
    clear S0 hb3 ho3 hC5
    go_upto_region 16 with ((with_reducible refine Calls.mono S.out ?_); rintro e w6 ⟨g, p6, l, T2, rfl, hg, hgw, hgf, hc6, hsv⟩)
    clear S hBc
    have hC6 := HC5.out.trans hc6
    have G0 := gone_any hC6.tr (saved_keep hsv HHr.out.2.1)
    rw [hC6.g, ← HGp.out] at G0
    have G := Lib.hid G0
    have HC6 := Lib.hid hC6
    have HG := Lib.hid hg
    have HGf := Lib.hid hgf
    have HSv := Lib.hid hsv
    have hgw' : w.heap.size ≤ g := Nat.le_trans HC5.out.K.size hgw
    clear G0 hC6 hg hgf hsv hc6 HC5 hgw
    go_wp2_with ((with_reducible refine Calls.mono G.out ?_); rintro e w7 ⟨rfl, p7, hc7⟩)
    have hfin : ChgTo w base p N (ChgR N key val (h + 1) T root beside) (.returned (.tuple #[.slice (some ⟨g, 0, none⟩) l.length l.length, .bool true, .int .i64 0])) w7 :=
      ⟨g, p7, l, _, rfl, hc7.K.blk HG.out HGf.out, hgw', hc7.away HGf.out HG.out.lt, HC6.out.trans hc7, nd, l0, T1, T2, kid, HT.out, by rw [← HAtE.out]; exact HKid.out, by rw [← HAtE.out]; exact HHr.out.1, by rw [← HAtE.out]; exact HSv.out, rfl⟩
    have HF := Lib.hid hfin
    clear hfin hc7 G HC6 HG HGf HSv
    go_ret3
    exact HF.out
end Go.Proofs.Ytdakohbfibcjeaa
