/- node.Put writes a node as the plain function does, or refuses it. -/
import Derived.Test.YtdakohbfibcjeaaTvM
import Derived.Test.YtdakohbfibcjeaaTvG
import Derived.Deep.DeepMust
namespace Go.Proofs.Ytdakohbfibcjeaa
open Go.RowKit

theorem bv_nat (x : Int) (n : Nat) (h : x = ((n % 256 : Nat) : Int)) : Value.int .u8 x = bv (UInt8.ofNat n) := by
  subst h; rfl
theorem rd_two {w : World} {g : Nat} (x y : Value) (e : TypeId) (hg : g = w.heap.size) : Rd (w.alloc (.cells #[x, y] e)) 0 (some ⟨g, 0, none⟩) [x, y] := (Blk.new_at (cs := [x, y]) hg).rd0 (Nat.zero_le _)
theorem two_int (k : IntKind) (n m : Int) : ∀ u ∈ [Value.int k n, .int k m], u.oneCell' = true := by
  intro u hu
  simp only [List.mem_cons, List.not_mem_nil, or_false] at hu
  rcases hu with rfl | rfl <;> rfl
theorem zero34 (w : World) : (zeroValue 89).run Try.prog w = .ok (.agg #[.int .i64 0, .slice none 0 0]) w := by kernel_rfl
theorem size34 : (Try.prog.info? 89).map (·.size) = some 2 := by kernel_rfl
theorem results_nb {fn : Func} {p t : Tmp} (h : fn.results = #[.cell p 89, .tmp t]) {tmps : Array Value} {w : World} {g : Nat} {v0 v1 x : Value}
    (hp : tmps.getD p undef = .pointer (some ⟨g, 0, none⟩)) (hx : tmps.getD t undef = x) (hB : Blk w g 89 [v0, v1]) : (results fn tmps).run Try.prog w = .ok (.tuple #[.agg #[v0, v1], x]) w := by
  have hr := run_loadVar_row (P := Try.prog) w g 89 89 #[v0, v1] (0, 0) _ hB Try.underlying89 rfl size34
  have hp' : tmps[p]?.getD undef = .pointer (some ⟨g, 0, none⟩) := by simpa using hp
  have hx' : tmps[t]?.getD undef = x := by simpa using hx
  simp [results, h, hp', hx', asAddr, hr]

theorem nmay_b {s : Nd} {t : Bool} (ht : decide (mayN s) = t) {w : World} {lo : Nat} {K V D : Option Addr} {nk ck nv cv nd cd : Nat} (h : NdR w lo s K nk ck V nv cv D nd cd) :
    Calls Try.prog 34 #[.agg #[.bool s.leaf, .slice K nk ck, .slice V nv cv, .slice D nd cd]] w fun e w' => e = .returned (.bool t) ∧ Below w.heap.size w w' := ht ▸ nmay_any s h

set_option maxHeartbeats 1000000 in
theorem nput_no (s : Nd) {w : World} {lo : Nat} {K V D : Option Addr} {nk ck nv cv nd cd : Nat} (h : NdR w lo s K nk ck V nv cv D nd cd) (hn : ¬ mayN s) :
    Calls Try.prog 23 #[.agg #[.bool s.leaf, .slice K nk ck, .slice V nv cv, .slice D nd cd]] w fun e w' => e = .returned (.tuple #[.agg #[.int .i64 0, .slice none 0 0], .int .i64 1]) ∧ Below w.heap.size w w' := by
  have hz := zero34
  have hb : Below w.heap.size w ((w.alloc (.cells #[.bool s.leaf, .slice K nk ck, .slice V nv cv, .slice D nd cd] 59)).alloc (.cells #[.int .i64 0, .slice none 0 0] 89)) := ((Below.refl _ _).alloc (Nat.le_refl _) _).alloc (by simp) _
  have M1 := Lib.hid (nmay_b (decide_eq_false hn) (h.below hb (Nat.le_refl _)))
  clear h hn
  go_enter Try.func23, Try.ntmps23
  go_upto_region 2 with ((with_reducible refine Calls.mono M1.out ?_); rintro e w1 ⟨rfl, hb1⟩)
  have R1 := (Blk.new_at (w := w.alloc (.cells #[.bool s.leaf, .slice K nk ck, .slice V nv cv, .slice D nd cd] 59)) (t := 89) (cs := [.int .i64 0, .slice none 0 0]) (n := w.heap.size + 1) (by simp)).below hb1 (by simp)
  have b1 : Below w.heap.size w w1 := hb.trans (hb1.mono (by simp <;> omega))
  have rf := R1.frees
  have rc := R1.cells
  clear M1 hb hb1 hz
  go_wp2
  refine bodyPost_ret (results_nb rfl rfl rfl ((R1.set_ 0 _).set_ 1 _)) rfl ⟨rfl, ?_⟩
  exact (b1.setCell (by simp) _).setCell (by simp) _

set_option maxRecDepth 100000 in
set_option maxHeartbeats 4000000 in
theorem nput_ok (s : Nd) {w : World} {lo : Nat} {K V D : Option Addr} {nk ck nv cv nd cd : Nat} (h : NdR w lo s K nk ck V nv cv D nd cd) (hm : mayN s) :
    Calls Try.prog 23 #[.agg #[.bool s.leaf, .slice K nk ck, .slice V nv cv, .slice D nd cd]] w fun e w' =>
      ∃ A' c', e = .returned (.tuple #[.agg #[.int .i64 (kindN s), .slice A' (bodyN s).length c'], .int .i64 0]) ∧ Own w' w.heap.size 5 1 A' (bodyN s).length c' (bvs (bodyN s)) ∧ Below w.heap.size w w' := by
  have hz := zero34
  have hb : Below w.heap.size w ((w.alloc (.cells #[.bool s.leaf, .slice K nk ck, .slice V nv cv, .slice D nd cd] 59)).alloc (.cells #[.int .i64 0, .slice none 0 0] 89)) := ((Below.refl _ _).alloc (Nat.le_refl _) _).alloc (by simp) _
  have M1 := Lib.hid (nmay_b (decide_eq_true hm) (h.below hb (Nat.le_refl _)))
  have HR := Lib.hid h
  have HM := Lib.hid hm
  have hk := Lib.hid h.nk_eq
  have hkr : s.keys.length ≤ 8796093022208 := by rw [h.nk_eq]; exact h.kroom
  have hk240 : nk ≤ 240 := by have := may_keys hm hkr; rw [h.nk_eq] at this; exact this
  have HB240 := Lib.hid (length_bodyTo_le hm hkr)
  have hv := Lib.hid (show s.leaf = true → nv = nk from fun hl => by rw [← h.nv_eq, (may_lens hm).1 hl, h.nk_eq])
  have hd := Lib.hid (show s.leaf = false → nd = nk from fun hl => by rw [← h.nd_eq, (may_lens hm).2 hl, h.nk_eq])
  clear h hm hkr
  go_enter Try.func23, Try.ntmps23
  go_upto_region 3 with ((with_reducible refine Calls.mono M1.out ?_); rintro e w1 ⟨rfl, hb1⟩)
  refine wp_world (fun U => Blk U w.heap.size 59 [.bool s.leaf, .slice K nk ck, .slice V nv cv, .slice D nd cd] ∧ Blk U (w.heap.size + 1) 89 [.int .i64 0, .slice none 0 0] ∧ Below w.heap.size w U ∧ w.heap.size + 2 ≤ U.heap.size)
    ⟨((Blk.new w _ [.bool s.leaf, .slice K nk ck, .slice V nv cv, .slice D nd cd]).alloc _).below hb1 (by simp <;> omega), (Blk.new_at (w := w.alloc (.cells #[.bool s.leaf, .slice K nk ck, .slice V nv cv, .slice D nd cd] 59)) (t := 89) (cs := [.int .i64 0, .slice none 0 0]) (n := w.heap.size + 1) (by simp)).below hb1 (by simp), hb.trans (hb1.mono (by simp <;> omega)), by have := hb1.size; simp at this; omega⟩ ?_
  clear M1 hb hb1 hz
  rintro U ⟨hB, hR, hU, hzU⟩
  have hBc := hB.cells
  go_upto_region 4 with fail
  have hlit : Own (U.alloc (.cells #[.int .u8 (nk : Int)] 5)) U.heap.size 5 1 (some ⟨U.heap.size, 0, none⟩) 1 1 (bvs (bodyTo s 0)) := by
    have := Own.lit (base := U.heap.size) (s := 1) U 5 (bvs [UInt8.ofNat nk]) (n := 1) (g := U.heap.size) (by omega) rfl (Nat.le_refl _) rfl
    rw [show bvs [UInt8.ofNat nk] = [.int .u8 (nk : Int)] by rw [bv_nat (nk : Int) nk (by omega)]; rfl] at this
    rw [show bodyTo s 0 = [UInt8.ofNat nk] by rw [bodyTo, hk.out], show bvs [UInt8.ofNat nk] = [.int .u8 (nk : Int)] by rw [bv_nat (nk : Int) nk (by omega)]; rfl]
    exact this
  refine wp_world (fun W => Blk W w.heap.size 59 [.bool s.leaf, .slice K nk ck, .slice V nv cv, .slice D nd cd] ∧ Blk W (w.heap.size + 1) 89 [.int .i64 0, .slice none 0 0] ∧ Below w.heap.size w W ∧ U.heap.size ≤ W.heap.size ∧ Own W U.heap.size 5 1 (some ⟨U.heap.size, 0, none⟩) 1 1 (bvs (bodyTo s 0)))
    ⟨hB.alloc _, hR.alloc _, hU.alloc hU.size _, by simp, hlit⟩ ?_
  clear hB hR hU hBc hlit
  generalize U.heap.size = base at *
  rintro W ⟨hB, hR, hW, hzW, ho⟩
  have hBc := hB.cells
  go_wp2
  go_loopw [4, 5, 18] (fun s4 s5 s18 wr => ∃ (i : Nat) (A4 : Option Addr) (c4 : Nat), i ≤ nk ∧ s18 = .int .i64 i ∧ s4 = .slice A4 (bodyTo s i).length c4 ∧ Own wr base 5 1 A4 (bodyTo s i).length c4 (bvs (bodyTo s i)) ∧ Blk wr w.heap.size 59 [.bool s.leaf, .slice K nk ck, .slice V nv cv, .slice D nd cd] ∧ Blk wr (w.heap.size + 1) 89 [.int .i64 0, .slice none 0 0] ∧ Below w.heap.size w wr ∧ base ≤ wr.heap.size)
    (fun _ _ s18 _ => nk - (intOf s18).toNat)
  case atStart => exact ⟨0, _, _, Nat.zero_le _, rfl, rfl, ho, hB, hR, hW, hzW⟩
  case round =>
    clear hB hR hW hzW ho hBc
    obtain ⟨i, A4, c4, hi, rfl, rfl, ho, hB, hR, hW, hzW⟩ := hrel
    by_cases hlt : i < nk
    · obtain ⟨b, o, rfl, _, hbl⟩ := HR.out.keys.at_ (by omega)
      have hm240 := HB240.out i (by rw [hk.out]; exact hi)
      have hk24 : (kAt s i).size ≤ 24 := (HM.out.2.1 i (by rw [hk.out]; exact hlt)).1
      have HX : Hid (bodyTo s (i + 1) = bodyTo s i ++ pieceN s i) := rfl
      have HPl : Hid (s.leaf = true → pieceN s i = UInt8.ofNat (kAt s i).size :: ((kAt s i).toList ++ UInt8.ofNat (vAt s i).size :: (vAt s i).toList)) := fun h => by unfold pieceN; rw [if_pos h]
      have HPi : Hid (s.leaf = false → pieceN s i = UInt8.ofNat (kAt s i).size :: ((kAt s i).toList ++ [UInt8.ofNat (dAt s i).toNat, UInt8.ofNat ((dAt s i).toNat / 256)])) := fun h => by unfold pieceN; rw [if_neg (by rw [h]; simp)]
      obtain ⟨L, hL⟩ : ∃ L, bodyTo s i = L := ⟨_, rfl⟩
      rw [hL] at ho hm240 HX ⊢
      clear hL
      have ck0 : wr.cell? ⟨b, o + i, none⟩ = some (.string (kAt s i)) := sl_cell (HR.out.keys.below hW (Nat.le_refl _)) i hlt
      have hB1 := hB.cell 1
      simp only [List.getElem?_cons_zero, List.getElem?_cons_succ] at hB1
      have HBx := Lib.hid hB
      have HRx := Lib.hid hR
      have HO := Lib.hid ho
      have HC := Lib.hid (show ∀ W', Below w.heap.size w W' → W'.cell? ⟨b, o + i, none⟩ = some (.string (kAt s i)) from fun W' hW' => sl_cell (HR.out.keys.below hW' (Nat.le_refl _)) i hlt)
      clear hB hR ho
      generalize hkk : kAt s i = kk at *
      clear hkk
      go_upto_region 7 with fail
      go_cut [4] (fun s4 wx => ∃ A5 c5, s4 = .slice A5 (L.length + 1 + kk.size) c5 ∧ Own wx base 5 1 A5 (L.length + 1 + kk.size) c5 (bvs (L ++ UInt8.ofNat kk.size :: kk.toList)) ∧ Blk wx w.heap.size 59 [.bool s.leaf, .slice (some ⟨b, o, none⟩) nk ck, .slice V nv cv, .slice D nd cd] ∧ Blk wx (w.heap.size + 1) 89 [.int .i64 0, .slice none 0 0] ∧ Below w.heap.size w wx ∧ base ≤ wx.heap.size)
      case first =>
        go_region_held3 (fun w' => w'.cell? ⟨w.heap.size, 1, none⟩ = some (.slice (some ⟨b, o, none⟩) nk ck) ∧ w'.cell? ⟨b, o + i, none⟩ = some (.string kk))
          (first | (exact K6.out) | (exact K5.out) | go_keep)
          (first
            | (refine step_app rfl (.tmp 21) (.tmp 29) 82 rfl 5 1 Try.underlying82 info5 rfl (by omega) rfl (HO.out.drew.alloc _) rfl (rd_one _ _ rfl) rfl (one_int _ _) (by omega) (by omega) (by simp; omega) ?_; intro A5 c5 w5 ho5 hg5 _; have B5 := (HBx.out.drew.alloc _).grown hg5 (own_ne HO.out (by omega)); have R5 := (HRx.out.drew.alloc _).grown hg5 (own_ne HO.out (by omega)); have b5 : Below w.heap.size w w5 := below_own (hW.drew.alloc hW.size _) (HO.out.drew.alloc _) hg5 (by omega) (by have := hW.size; simp <;> omega); have z5 : base ≤ w5.heap.size := (by have := hg5.size; simp at this; omega); have K5 : Hid (w5.cell? ⟨w.heap.size, 1, none⟩ = some (.slice (some ⟨b, o, none⟩) nk ck) ∧ w5.cell? ⟨b, o + i, none⟩ = some (.string kk)) := ⟨B5.cell 1, HC.out _ b5⟩)
            | (refine step_app_str rfl (.tmp 30) (.tmp 35) 82 9 rfl Try.underlying82 Try.underlying9 info5 rfl ho5 rfl (by omega) z5 ?_; intro A6 c6 w6 ho6 hg6; have B6 := B5.grown hg6 (own_ne ho5 (by omega)); have R6 := R5.grown hg6 (own_ne ho5 (by omega)); have b6 : Below w.heap.size w w6 := below_own b5 ho5 hg6 (by omega) b5.size; have K6 : Hid (w6.cell? ⟨w.heap.size, 1, none⟩ = some (.slice (some ⟨b, o, none⟩) nk ck) ∧ w6.cell? ⟨b, o + i, none⟩ = some (.string kk)) := ⟨B6.cell 1, HC.out _ b6⟩))
        all_goals go_wp2_with fail
        all_goals go_meet
        refine ⟨A6, c6, rfl, ?_, B6, R6, b6, Nat.le_trans z5 hg6.size⟩
        rw [bv_nat (IntKind.u8.wrap (kk.size : Int)) kk.size (by rw [IntKind.wrap_u8]; omega)] at ho6
        have he : bvs L ++ [bv (UInt8.ofNat kk.size)] ++ bvs kk.toList = bvs (L ++ UInt8.ofNat kk.size :: kk.toList) := by simp [bvs]
        rw [he] at ho6
        exact ho6
      case rest =>
        obtain ⟨A5, c5, rfl, ho5, hB5, hR5, b5, z5⟩ := hcut
        clear HC HO HBx HRx ck0 hB1
        have hBc := hB5.cells
        by_cases hlf : s.leaf = true
        · rw [hlf] at hBc
          have hvn := hv.out hlf
          obtain ⟨b2, o2, rfl, _, hbl2⟩ := HR.out.vals.at_ (by omega)
          have hv24 : (vAt s i).size ≤ 24 := (HM.out.2.2.1 hlf).2.2.2 i (by rw [(HM.out.2.2.1 hlf).2.1, hk.out]; exact hlt)
          have HC := Lib.hid (show ∀ W', Below w.heap.size w W' → W'.cell? ⟨b2, o2 + i, none⟩ = some (.string (vAt s i)) from fun W' hW' => sl_cell (HR.out.vals.below hW' (Nat.le_refl _)) i (by omega))
          have ck0 := HC.out _ b5
          have hB2 := hB5.cell 2
          simp only [List.getElem?_cons_zero, List.getElem?_cons_succ] at hB2
          have hivn : i < nv := by omega
          have HBx := Lib.hid hB5
          have HRx := Lib.hid hR5
          have HO := Lib.hid ho5
          have hll : L.length + 1 + kk.size ≤ 300 := by omega
          have HLf := Lib.hid hlf
          clear hB5 hR5 ho5 hvn hlf
          generalize vAt s i = vv at *
          go_upto_region 9 with fail
          go_region_held3 (fun w' => w'.cell? ⟨w.heap.size, 2, none⟩ = some (.slice (some ⟨b2, o2, none⟩) nv cv) ∧ w'.cell? ⟨b2, o2 + i, none⟩ = some (.string vv))
            (first | (exact K8.out) | (exact K7.out) | go_keep)
            (first
              | (refine step_app rfl (.tmp 39) (.tmp 47) 82 rfl 5 1 Try.underlying82 info5 rfl (by omega) rfl (HO.out.drew.alloc _) rfl (rd_one _ _ rfl) rfl (one_int _ _) (by omega) (by omega) (by simp; omega) ?_; intro A7 c7 w7 ho7 hg7 _; have B7 := (HBx.out.drew.alloc _).grown hg7 (own_ne HO.out (by omega)); have R7 := (HRx.out.drew.alloc _).grown hg7 (own_ne HO.out (by omega)); have b7 : Below w.heap.size w w7 := below_own (b5.drew.alloc b5.size _) (HO.out.drew.alloc _) hg7 (by omega) (by have := b5.size; simp <;> omega); have z7 : base ≤ w7.heap.size := (by have := hg7.size; simp at this; omega); have K7 : Hid (w7.cell? ⟨w.heap.size, 2, none⟩ = some (.slice (some ⟨b2, o2, none⟩) nv cv) ∧ w7.cell? ⟨b2, o2 + i, none⟩ = some (.string vv)) := ⟨B7.cell 2, HC.out _ b7⟩)
              | (refine step_app_str rfl (.tmp 48) (.tmp 53) 82 9 rfl Try.underlying82 Try.underlying9 info5 rfl ho7 rfl (by omega) z7 ?_; intro A8 c8 w8 ho8 hg8; have B8 := B7.grown hg8 (own_ne ho7 (by omega)); have R8 := R7.grown hg8 (own_ne ho7 (by omega)); have b8 : Below w.heap.size w w8 := below_own b7 ho7 hg8 (by omega) b7.size; have K8 : Hid (w8.cell? ⟨w.heap.size, 2, none⟩ = some (.slice (some ⟨b2, o2, none⟩) nv cv) ∧ w8.cell? ⟨b2, o2 + i, none⟩ = some (.string vv)) := ⟨B8.cell 2, HC.out _ b8⟩))
          go_wp2
          rw [bv_nat (IntKind.u8.wrap (vv.size : Int)) vv.size (by rw [IntKind.wrap_u8]; omega)] at ho8
          have he : bvs (L ++ UInt8.ofNat kk.size :: kk.toList) ++ [bv (UInt8.ofNat vv.size)] ++ bvs vv.toList = bvs (bodyTo s (i + 1)) := by
            rw [HX.out, HPl.out HLf.out]; simp [bvs, List.append_assoc]
          have hlen : L.length + 1 + kk.size + 1 + vv.size = (bodyTo s (i + 1)).length := by
            rw [HX.out, HPl.out HLf.out]; simp [length_toList]; omega
          rw [he] at ho8
          rw [hlen] at ho8 ⊢
          go_roundw
          case rel =>
            exact ⟨i + 1, A8, c8, by omega, by go_num, rfl, ho8, B8, R8, b8, Nat.le_trans z7 hg8.size⟩
          case measure => simp [intOf]; omega
        · replace hlf : s.leaf = false := by simpa using hlf
          rw [hlf] at hBc
          have hdn := hd.out hlf
          obtain ⟨b2, o2, rfl, _, hbl2⟩ := HR.out.kids.at_ (by omega)
          have hdr : 0 ≤ dAt s i ∧ dAt s i ≤ 65535 := (HM.out.2.2.2 hlf).2.2 i (by rw [(HM.out.2.2.2 hlf).1, hk.out]; exact hlt)
          have HC := Lib.hid (show ∀ W', Below w.heap.size w W' → W'.cell? ⟨b2, o2 + i, none⟩ = some (.int .i64 (dAt s i)) from fun W' hW' => il_cell (HR.out.kids.below hW' (Nat.le_refl _)) i (by omega))
          have hB2 := hB5.cell 3
          simp only [List.getElem?_cons_zero, List.getElem?_cons_succ] at hB2
          have hivn : i < nd := by omega
          have HBx := Lib.hid hB5
          have HRx := Lib.hid hR5
          have HO := Lib.hid ho5
          have hll : L.length + 1 + kk.size ≤ 300 := by omega
          have HLf := Lib.hid hlf
          clear hB5 hR5 ho5 hdn hlf
          generalize dAt s i = dz at *
          obtain ⟨dn, rfl⟩ := Int.eq_ofNat_of_zero_le hdr.1
          have ck0 := HC.out _ b5
          have hdn2 : dn ≤ 65535 := by omega
          clear hdr
          go_upto_region 10 with fail
          go_region_held3 (fun w' => w'.cell? ⟨w.heap.size, 3, none⟩ = some (.slice (some ⟨b2, o2, none⟩) nd cd) ∧ w'.cell? ⟨b2, o2 + i, none⟩ = some (.int .i64 (dn : Int)))
            (first | (exact K7.out) | go_keep)
            (first
              | (refine step_app rfl (.tmp 55) (.tmp 69) 82 rfl 5 1 Try.underlying82 info5 rfl (by omega) rfl (HO.out.drew.alloc _) rfl (rd_two _ _ _ rfl) rfl (two_int _ _ _) (by omega) (by omega) (by simp; omega) ?_; intro A7 c7 w7 ho7 hg7 _; have B7 := (HBx.out.drew.alloc _).grown hg7 (own_ne HO.out (by omega)); have R7 := (HRx.out.drew.alloc _).grown hg7 (own_ne HO.out (by omega)); have b7 : Below w.heap.size w w7 := below_own (b5.drew.alloc b5.size _) (HO.out.drew.alloc _) hg7 (by omega) (by have := b5.size; simp <;> omega); have z7 : base ≤ w7.heap.size := (by have := hg7.size; simp at this; omega); have K7 : Hid (w7.cell? ⟨w.heap.size, 3, none⟩ = some (.slice (some ⟨b2, o2, none⟩) nd cd) ∧ w7.cell? ⟨b2, o2 + i, none⟩ = some (.int .i64 (dn : Int))) := ⟨B7.cell 3, HC.out _ b7⟩))
          go_wp2
          rw [bv_nat (IntKind.u8.wrap (dn : Int)) dn (by rw [IntKind.wrap_u8]; omega), bv_nat (IntKind.u8.wrap ((dn : Int) / 256)) (dn / 256) (by rw [IntKind.wrap_u8]; omega)] at ho7
          have he : bvs (L ++ UInt8.ofNat kk.size :: kk.toList) ++ [bv (UInt8.ofNat dn), bv (UInt8.ofNat (dn / 256))] = bvs (bodyTo s (i + 1)) := by
            rw [HX.out, HPi.out HLf.out]; simp [bvs, List.append_assoc]
          have hlen : L.length + 1 + kk.size + 2 = (bodyTo s (i + 1)).length := by
            rw [HX.out, HPi.out HLf.out]; simp [length_toList]; omega
          rw [he] at ho7
          rw [hlen] at ho7 ⊢
          go_roundw
          case rel =>
            exact ⟨i + 1, A7, c7, by omega, by go_num, rfl, ho7, B7, R7, b7, z7⟩
          case measure => simp [intOf]; omega
    · obtain rfl : i = nk := by omega
      have hBy : Hid (bodyTo s i = bodyN s) := by show _ = _; rw [← hk.out]; rfl
      rw [hBy.out] at ho ⊢
      have hBc := hB.cells
      have rc := hR.cells
      have rf := hR.frees
      have HO := Lib.hid ho
      have HRx := Lib.hid hR
      clear ho hB hR
      by_cases hlf : s.leaf = true
      · rw [hlf] at hBc
        have HKd : Hid (kindN s = 1) := by show _ = _; unfold kindN; rw [if_pos hlf]
        go_wp2
        refine bodyPost_ret (results_nb rfl rfl rfl ((HRx.out.set_ 0 _).set_ 1 _)) rfl ?_
        rw [HKd.out]
        exact ⟨A4, c4, rfl, ((HO.out.far (by simp <;> omega) _).far (by simp <;> omega) _).weak (by omega), (hW.setCell (by simp) _).setCell (by simp) _⟩
      · replace hlf : s.leaf = false := by simpa using hlf
        rw [hlf] at hBc
        have HKd : Hid (kindN s = 2) := by show _ = _; unfold kindN; rw [if_neg (by rw [hlf]; simp)]
        go_wp2
        refine bodyPost_ret (results_nb rfl rfl rfl ((HRx.out.set_ 0 _).set_ 1 _)) rfl ?_
        rw [HKd.out]
        exact ⟨A4, c4, rfl, ((HO.out.far (by simp <;> omega) _).far (by simp <;> omega) _).weak (by omega), (hW.setCell (by simp) _).setCell (by simp) _⟩
end Go.Proofs.Ytdakohbfibcjeaa
