/- kistref14.Put writes a node as the plain function does, or refuses it. (Printed by gen_nodputr.py.) -/
import Derived.Test.YtnjpibbmgbiofaaNodPut
import Derived.Test.YtnjpibbmgbiofaaNodMayR
import Derived.Test.YtnjpibbmgbiofaaLastOp
import Derived.Test.YtnjpibbmgbiofaaOwnB
import Derived.Deep.RegionHeld3
namespace Go.Proofs.Ytnjpibbmgbiofaa
open Go.RowKit
set_option linter.unusedSimpArgs false
set_option linter.unusedVariables false

theorem rnmay_b {s : Nd} {lf t : Bool} (hl : s.leaf = lf) (ht : decide (mayN s) = t) {w : World} {lo : Nat} {K V D : Option Addr} {nk ck nv cv nd cd : Nat} (h : NdR w lo s K nk ck V nv cv D nd cd) :
    Calls Try.prog 9 #[.agg #[.bool lf, .slice K nk ck, .slice V nv cv, .slice D nd cd]] w fun e w' => e = .returned (.bool t) ∧ Below w.heap.size w w' := by
  subst hl ht
  exact rnmay_any s h

set_option maxHeartbeats 1000000 in
theorem rnput_no (s : Nd) {w : World} {lo : Nat} {K V D : Option Addr} {nk ck nv cv nd cd : Nat} (h : NdR w lo s K nk ck V nv cv D nd cd) (hn : ¬ mayN s) :
    Calls Try.prog 14 #[.agg #[.bool s.leaf, .slice K nk ck, .slice V nv cv, .slice D nd cd]] w fun e w' => e = .returned (.tuple #[.agg #[.int .i64 0, .slice none 0 0], .int .i64 1]) ∧ Below w.heap.size w w' := by
  have hz := zero34
  have hb : Below w.heap.size w ((w.alloc (.cells #[.bool s.leaf, .slice K nk ck, .slice V nv cv, .slice D nd cd] 25)).alloc (.cells #[.int .i64 0, .slice none 0 0] 34)) := ((Below.refl _ _).alloc (Nat.le_refl _) _).alloc (by simp) _
  have M1 := Lib.hid (rnmay_b rfl (decide_eq_false hn) (h.below hb (Nat.le_refl _)))
  clear h hn
  go_enter Try.func14, Try.ntmps14
  go_upto_region 2 with ((with_reducible refine Calls.mono M1.out ?_); rintro e w1 ⟨rfl, hb1⟩)
  have R1 := (Blk.new_at (w := w.alloc (.cells #[.bool s.leaf, .slice K nk ck, .slice V nv cv, .slice D nd cd] 25)) (t := 34) (cs := [.int .i64 0, .slice none 0 0]) (n := w.heap.size + 1) (by simp)).below hb1 (by simp)
  have b1 : Below w.heap.size w w1 := hb.trans (hb1.mono (by simp <;> omega))
  have rf := R1.frees
  have rc := R1.cells
  clear M1 hb hb1 hz
  go_wp2
  refine bodyPost_ret (results_nb rfl rfl rfl ((R1.set_ 0 _).set_ 1 _)) rfl ⟨rfl, ?_⟩
  exact (b1.setCell (by simp) _).setCell (by simp) _

/-- the heap while a block is written: the node's box, the result, the block, and its body -/
structure PutR (w0 : World) (ns : List Value) (W : World) (base kind : Nat) (A : Option Addr) (L : List UInt8) (c : Nat) : Prop where
  own : Own W base 5 1 A L.length c (bvs L)
  node : Blk W w0.heap.size 25 ns
  res : Blk W (w0.heap.size + 1) 34 [.int .i64 0, .slice none 0 0]
  blk : Blk W (base + 1) 34 [.int .i64 kind, .slice A L.length c]
  below : Below w0.heap.size w0 W
  low : w0.heap.size + 2 ≤ base
  high : base + 2 ≤ W.heap.size
section
variable {w0 W w5 : World} {ns : List Value} {base kind : Nat} {A A5 : Option Addr} {L L' : List UInt8} {c c5 m : Nat} {news : List Value}
theorem PutR.drew (h : PutR w0 ns W base kind A L c) : PutR w0 ns W.drew base kind A L c := ⟨h.own.drew, h.node.drew, h.res.drew, h.blk.drew, h.below.drew, h.low, h.high⟩
theorem PutR.alloc (h : PutR w0 ns W base kind A L c) (o : Obj) : PutR w0 ns (W.drew.alloc o) base kind A L c :=
  ⟨h.own.drew.alloc _, h.node.drew.alloc _, h.res.drew.alloc _, h.blk.drew.alloc _, h.below.drew.alloc h.below.size _, h.low, by have := h.high; simp; omega⟩
theorem PutR.allocg {o : Obj} {r : Option Nat} (h : PutR w0 ns W base kind A L c) (_ : (W.drew.alloc o).grownBy w5 r) : PutR w0 ns (W.drew.alloc o) base kind A L c := h.alloc o
theorem PutR.mid (h : PutR w0 ns W base kind A L c) (hg : W.grownBy w5 (ablk A)) : Below w0.heap.size w0 w5 ∧ Blk w5 w0.heap.size 25 ns ∧ Blk w5 (base + 1) 34 [.int .i64 kind, .slice A L.length c] :=
  ⟨below_own h.below h.own hg (by have := h.low; omega) h.below.size, h.node.grown hg (own_ne h.own (by have := h.low; omega)), h.blk.grown hg (own_ne_ty h.own h.blk (by decide))⟩
theorem PutR.app (h : PutR w0 ns W base kind A L c) (ho : Own w5 base 5 1 A5 (L.length + m) c5 (bvs L ++ news)) (hg : W.grownBy w5 (ablk A)) (hn : bvs L ++ news = bvs L') :
    PutR w0 ns (w5.setCell ⟨base + 1, 1, none⟩ (.slice A5 (L.length + m) c5)) base kind A5 L' c5 := by
  have hb := h.low
  have hl : L.length + m = L'.length := by
    have h1 := ho.len1
    rw [hn] at h1
    rw [← h1]; simp
  rw [hn, hl] at ho
  rw [hl]
  obtain ⟨h1, h2, h3⟩ := h.mid hg
  have hr := h.res.grown hg (own_ne h.own (by omega))
  refine ⟨ho.far_ (own_ne_ty ho h3 (by decide)) _, h2.far (by simp; omega) _, hr.far (by simp; omega) _, h3.set_ 1 _, h1.setCell (by simp; omega) _, hb, ?_⟩
  have h4 := hg.size
  have h5 := h.high
  simp
  omega
theorem PutR.one (h : PutR w0 ns W base kind A L c) : PutR w0 ns (W.setCell ⟨base + 1, 0, none⟩ (.int .i64 1)) base 1 A L c := by
  have hb := h.low
  exact ⟨h.own.far_ (own_ne_ty h.own h.blk (by decide)) _, h.node.far (by simp; omega) _, h.res.far (by simp; omega) _, h.blk.set_ 0 _, h.below.setCell (by simp; omega) _, hb, by have := h.high; simp; omega⟩
theorem PutR.init {nk : Nat} (hB : Blk W w0.heap.size 25 ns) (hR : Blk W (w0.heap.size + 1) 34 [.int .i64 0, .slice none 0 0]) (hU : Below w0.heap.size w0 W) (hz : w0.heap.size + 2 ≤ W.heap.size) (hk : nk ≤ 240) :
    PutR w0 ns ((W.alloc (.cells #[.int .u8 (nk : Int)] 5)).alloc (.cells #[.int .i64 2, .slice (some ⟨W.heap.size, 0, none⟩) 1 1] 34)) W.heap.size 2 (some ⟨W.heap.size, 0, none⟩) [UInt8.ofNat nk] 1 := by
  have e : Value.int .u8 (nk : Int) = bv (UInt8.ofNat nk) := bv_nat (nk : Int) nk (by omega)
  have ho : Own (W.alloc (.cells #[.int .u8 (nk : Int)] 5)) W.heap.size 5 1 (some ⟨W.heap.size, 0, none⟩) 1 1 (bvs [UInt8.ofNat nk]) := by
    rw [e]
    exact Own.lit (s := 1) W 5 (bvs [UInt8.ofNat nk]) (n := 1) (by omega) rfl (Nat.le_refl _) rfl
  exact ⟨ho.alloc _, (hB.alloc _).alloc _, (hR.alloc _).alloc _, Blk.new_at (cs := [.int .i64 2, .slice (some ⟨W.heap.size, 0, none⟩) 1 1]) (n := W.heap.size + 1) (by simp), (hU.alloc hU.size _).alloc (by simp; omega) _, hz, by simp⟩
end

set_option maxRecDepth 100000 in
set_option maxHeartbeats 4000000 in
theorem rnput_leaf (s : Nd) (hlf : s.leaf = true) {w : World} {lo : Nat} {K V D : Option Addr} {nk ck nv cv nd cd : Nat} (h : NdR w lo s K nk ck V nv cv D nd cd) (hm : mayN s) :
    Calls Try.prog 14 #[.agg #[.bool true, .slice K nk ck, .slice V nv cv, .slice D nd cd]] w fun e w' =>
      ∃ A' c', e = .returned (.tuple #[.agg #[.int .i64 1, .slice A' (bodyN s).length c'], .int .i64 0]) ∧ Own w' w.heap.size 5 1 A' (bodyN s).length c' (bvs (bodyN s)) ∧ Below w.heap.size w w' := by
  have hz := zero34
  have hb : Below w.heap.size w ((w.alloc (.cells #[.bool true, .slice K nk ck, .slice V nv cv, .slice D nd cd] 25)).alloc (.cells #[.int .i64 0, .slice none 0 0] 34)) := ((Below.refl _ _).alloc (Nat.le_refl _) _).alloc (by simp) _
  have M1 := Lib.hid (rnmay_b hlf (decide_eq_true hm) (h.below hb (Nat.le_refl _)))
  have HR := Lib.hid h
  have HM := Lib.hid hm
  have hk := Lib.hid h.nk_eq
  have hkr : s.keys.length ≤ 8796093022208 := by rw [h.nk_eq]; exact h.kroom
  have hk240 : nk ≤ 240 := by have := may_keys hm hkr; rw [h.nk_eq] at this; exact this
  have HB240 := Lib.hid (length_bodyTo_le hm hkr)
  have HLf := Lib.hid hlf
  have hv := Lib.hid (show nv = nk by rw [← h.nv_eq, (may_lens hm).1 hlf, h.nk_eq])
  clear h hm hkr hlf
  go_enter Try.func14, Try.ntmps14
  go_upto_region 4 with ((with_reducible refine Calls.mono M1.out ?_); rintro e w1 ⟨rfl, hb1⟩)
  refine wp_world (fun U => Blk U w.heap.size 25 [.bool true, .slice K nk ck, .slice V nv cv, .slice D nd cd] ∧ Blk U (w.heap.size + 1) 34 [.int .i64 0, .slice none 0 0] ∧ Below w.heap.size w U ∧ w.heap.size + 2 ≤ U.heap.size)
    ⟨((Blk.new w _ [.bool true, .slice K nk ck, .slice V nv cv, .slice D nd cd]).alloc _).below hb1 (by simp <;> omega), (Blk.new_at (w := w.alloc (.cells #[.bool true, .slice K nk ck, .slice V nv cv, .slice D nd cd] 25)) (t := 34) (cs := [.int .i64 0, .slice none 0 0]) (n := w.heap.size + 1) (by simp)).below hb1 (by simp), hb.trans (hb1.mono (by simp <;> omega)), by have := hb1.size; simp at this; omega⟩ ?_
  clear M1 hb hb1
  rintro U ⟨hB, hR, hU, hzU⟩
  have hBc := hB.cells
  go_upto_region 5 with fail
  have hI := PutR.init hB hR hU hzU hk240
  rw [show [UInt8.ofNat nk] = bodyTo s 0 by rw [bodyTo, hk.out]] at hI
  refine wp_world (fun W => PutR w [.bool true, .slice K nk ck, .slice V nv cv, .slice D nd cd] W U.heap.size 2 (some ⟨U.heap.size, 0, none⟩) (bodyTo s 0) 1) hI ?_
  clear hB hR hU hzU hBc hI hz
  generalize U.heap.size = base at *
  rintro W hP
  have hBc := hP.node.cells
  have hGc := hP.blk.cells
  have hGf := hP.blk.frees
  go_upto_region 7 with fail
  refine wp_world (fun W => PutR w [.bool true, .slice K nk ck, .slice V nv cv, .slice D nd cd] W base 1 (some ⟨base, 0, none⟩) (bodyTo s 0) 1) hP.one ?_
  clear hP hBc hGc hGf
  rintro W hP
  go_wp2
  go_loopw [6] (fun s6 wr => ∃ (i : Nat) (A4 : Option Addr) (c4 : Nat), i ≤ nk ∧ s6 = .int .i64 i ∧ PutR w [.bool true, .slice K nk ck, .slice V nv cv, .slice D nd cd] wr base 1 A4 (bodyTo s i) c4)
    (fun s6 _ => nk - (intOf s6).toNat)
  case atStart => exact ⟨0, _, _, Nat.zero_le _, rfl, hP⟩
  case round =>
    clear hP
    obtain ⟨i, A4, c4, hi, rfl, hP⟩ := hrel
    have hBc := hP.node.cells
    by_cases hlt : i < nk
    · obtain ⟨b, o, rfl, _, hbl⟩ := HR.out.keys.at_ (by omega)
      have hm240 := HB240.out i (by rw [hk.out]; exact hi)
      have hk24 : (kAt s i).size ≤ 24 := (HM.out.2.1 i (by rw [hk.out]; exact hlt)).1
      have HX : Hid (bodyTo s (i + 1) = bodyTo s i ++ pieceN s i) := rfl
      have HPl : Hid (pieceN s i = UInt8.ofNat (kAt s i).size :: ((kAt s i).toList ++ UInt8.ofNat (vAt s i).size :: (vAt s i).toList)) := by show _ = _; unfold pieceN; rw [if_pos HLf.out]
      obtain ⟨L, hL⟩ : ∃ L, bodyTo s i = L := ⟨_, rfl⟩
      rw [hL] at hP hm240 HX
      clear hL
      have HC := Lib.hid (show ∀ W', Below w.heap.size w W' → W'.cell? ⟨b, o + i, none⟩ = some (.string (kAt s i)) from fun W' hW' => sl_cell (HR.out.keys.below hW' (Nat.le_refl _)) i hlt)
      obtain ⟨b2, o2, rfl, _, hbl2⟩ := HR.out.vals.at_ (by have := hv.out; omega)
      have hivn : i < nv := by have := hv.out; omega
      have hv24 : (vAt s i).size ≤ 24 := (HM.out.2.2.1 HLf.out).2.2.2 i (by rw [(HM.out.2.2.1 HLf.out).2.1, hk.out]; exact hlt)
      have HC2 := Lib.hid (show ∀ W', Below w.heap.size w W' → W'.cell? ⟨b2, o2 + i, none⟩ = some (.string (vAt s i)) from fun W' hW' => sl_cell (HR.out.vals.below hW' (Nat.le_refl _)) i (by omega))
      generalize vAt s i = vv at *
      generalize kAt s i = kk at *
      clear hBc
      have hBc := hP.node.cells
      go_upto_region 10 with fail
      refine wp_region_last (S := fun w' => w'.cell? ⟨base + 1, 1, none⟩ = some (.slice A4 L.length c4) ∧ w'.cell? ⟨w.heap.size, 1, none⟩ = some (.slice (some ⟨b, o, none⟩) nk ck) ∧ w'.cell? ⟨b, o + i, none⟩ = some (.string kk)) 12 (by kernel_rfl) rfl (by kernel_rfl) ?_ ?_
      · exact ⟨hP.blk.cell 1, hP.node.cell 1, HC.out _ hP.below.drew⟩
      intro hHeld
      simp only [List.take_succ_cons, List.take_zero]
      refine wpAnyH_take (i := 0) (v := ?_) (by simp only [List.getElem?_toArray, List.getElem?_cons_succ, List.getElem?_cons_zero]; rfl) (by kernel_rfl) (by kernel_rfl) (by kernel_rfl) (fun _ _ _ h => h) (Or.inl ⟨by rfl, ?_⟩) hHeld ?_
      rotate_left
      · intro wz hSw; (try dsimp only at hSw); go_simp; try with_reducible rfl
      (try simp only [Act.put, List.setIfInBounds_toArray, List.set_cons_zero, List.set_cons_succ])
      refine wpAnyH_take (i := 1) (v := ?_) (by simp only [List.getElem?_toArray, List.getElem?_cons_succ, List.getElem?_cons_zero]; rfl) (by kernel_rfl) (by kernel_rfl) (by kernel_rfl) (fun _ _ _ h => h) (Or.inl ⟨by rfl, ?_⟩) hHeld ?_
      rotate_left
      · intro wz hSw; (try dsimp only at hSw); go_simp; try with_reducible rfl
      (try simp only [Act.put, List.setIfInBounds_toArray, List.set_cons_zero, List.set_cons_succ])
      refine wpAnyH_take (i := 2) (v := ?_) (by simp only [List.getElem?_toArray, List.getElem?_cons_succ, List.getElem?_cons_zero]; rfl) (by kernel_rfl) (by kernel_rfl) (by kernel_rfl) (fun _ _ _ h => h) (Or.inl ⟨by rfl, ?_⟩) hHeld ?_
      rotate_left
      · intro wz hSw; (try dsimp only at hSw); go_simp; try with_reducible rfl
      (try simp only [Act.put, List.setIfInBounds_toArray, List.set_cons_zero, List.set_cons_succ])
      refine wpAnyH_take (i := 3) (v := ?_) (by simp only [List.getElem?_toArray, List.getElem?_cons_succ, List.getElem?_cons_zero]; rfl) (by kernel_rfl) (by kernel_rfl) (by kernel_rfl) (fun _ _ _ h => h) (Or.inl ⟨by rfl, ?_⟩) hHeld ?_
      rotate_left
      · intro wz hSw; (try dsimp only at hSw); go_simp; try with_reducible rfl
      (try simp only [Act.put, List.setIfInBounds_toArray, List.set_cons_zero, List.set_cons_succ])
      refine wpAnyH_take (i := 4) (v := ?_) (by simp only [List.getElem?_toArray, List.getElem?_cons_succ, List.getElem?_cons_zero]; rfl) (by kernel_rfl) (by kernel_rfl) (by kernel_rfl) (fun _ _ _ h => h) (Or.inl ⟨by rfl, ?_⟩) hHeld ?_
      rotate_left
      · intro wz hSw; (try dsimp only at hSw); go_simp; try with_reducible rfl
      (try simp only [Act.put, List.setIfInBounds_toArray, List.set_cons_zero, List.set_cons_succ])
      refine wpAnyH_take (i := 5) (v := ?_) (by simp only [List.getElem?_toArray, List.getElem?_cons_succ, List.getElem?_cons_zero]; rfl) (by kernel_rfl) (by kernel_rfl) (by kernel_rfl) (fun _ _ _ h => h) (Or.inl ⟨by rfl, ?_⟩) hHeld ?_
      rotate_left
      · intro wz hSw; (try dsimp only at hSw); go_simp; try with_reducible rfl
      (try simp only [Act.put, List.setIfInBounds_toArray, List.set_cons_zero, List.set_cons_succ])
      refine wpAnyH_take (i := 6) (v := ?_) (by simp only [List.getElem?_toArray, List.getElem?_cons_succ, List.getElem?_cons_zero]; rfl) (by kernel_rfl) (by kernel_rfl) (by kernel_rfl) (fun _ _ _ h => h) (Or.inl ⟨by rfl, ?_⟩) hHeld ?_
      rotate_left
      · intro wz hSw; (try dsimp only at hSw); go_simp; try with_reducible rfl
      (try simp only [Act.put, List.setIfInBounds_toArray, List.set_cons_zero, List.set_cons_succ])
      refine wpAnyH_take (i := 7) (v := ?_) (by simp only [List.getElem?_toArray, List.getElem?_cons_succ, List.getElem?_cons_zero]; rfl) (by kernel_rfl) (by kernel_rfl) (by kernel_rfl) (fun _ _ _ h => h) (Or.inl ⟨by rfl, ?_⟩) hHeld ?_
      rotate_left
      · intro wz hSw; (try dsimp only at hSw); go_simp; try with_reducible rfl
      (try simp only [Act.put, List.setIfInBounds_toArray, List.set_cons_zero, List.set_cons_succ])
      refine wpAnyH_take (i := 8) (v := ?_) (by simp only [List.getElem?_toArray, List.getElem?_cons_succ, List.getElem?_cons_zero]; rfl) (by kernel_rfl) (by kernel_rfl) (by kernel_rfl) (fun _ _ _ h => h) (Or.inl ⟨by rfl, ?_⟩) hHeld ?_
      rotate_left
      · intro wz hSw; (try dsimp only at hSw); go_simp; try with_reducible rfl
      (try simp only [Act.put, List.setIfInBounds_toArray, List.set_cons_zero, List.set_cons_succ])
      refine wpAnyH_ready (rs := [9]) (by kernel_rfl) (by simp) ?_
      refine AllReadyH.cons (by simp only [List.getElem?_toArray, List.getElem?_cons_succ, List.getElem?_cons_zero]; rfl) (fun K hK => ?_) AllReadyH.nil
      go_simp
      refine hK.out _ _ ?_ (fun hHeld => ?_)
      · exact ⟨(hP.alloc _).blk.cell 1, (hP.alloc _).node.cell 1, HC.out _ (hP.alloc _).below⟩
      clear hK K
      (try simp only [Act.put, List.setIfInBounds_toArray, List.set_cons_zero, List.set_cons_succ])
      refine wpAnyH_ready (rs := [10]) (by kernel_rfl) (by simp) ?_
      refine AllReadyH.cons (by simp only [List.getElem?_toArray, List.getElem?_cons_succ, List.getElem?_cons_zero]; rfl) (fun K hK => ?_) AllReadyH.nil
      (refine step_app rfl (.tmp 29) (.tmp 37) 32 rfl 5 1 Try.underlying32 info5 rfl (by omega) rfl (hP.own.drew.alloc _) rfl (rd_one _ _ rfl) rfl (one_int _ _) (by omega) (by omega) (by have := hP.high; simp; omega) ?_; intro A5 c5 w5 how5 hgw5 _; have hPw5 := hP.allocg hgw5)
      refine hK.out _ _ ?_ (fun hHeld => ?_)
      · exact ⟨(hPw5.mid hgw5).2.2.cell 1, (hPw5.mid hgw5).2.1.cell 1, HC.out _ (hPw5.mid hgw5).1⟩
      clear hK K
      (try simp only [Act.put, List.setIfInBounds_toArray, List.set_cons_zero, List.set_cons_succ])
      refine wpAnyH_take (i := 11) (v := ?_) (by simp only [List.getElem?_toArray, List.getElem?_cons_succ, List.getElem?_cons_zero]; rfl) (by kernel_rfl) (by kernel_rfl) (by kernel_rfl) (fun _ _ _ h => h) (Or.inl ⟨by rfl, ?_⟩) hHeld ?_
      rotate_left
      · intro wz hSw; (try dsimp only at hSw); go_simp; try with_reducible rfl
      (try simp only [Act.put, List.setIfInBounds_toArray, List.set_cons_zero, List.set_cons_succ])
      have eF := (hPw5.mid hgw5).2.2.frees
      have eC := (hPw5.mid hgw5).2.2.cells
      refine wpAnyH_done (by kernel_rfl) ?_ _
      simp only [lastQ]
      go_simp
      clear eF eC
      rw [bv_nat (IntKind.u8.wrap (kk.size : Int)) kk.size (by rw [IntKind.wrap_u8]; omega)] at how5
      go_upto_region 11 with fail
      refine wp_world (fun W => PutR w [.bool true, .slice (some ⟨b, o, none⟩) nk ck, .slice (some ⟨b2, o2, none⟩) nv cv, .slice D nd cd] W base 1 A5 (L ++ [UInt8.ofNat kk.size]) c5) (hPw5.app how5 hgw5 (by simp [bvs])) ?_
      have hl : L.length + 1 = (L ++ [UInt8.ofNat kk.size]).length := by simp [length_toList]
      clear hP hPw5 how5 hgw5 hHeld
      rintro Ww5 hP
      try rw [hl]
      clear hl
      obtain ⟨L5, hL5⟩ : ∃ l, L ++ [UInt8.ofNat kk.size] = l := ⟨_, rfl⟩
      have hzL5 : L5.length ≤ 241 := by rw [← hL5]; simp [length_toList]; omega
      try rw [hL5]
      rw [hL5] at hP
      have HL5 := Lib.hid hL5
      clear hL5
      clear hBc
      have hBc := hP.node.cells
      refine wp_region_last (S := fun w' => w'.cell? ⟨base + 1, 1, none⟩ = some (.slice A5 L5.length c5) ∧ w'.cell? ⟨w.heap.size, 1, none⟩ = some (.slice (some ⟨b, o, none⟩) nk ck) ∧ w'.cell? ⟨b, o + i, none⟩ = some (.string kk)) 9 (by kernel_rfl) rfl (by kernel_rfl) ?_ ?_
      · exact ⟨hP.blk.cell 1, hP.node.cell 1, HC.out _ hP.below.drew⟩
      intro hHeld
      simp only [List.take_succ_cons, List.take_zero]
      refine wpAnyH_take (i := 0) (v := ?_) (by simp only [List.getElem?_toArray, List.getElem?_cons_succ, List.getElem?_cons_zero]; rfl) (by kernel_rfl) (by kernel_rfl) (by kernel_rfl) (fun _ _ _ h => h) (Or.inl ⟨by rfl, ?_⟩) hHeld ?_
      rotate_left
      · intro wz hSw; (try dsimp only at hSw); go_simp; try with_reducible rfl
      (try simp only [Act.put, List.setIfInBounds_toArray, List.set_cons_zero, List.set_cons_succ])
      refine wpAnyH_take (i := 1) (v := ?_) (by simp only [List.getElem?_toArray, List.getElem?_cons_succ, List.getElem?_cons_zero]; rfl) (by kernel_rfl) (by kernel_rfl) (by kernel_rfl) (fun _ _ _ h => h) (Or.inl ⟨by rfl, ?_⟩) hHeld ?_
      rotate_left
      · intro wz hSw; (try dsimp only at hSw); go_simp; try with_reducible rfl
      (try simp only [Act.put, List.setIfInBounds_toArray, List.set_cons_zero, List.set_cons_succ])
      refine wpAnyH_take (i := 2) (v := ?_) (by simp only [List.getElem?_toArray, List.getElem?_cons_succ, List.getElem?_cons_zero]; rfl) (by kernel_rfl) (by kernel_rfl) (by kernel_rfl) (fun _ _ _ h => h) (Or.inl ⟨by rfl, ?_⟩) hHeld ?_
      rotate_left
      · intro wz hSw; (try dsimp only at hSw); go_simp; try with_reducible rfl
      (try simp only [Act.put, List.setIfInBounds_toArray, List.set_cons_zero, List.set_cons_succ])
      refine wpAnyH_take (i := 3) (v := ?_) (by simp only [List.getElem?_toArray, List.getElem?_cons_succ, List.getElem?_cons_zero]; rfl) (by kernel_rfl) (by kernel_rfl) (by kernel_rfl) (fun _ _ _ h => h) (Or.inl ⟨by rfl, ?_⟩) hHeld ?_
      rotate_left
      · intro wz hSw; (try dsimp only at hSw); go_simp; try with_reducible rfl
      (try simp only [Act.put, List.setIfInBounds_toArray, List.set_cons_zero, List.set_cons_succ])
      refine wpAnyH_take (i := 4) (v := ?_) (by simp only [List.getElem?_toArray, List.getElem?_cons_succ, List.getElem?_cons_zero]; rfl) (by kernel_rfl) (by kernel_rfl) (by kernel_rfl) (fun _ _ _ h => h) (Or.inl ⟨by rfl, ?_⟩) hHeld ?_
      rotate_left
      · intro wz hSw; (try dsimp only at hSw); go_simp; try with_reducible rfl
      (try simp only [Act.put, List.setIfInBounds_toArray, List.set_cons_zero, List.set_cons_succ])
      refine wpAnyH_take (i := 5) (v := ?_) (by simp only [List.getElem?_toArray, List.getElem?_cons_succ, List.getElem?_cons_zero]; rfl) (by kernel_rfl) (by kernel_rfl) (by kernel_rfl) (fun _ _ _ h => h) (Or.inl ⟨by rfl, ?_⟩) hHeld ?_
      rotate_left
      · intro wz hSw; (try dsimp only at hSw); go_simp; try with_reducible rfl
      (try simp only [Act.put, List.setIfInBounds_toArray, List.set_cons_zero, List.set_cons_succ])
      refine wpAnyH_take (i := 6) (v := ?_) (by simp only [List.getElem?_toArray, List.getElem?_cons_succ, List.getElem?_cons_zero]; rfl) (by kernel_rfl) (by kernel_rfl) (by kernel_rfl) (fun _ _ _ h => h) (Or.inl ⟨by rfl, ?_⟩) hHeld ?_
      rotate_left
      · intro wz hSw; (try dsimp only at hSw); go_simp; try with_reducible rfl
      (try simp only [Act.put, List.setIfInBounds_toArray, List.set_cons_zero, List.set_cons_succ])
      refine wpAnyH_ready (rs := [7]) (by kernel_rfl) (by simp) ?_
      refine AllReadyH.cons (by simp only [List.getElem?_toArray, List.getElem?_cons_succ, List.getElem?_cons_zero]; rfl) (fun K hK => ?_) AllReadyH.nil
      (refine step_app_str rfl (.tmp 41) (.tmp 46) 32 9 rfl Try.underlying32 Try.underlying9 info5 rfl hP.own.drew rfl (by omega) (by have := hP.high; simp; omega) ?_; intro A6 c6 w6 how6 hgw6; have hPw6 := hP.drew)
      refine hK.out _ _ ?_ (fun hHeld => ?_)
      · exact ⟨(hPw6.mid hgw6).2.2.cell 1, (hPw6.mid hgw6).2.1.cell 1, HC.out _ (hPw6.mid hgw6).1⟩
      clear hK K
      (try simp only [Act.put, List.setIfInBounds_toArray, List.set_cons_zero, List.set_cons_succ])
      refine wpAnyH_take (i := 8) (v := ?_) (by simp only [List.getElem?_toArray, List.getElem?_cons_succ, List.getElem?_cons_zero]; rfl) (by kernel_rfl) (by kernel_rfl) (by kernel_rfl) (fun _ _ _ h => h) (Or.inl ⟨by rfl, ?_⟩) hHeld ?_
      rotate_left
      · intro wz hSw; (try dsimp only at hSw); go_simp; try with_reducible rfl
      (try simp only [Act.put, List.setIfInBounds_toArray, List.set_cons_zero, List.set_cons_succ])
      have eF := (hPw6.mid hgw6).2.2.frees
      have eC := (hPw6.mid hgw6).2.2.cells
      refine wpAnyH_done (by kernel_rfl) ?_ _
      simp only [lastQ]
      go_simp
      clear eF eC
      go_upto_region 12 with fail
      refine wp_world (fun W => PutR w [.bool true, .slice (some ⟨b, o, none⟩) nk ck, .slice (some ⟨b2, o2, none⟩) nv cv, .slice D nd cd] W base 1 A6 (L5 ++ kk.toList) c6) (hPw6.app how6 hgw6 (by simp [bvs])) ?_
      have hl : L5.length + kk.size = (L5 ++ kk.toList).length := by simp [length_toList]
      clear hP hPw6 how6 hgw6 hHeld
      rintro Ww6 hP
      try rw [hl]
      clear hl
      obtain ⟨L6, hL6⟩ : ∃ l, L5 ++ kk.toList = l := ⟨_, rfl⟩
      have hzL6 : L6.length ≤ 265 := by rw [← hL6]; simp [length_toList]; omega
      try rw [hL6]
      rw [hL6] at hP
      have HL6 := Lib.hid hL6
      clear hL6
      clear hBc
      have hBc := hP.node.cells
      go_upto_region 13 with fail
      refine wp_region_last (S := fun w' => w'.cell? ⟨base + 1, 1, none⟩ = some (.slice A6 L6.length c6) ∧ w'.cell? ⟨w.heap.size, 2, none⟩ = some (.slice (some ⟨b2, o2, none⟩) nv cv) ∧ w'.cell? ⟨b2, o2 + i, none⟩ = some (.string vv)) 12 (by kernel_rfl) rfl (by kernel_rfl) ?_ ?_
      · exact ⟨hP.blk.cell 1, hP.node.cell 2, HC2.out _ hP.below.drew⟩
      intro hHeld
      simp only [List.take_succ_cons, List.take_zero]
      refine wpAnyH_take (i := 0) (v := ?_) (by simp only [List.getElem?_toArray, List.getElem?_cons_succ, List.getElem?_cons_zero]; rfl) (by kernel_rfl) (by kernel_rfl) (by kernel_rfl) (fun _ _ _ h => h) (Or.inl ⟨by rfl, ?_⟩) hHeld ?_
      rotate_left
      · intro wz hSw; (try dsimp only at hSw); go_simp; try with_reducible rfl
      (try simp only [Act.put, List.setIfInBounds_toArray, List.set_cons_zero, List.set_cons_succ])
      refine wpAnyH_take (i := 1) (v := ?_) (by simp only [List.getElem?_toArray, List.getElem?_cons_succ, List.getElem?_cons_zero]; rfl) (by kernel_rfl) (by kernel_rfl) (by kernel_rfl) (fun _ _ _ h => h) (Or.inl ⟨by rfl, ?_⟩) hHeld ?_
      rotate_left
      · intro wz hSw; (try dsimp only at hSw); go_simp; try with_reducible rfl
      (try simp only [Act.put, List.setIfInBounds_toArray, List.set_cons_zero, List.set_cons_succ])
      refine wpAnyH_take (i := 2) (v := ?_) (by simp only [List.getElem?_toArray, List.getElem?_cons_succ, List.getElem?_cons_zero]; rfl) (by kernel_rfl) (by kernel_rfl) (by kernel_rfl) (fun _ _ _ h => h) (Or.inl ⟨by rfl, ?_⟩) hHeld ?_
      rotate_left
      · intro wz hSw; (try dsimp only at hSw); go_simp; try with_reducible rfl
      (try simp only [Act.put, List.setIfInBounds_toArray, List.set_cons_zero, List.set_cons_succ])
      refine wpAnyH_take (i := 3) (v := ?_) (by simp only [List.getElem?_toArray, List.getElem?_cons_succ, List.getElem?_cons_zero]; rfl) (by kernel_rfl) (by kernel_rfl) (by kernel_rfl) (fun _ _ _ h => h) (Or.inl ⟨by rfl, ?_⟩) hHeld ?_
      rotate_left
      · intro wz hSw; (try dsimp only at hSw); go_simp; try with_reducible rfl
      (try simp only [Act.put, List.setIfInBounds_toArray, List.set_cons_zero, List.set_cons_succ])
      refine wpAnyH_take (i := 4) (v := ?_) (by simp only [List.getElem?_toArray, List.getElem?_cons_succ, List.getElem?_cons_zero]; rfl) (by kernel_rfl) (by kernel_rfl) (by kernel_rfl) (fun _ _ _ h => h) (Or.inl ⟨by rfl, ?_⟩) hHeld ?_
      rotate_left
      · intro wz hSw; (try dsimp only at hSw); go_simp; try with_reducible rfl
      (try simp only [Act.put, List.setIfInBounds_toArray, List.set_cons_zero, List.set_cons_succ])
      refine wpAnyH_take (i := 5) (v := ?_) (by simp only [List.getElem?_toArray, List.getElem?_cons_succ, List.getElem?_cons_zero]; rfl) (by kernel_rfl) (by kernel_rfl) (by kernel_rfl) (fun _ _ _ h => h) (Or.inl ⟨by rfl, ?_⟩) hHeld ?_
      rotate_left
      · intro wz hSw; (try dsimp only at hSw); go_simp; try with_reducible rfl
      (try simp only [Act.put, List.setIfInBounds_toArray, List.set_cons_zero, List.set_cons_succ])
      refine wpAnyH_take (i := 6) (v := ?_) (by simp only [List.getElem?_toArray, List.getElem?_cons_succ, List.getElem?_cons_zero]; rfl) (by kernel_rfl) (by kernel_rfl) (by kernel_rfl) (fun _ _ _ h => h) (Or.inl ⟨by rfl, ?_⟩) hHeld ?_
      rotate_left
      · intro wz hSw; (try dsimp only at hSw); go_simp; try with_reducible rfl
      (try simp only [Act.put, List.setIfInBounds_toArray, List.set_cons_zero, List.set_cons_succ])
      refine wpAnyH_take (i := 7) (v := ?_) (by simp only [List.getElem?_toArray, List.getElem?_cons_succ, List.getElem?_cons_zero]; rfl) (by kernel_rfl) (by kernel_rfl) (by kernel_rfl) (fun _ _ _ h => h) (Or.inl ⟨by rfl, ?_⟩) hHeld ?_
      rotate_left
      · intro wz hSw; (try dsimp only at hSw); go_simp; try with_reducible rfl
      (try simp only [Act.put, List.setIfInBounds_toArray, List.set_cons_zero, List.set_cons_succ])
      refine wpAnyH_take (i := 8) (v := ?_) (by simp only [List.getElem?_toArray, List.getElem?_cons_succ, List.getElem?_cons_zero]; rfl) (by kernel_rfl) (by kernel_rfl) (by kernel_rfl) (fun _ _ _ h => h) (Or.inl ⟨by rfl, ?_⟩) hHeld ?_
      rotate_left
      · intro wz hSw; (try dsimp only at hSw); go_simp; try with_reducible rfl
      (try simp only [Act.put, List.setIfInBounds_toArray, List.set_cons_zero, List.set_cons_succ])
      refine wpAnyH_ready (rs := [9]) (by kernel_rfl) (by simp) ?_
      refine AllReadyH.cons (by simp only [List.getElem?_toArray, List.getElem?_cons_succ, List.getElem?_cons_zero]; rfl) (fun K hK => ?_) AllReadyH.nil
      go_simp
      refine hK.out _ _ ?_ (fun hHeld => ?_)
      · exact ⟨(hP.alloc _).blk.cell 1, (hP.alloc _).node.cell 2, HC2.out _ (hP.alloc _).below⟩
      clear hK K
      (try simp only [Act.put, List.setIfInBounds_toArray, List.set_cons_zero, List.set_cons_succ])
      refine wpAnyH_ready (rs := [10]) (by kernel_rfl) (by simp) ?_
      refine AllReadyH.cons (by simp only [List.getElem?_toArray, List.getElem?_cons_succ, List.getElem?_cons_zero]; rfl) (fun K hK => ?_) AllReadyH.nil
      (refine step_app rfl (.tmp 52) (.tmp 60) 32 rfl 5 1 Try.underlying32 info5 rfl (by omega) rfl (hP.own.drew.alloc _) rfl (rd_one _ _ rfl) rfl (one_int _ _) (by omega) (by omega) (by have := hP.high; simp; omega) ?_; intro A7 c7 w7 how7 hgw7 _; have hPw7 := hP.allocg hgw7)
      refine hK.out _ _ ?_ (fun hHeld => ?_)
      · exact ⟨(hPw7.mid hgw7).2.2.cell 1, (hPw7.mid hgw7).2.1.cell 2, HC2.out _ (hPw7.mid hgw7).1⟩
      clear hK K
      (try simp only [Act.put, List.setIfInBounds_toArray, List.set_cons_zero, List.set_cons_succ])
      refine wpAnyH_take (i := 11) (v := ?_) (by simp only [List.getElem?_toArray, List.getElem?_cons_succ, List.getElem?_cons_zero]; rfl) (by kernel_rfl) (by kernel_rfl) (by kernel_rfl) (fun _ _ _ h => h) (Or.inl ⟨by rfl, ?_⟩) hHeld ?_
      rotate_left
      · intro wz hSw; (try dsimp only at hSw); go_simp; try with_reducible rfl
      (try simp only [Act.put, List.setIfInBounds_toArray, List.set_cons_zero, List.set_cons_succ])
      have eF := (hPw7.mid hgw7).2.2.frees
      have eC := (hPw7.mid hgw7).2.2.cells
      refine wpAnyH_done (by kernel_rfl) ?_ _
      simp only [lastQ]
      go_simp
      clear eF eC
      rw [bv_nat (IntKind.u8.wrap (vv.size : Int)) vv.size (by rw [IntKind.wrap_u8]; omega)] at how7
      go_upto_region 14 with fail
      refine wp_world (fun W => PutR w [.bool true, .slice (some ⟨b, o, none⟩) nk ck, .slice (some ⟨b2, o2, none⟩) nv cv, .slice D nd cd] W base 1 A7 (L6 ++ [UInt8.ofNat vv.size]) c7) (hPw7.app how7 hgw7 (by simp [bvs])) ?_
      have hl : L6.length + 1 = (L6 ++ [UInt8.ofNat vv.size]).length := by simp [length_toList]
      clear hP hPw7 how7 hgw7 hHeld
      rintro Ww7 hP
      try rw [hl]
      clear hl
      obtain ⟨L7, hL7⟩ : ∃ l, L6 ++ [UInt8.ofNat vv.size] = l := ⟨_, rfl⟩
      have hzL7 : L7.length ≤ 266 := by rw [← hL7]; simp [length_toList]; omega
      try rw [hL7]
      rw [hL7] at hP
      have HL7 := Lib.hid hL7
      clear hL7
      clear hBc
      have hBc := hP.node.cells
      refine wp_region_last (S := fun w' => w'.cell? ⟨base + 1, 1, none⟩ = some (.slice A7 L7.length c7) ∧ w'.cell? ⟨w.heap.size, 2, none⟩ = some (.slice (some ⟨b2, o2, none⟩) nv cv) ∧ w'.cell? ⟨b2, o2 + i, none⟩ = some (.string vv)) 9 (by kernel_rfl) rfl (by kernel_rfl) ?_ ?_
      · exact ⟨hP.blk.cell 1, hP.node.cell 2, HC2.out _ hP.below.drew⟩
      intro hHeld
      simp only [List.take_succ_cons, List.take_zero]
      refine wpAnyH_take (i := 0) (v := ?_) (by simp only [List.getElem?_toArray, List.getElem?_cons_succ, List.getElem?_cons_zero]; rfl) (by kernel_rfl) (by kernel_rfl) (by kernel_rfl) (fun _ _ _ h => h) (Or.inl ⟨by rfl, ?_⟩) hHeld ?_
      rotate_left
      · intro wz hSw; (try dsimp only at hSw); go_simp; try with_reducible rfl
      (try simp only [Act.put, List.setIfInBounds_toArray, List.set_cons_zero, List.set_cons_succ])
      refine wpAnyH_take (i := 1) (v := ?_) (by simp only [List.getElem?_toArray, List.getElem?_cons_succ, List.getElem?_cons_zero]; rfl) (by kernel_rfl) (by kernel_rfl) (by kernel_rfl) (fun _ _ _ h => h) (Or.inl ⟨by rfl, ?_⟩) hHeld ?_
      rotate_left
      · intro wz hSw; (try dsimp only at hSw); go_simp; try with_reducible rfl
      (try simp only [Act.put, List.setIfInBounds_toArray, List.set_cons_zero, List.set_cons_succ])
      refine wpAnyH_take (i := 2) (v := ?_) (by simp only [List.getElem?_toArray, List.getElem?_cons_succ, List.getElem?_cons_zero]; rfl) (by kernel_rfl) (by kernel_rfl) (by kernel_rfl) (fun _ _ _ h => h) (Or.inl ⟨by rfl, ?_⟩) hHeld ?_
      rotate_left
      · intro wz hSw; (try dsimp only at hSw); go_simp; try with_reducible rfl
      (try simp only [Act.put, List.setIfInBounds_toArray, List.set_cons_zero, List.set_cons_succ])
      refine wpAnyH_take (i := 3) (v := ?_) (by simp only [List.getElem?_toArray, List.getElem?_cons_succ, List.getElem?_cons_zero]; rfl) (by kernel_rfl) (by kernel_rfl) (by kernel_rfl) (fun _ _ _ h => h) (Or.inl ⟨by rfl, ?_⟩) hHeld ?_
      rotate_left
      · intro wz hSw; (try dsimp only at hSw); go_simp; try with_reducible rfl
      (try simp only [Act.put, List.setIfInBounds_toArray, List.set_cons_zero, List.set_cons_succ])
      refine wpAnyH_take (i := 4) (v := ?_) (by simp only [List.getElem?_toArray, List.getElem?_cons_succ, List.getElem?_cons_zero]; rfl) (by kernel_rfl) (by kernel_rfl) (by kernel_rfl) (fun _ _ _ h => h) (Or.inl ⟨by rfl, ?_⟩) hHeld ?_
      rotate_left
      · intro wz hSw; (try dsimp only at hSw); go_simp; try with_reducible rfl
      (try simp only [Act.put, List.setIfInBounds_toArray, List.set_cons_zero, List.set_cons_succ])
      refine wpAnyH_take (i := 5) (v := ?_) (by simp only [List.getElem?_toArray, List.getElem?_cons_succ, List.getElem?_cons_zero]; rfl) (by kernel_rfl) (by kernel_rfl) (by kernel_rfl) (fun _ _ _ h => h) (Or.inl ⟨by rfl, ?_⟩) hHeld ?_
      rotate_left
      · intro wz hSw; (try dsimp only at hSw); go_simp; try with_reducible rfl
      (try simp only [Act.put, List.setIfInBounds_toArray, List.set_cons_zero, List.set_cons_succ])
      refine wpAnyH_take (i := 6) (v := ?_) (by simp only [List.getElem?_toArray, List.getElem?_cons_succ, List.getElem?_cons_zero]; rfl) (by kernel_rfl) (by kernel_rfl) (by kernel_rfl) (fun _ _ _ h => h) (Or.inl ⟨by rfl, ?_⟩) hHeld ?_
      rotate_left
      · intro wz hSw; (try dsimp only at hSw); go_simp; try with_reducible rfl
      (try simp only [Act.put, List.setIfInBounds_toArray, List.set_cons_zero, List.set_cons_succ])
      refine wpAnyH_ready (rs := [7]) (by kernel_rfl) (by simp) ?_
      refine AllReadyH.cons (by simp only [List.getElem?_toArray, List.getElem?_cons_succ, List.getElem?_cons_zero]; rfl) (fun K hK => ?_) AllReadyH.nil
      (refine step_app_str rfl (.tmp 64) (.tmp 69) 32 9 rfl Try.underlying32 Try.underlying9 info5 rfl hP.own.drew rfl (by omega) (by have := hP.high; simp; omega) ?_; intro A8 c8 w8 how8 hgw8; have hPw8 := hP.drew)
      refine hK.out _ _ ?_ (fun hHeld => ?_)
      · exact ⟨(hPw8.mid hgw8).2.2.cell 1, (hPw8.mid hgw8).2.1.cell 2, HC2.out _ (hPw8.mid hgw8).1⟩
      clear hK K
      (try simp only [Act.put, List.setIfInBounds_toArray, List.set_cons_zero, List.set_cons_succ])
      refine wpAnyH_take (i := 8) (v := ?_) (by simp only [List.getElem?_toArray, List.getElem?_cons_succ, List.getElem?_cons_zero]; rfl) (by kernel_rfl) (by kernel_rfl) (by kernel_rfl) (fun _ _ _ h => h) (Or.inl ⟨by rfl, ?_⟩) hHeld ?_
      rotate_left
      · intro wz hSw; (try dsimp only at hSw); go_simp; try with_reducible rfl
      (try simp only [Act.put, List.setIfInBounds_toArray, List.set_cons_zero, List.set_cons_succ])
      have eF := (hPw8.mid hgw8).2.2.frees
      have eC := (hPw8.mid hgw8).2.2.cells
      refine wpAnyH_done (by kernel_rfl) ?_ _
      simp only [lastQ]
      go_simp
      clear eF eC
      go_upto_region 9 with fail
      refine wp_world (fun W => PutR w [.bool true, .slice (some ⟨b, o, none⟩) nk ck, .slice (some ⟨b2, o2, none⟩) nv cv, .slice D nd cd] W base 1 A8 (L7 ++ vv.toList) c8) (hPw8.app how8 hgw8 (by simp [bvs])) ?_
      have hl : L7.length + vv.size = (L7 ++ vv.toList).length := by simp [length_toList]
      clear hP hPw8 how8 hgw8 hHeld
      rintro Ww8 hP
      try rw [hl]
      clear hl
      obtain ⟨L8, hL8⟩ : ∃ l, L7 ++ vv.toList = l := ⟨_, rfl⟩
      have hzL8 : L8.length ≤ 290 := by rw [← hL8]; simp [length_toList]; omega
      try rw [hL8]
      rw [hL8] at hP
      have HL8 := Lib.hid hL8
      clear hL8
      have he : L8 = bodyTo s (i + 1) := by rw [HX.out, HPl.out, ← HL8.out, ← HL7.out, ← HL6.out, ← HL5.out]; simp
      rw [he] at hP
      clear hBc
      have hBc := hP.node.cells
      clear HC HC2
      go_wp2
      go_roundw
      case rel =>
        exact ⟨i + 1, A8, c8, by omega, by go_num, hP⟩
      case measure => simp [intOf]; omega
    · obtain rfl : i = nk := by omega
      have hBy : Hid (bodyTo s i = bodyN s) := by show _ = _; rw [← hk.out]; rfl
      rw [hBy.out] at hP
      have gc := hP.blk.cells
      have rc := hP.res.cells
      have rf := hP.res.frees
      have hlow := hP.low
      go_wp2
      refine bodyPost_ret (results_nb rfl rfl rfl ((hP.res.set_ 0 _).set_ 1 _)) rfl ?_
      exact ⟨A4, c4, rfl, ((hP.own.far (by simp <;> omega) _).far (by simp <;> omega) _).weak (by omega), (hP.below.setCell (by simp) _).setCell (by simp) _⟩

set_option maxRecDepth 100000 in
set_option maxHeartbeats 4000000 in
theorem rnput_inner (s : Nd) (hlf : s.leaf = false) {w : World} {lo : Nat} {K V D : Option Addr} {nk ck nv cv nd cd : Nat} (h : NdR w lo s K nk ck V nv cv D nd cd) (hm : mayN s) :
    Calls Try.prog 14 #[.agg #[.bool false, .slice K nk ck, .slice V nv cv, .slice D nd cd]] w fun e w' =>
      ∃ A' c', e = .returned (.tuple #[.agg #[.int .i64 2, .slice A' (bodyN s).length c'], .int .i64 0]) ∧ Own w' w.heap.size 5 1 A' (bodyN s).length c' (bvs (bodyN s)) ∧ Below w.heap.size w w' := by
  have hz := zero34
  have hb : Below w.heap.size w ((w.alloc (.cells #[.bool false, .slice K nk ck, .slice V nv cv, .slice D nd cd] 25)).alloc (.cells #[.int .i64 0, .slice none 0 0] 34)) := ((Below.refl _ _).alloc (Nat.le_refl _) _).alloc (by simp) _
  have M1 := Lib.hid (rnmay_b hlf (decide_eq_true hm) (h.below hb (Nat.le_refl _)))
  have HR := Lib.hid h
  have HM := Lib.hid hm
  have hk := Lib.hid h.nk_eq
  have hkr : s.keys.length ≤ 8796093022208 := by rw [h.nk_eq]; exact h.kroom
  have hk240 : nk ≤ 240 := by have := may_keys hm hkr; rw [h.nk_eq] at this; exact this
  have HB240 := Lib.hid (length_bodyTo_le hm hkr)
  have HLf := Lib.hid hlf
  have hv := Lib.hid (show nd = nk by rw [← h.nd_eq, (may_lens hm).2 hlf, h.nk_eq])
  clear h hm hkr hlf
  go_enter Try.func14, Try.ntmps14
  go_upto_region 4 with ((with_reducible refine Calls.mono M1.out ?_); rintro e w1 ⟨rfl, hb1⟩)
  refine wp_world (fun U => Blk U w.heap.size 25 [.bool false, .slice K nk ck, .slice V nv cv, .slice D nd cd] ∧ Blk U (w.heap.size + 1) 34 [.int .i64 0, .slice none 0 0] ∧ Below w.heap.size w U ∧ w.heap.size + 2 ≤ U.heap.size)
    ⟨((Blk.new w _ [.bool false, .slice K nk ck, .slice V nv cv, .slice D nd cd]).alloc _).below hb1 (by simp <;> omega), (Blk.new_at (w := w.alloc (.cells #[.bool false, .slice K nk ck, .slice V nv cv, .slice D nd cd] 25)) (t := 34) (cs := [.int .i64 0, .slice none 0 0]) (n := w.heap.size + 1) (by simp)).below hb1 (by simp), hb.trans (hb1.mono (by simp <;> omega)), by have := hb1.size; simp at this; omega⟩ ?_
  clear M1 hb hb1
  rintro U ⟨hB, hR, hU, hzU⟩
  have hBc := hB.cells
  go_upto_region 5 with fail
  have hI := PutR.init hB hR hU hzU hk240
  rw [show [UInt8.ofNat nk] = bodyTo s 0 by rw [bodyTo, hk.out]] at hI
  refine wp_world (fun W => PutR w [.bool false, .slice K nk ck, .slice V nv cv, .slice D nd cd] W U.heap.size 2 (some ⟨U.heap.size, 0, none⟩) (bodyTo s 0) 1) hI ?_
  clear hB hR hU hzU hBc hI hz
  generalize U.heap.size = base at *
  rintro W hP
  have hBc := hP.node.cells
  have hGc := hP.blk.cells
  have hGf := hP.blk.frees
  go_upto_region 7 with fail
  clear hBc hGc hGf
  go_wp2
  go_loopw [6] (fun s6 wr => ∃ (i : Nat) (A4 : Option Addr) (c4 : Nat), i ≤ nk ∧ s6 = .int .i64 i ∧ PutR w [.bool false, .slice K nk ck, .slice V nv cv, .slice D nd cd] wr base 2 A4 (bodyTo s i) c4)
    (fun s6 _ => nk - (intOf s6).toNat)
  case atStart => exact ⟨0, _, _, Nat.zero_le _, rfl, hP⟩
  case round =>
    clear hP
    obtain ⟨i, A4, c4, hi, rfl, hP⟩ := hrel
    have hBc := hP.node.cells
    by_cases hlt : i < nk
    · obtain ⟨b, o, rfl, _, hbl⟩ := HR.out.keys.at_ (by omega)
      have hm240 := HB240.out i (by rw [hk.out]; exact hi)
      have hk24 : (kAt s i).size ≤ 24 := (HM.out.2.1 i (by rw [hk.out]; exact hlt)).1
      have HX : Hid (bodyTo s (i + 1) = bodyTo s i ++ pieceN s i) := rfl
      have HPl : Hid (pieceN s i = UInt8.ofNat (kAt s i).size :: ((kAt s i).toList ++ [UInt8.ofNat (dAt s i).toNat, UInt8.ofNat ((dAt s i).toNat / 256)])) := by show _ = _; unfold pieceN; rw [if_neg (by rw [HLf.out]; simp)]
      obtain ⟨L, hL⟩ : ∃ L, bodyTo s i = L := ⟨_, rfl⟩
      rw [hL] at hP hm240 HX
      clear hL
      have HC := Lib.hid (show ∀ W', Below w.heap.size w W' → W'.cell? ⟨b, o + i, none⟩ = some (.string (kAt s i)) from fun W' hW' => sl_cell (HR.out.keys.below hW' (Nat.le_refl _)) i hlt)
      obtain ⟨b2, o2, rfl, _, hbl2⟩ := HR.out.kids.at_ (by have := hv.out; omega)
      have hivn : i < nd := by have := hv.out; omega
      have hdr : 0 ≤ dAt s i ∧ dAt s i ≤ 65535 := (HM.out.2.2.2 HLf.out).2.2 i (by rw [(HM.out.2.2.2 HLf.out).1, hk.out]; exact hlt)
      have HC2 := Lib.hid (show ∀ W', Below w.heap.size w W' → W'.cell? ⟨b2, o2 + i, none⟩ = some (.int .i64 (dAt s i)) from fun W' hW' => il_cell (HR.out.kids.below hW' (Nat.le_refl _)) i (by omega))
      generalize dAt s i = dz at *
      obtain ⟨dn, rfl⟩ := Int.eq_ofNat_of_zero_le hdr.1
      have hdn2 : dn ≤ 65535 := by omega
      clear hdr
      have hmod : ((dn : Int)).tmod 256 = ((dn % 256 : Nat) : Int) := by rw [Int.tmod_eq_emod_of_nonneg (by omega)]; rfl
      have hdiv : ((dn : Int)).tdiv 256 = ((dn / 256 : Nat) : Int) := by rw [Int.tdiv_eq_ediv_of_nonneg (by omega)]; rfl
      generalize kAt s i = kk at *
      clear hBc
      have hBc := hP.node.cells
      go_upto_region 10 with fail
      refine wp_region_last (S := fun w' => w'.cell? ⟨base + 1, 1, none⟩ = some (.slice A4 L.length c4) ∧ w'.cell? ⟨w.heap.size, 1, none⟩ = some (.slice (some ⟨b, o, none⟩) nk ck) ∧ w'.cell? ⟨b, o + i, none⟩ = some (.string kk)) 12 (by kernel_rfl) rfl (by kernel_rfl) ?_ ?_
      · exact ⟨hP.blk.cell 1, hP.node.cell 1, HC.out _ hP.below.drew⟩
      intro hHeld
      simp only [List.take_succ_cons, List.take_zero]
      refine wpAnyH_take (i := 0) (v := ?_) (by simp only [List.getElem?_toArray, List.getElem?_cons_succ, List.getElem?_cons_zero]; rfl) (by kernel_rfl) (by kernel_rfl) (by kernel_rfl) (fun _ _ _ h => h) (Or.inl ⟨by rfl, ?_⟩) hHeld ?_
      rotate_left
      · intro wz hSw; (try dsimp only at hSw); go_simp; try with_reducible rfl
      (try simp only [Act.put, List.setIfInBounds_toArray, List.set_cons_zero, List.set_cons_succ])
      refine wpAnyH_take (i := 1) (v := ?_) (by simp only [List.getElem?_toArray, List.getElem?_cons_succ, List.getElem?_cons_zero]; rfl) (by kernel_rfl) (by kernel_rfl) (by kernel_rfl) (fun _ _ _ h => h) (Or.inl ⟨by rfl, ?_⟩) hHeld ?_
      rotate_left
      · intro wz hSw; (try dsimp only at hSw); go_simp; try with_reducible rfl
      (try simp only [Act.put, List.setIfInBounds_toArray, List.set_cons_zero, List.set_cons_succ])
      refine wpAnyH_take (i := 2) (v := ?_) (by simp only [List.getElem?_toArray, List.getElem?_cons_succ, List.getElem?_cons_zero]; rfl) (by kernel_rfl) (by kernel_rfl) (by kernel_rfl) (fun _ _ _ h => h) (Or.inl ⟨by rfl, ?_⟩) hHeld ?_
      rotate_left
      · intro wz hSw; (try dsimp only at hSw); go_simp; try with_reducible rfl
      (try simp only [Act.put, List.setIfInBounds_toArray, List.set_cons_zero, List.set_cons_succ])
      refine wpAnyH_take (i := 3) (v := ?_) (by simp only [List.getElem?_toArray, List.getElem?_cons_succ, List.getElem?_cons_zero]; rfl) (by kernel_rfl) (by kernel_rfl) (by kernel_rfl) (fun _ _ _ h => h) (Or.inl ⟨by rfl, ?_⟩) hHeld ?_
      rotate_left
      · intro wz hSw; (try dsimp only at hSw); go_simp; try with_reducible rfl
      (try simp only [Act.put, List.setIfInBounds_toArray, List.set_cons_zero, List.set_cons_succ])
      refine wpAnyH_take (i := 4) (v := ?_) (by simp only [List.getElem?_toArray, List.getElem?_cons_succ, List.getElem?_cons_zero]; rfl) (by kernel_rfl) (by kernel_rfl) (by kernel_rfl) (fun _ _ _ h => h) (Or.inl ⟨by rfl, ?_⟩) hHeld ?_
      rotate_left
      · intro wz hSw; (try dsimp only at hSw); go_simp; try with_reducible rfl
      (try simp only [Act.put, List.setIfInBounds_toArray, List.set_cons_zero, List.set_cons_succ])
      refine wpAnyH_take (i := 5) (v := ?_) (by simp only [List.getElem?_toArray, List.getElem?_cons_succ, List.getElem?_cons_zero]; rfl) (by kernel_rfl) (by kernel_rfl) (by kernel_rfl) (fun _ _ _ h => h) (Or.inl ⟨by rfl, ?_⟩) hHeld ?_
      rotate_left
      · intro wz hSw; (try dsimp only at hSw); go_simp; try with_reducible rfl
      (try simp only [Act.put, List.setIfInBounds_toArray, List.set_cons_zero, List.set_cons_succ])
      refine wpAnyH_take (i := 6) (v := ?_) (by simp only [List.getElem?_toArray, List.getElem?_cons_succ, List.getElem?_cons_zero]; rfl) (by kernel_rfl) (by kernel_rfl) (by kernel_rfl) (fun _ _ _ h => h) (Or.inl ⟨by rfl, ?_⟩) hHeld ?_
      rotate_left
      · intro wz hSw; (try dsimp only at hSw); go_simp; try with_reducible rfl
      (try simp only [Act.put, List.setIfInBounds_toArray, List.set_cons_zero, List.set_cons_succ])
      refine wpAnyH_take (i := 7) (v := ?_) (by simp only [List.getElem?_toArray, List.getElem?_cons_succ, List.getElem?_cons_zero]; rfl) (by kernel_rfl) (by kernel_rfl) (by kernel_rfl) (fun _ _ _ h => h) (Or.inl ⟨by rfl, ?_⟩) hHeld ?_
      rotate_left
      · intro wz hSw; (try dsimp only at hSw); go_simp; try with_reducible rfl
      (try simp only [Act.put, List.setIfInBounds_toArray, List.set_cons_zero, List.set_cons_succ])
      refine wpAnyH_take (i := 8) (v := ?_) (by simp only [List.getElem?_toArray, List.getElem?_cons_succ, List.getElem?_cons_zero]; rfl) (by kernel_rfl) (by kernel_rfl) (by kernel_rfl) (fun _ _ _ h => h) (Or.inl ⟨by rfl, ?_⟩) hHeld ?_
      rotate_left
      · intro wz hSw; (try dsimp only at hSw); go_simp; try with_reducible rfl
      (try simp only [Act.put, List.setIfInBounds_toArray, List.set_cons_zero, List.set_cons_succ])
      refine wpAnyH_ready (rs := [9]) (by kernel_rfl) (by simp) ?_
      refine AllReadyH.cons (by simp only [List.getElem?_toArray, List.getElem?_cons_succ, List.getElem?_cons_zero]; rfl) (fun K hK => ?_) AllReadyH.nil
      go_simp
      refine hK.out _ _ ?_ (fun hHeld => ?_)
      · exact ⟨(hP.alloc _).blk.cell 1, (hP.alloc _).node.cell 1, HC.out _ (hP.alloc _).below⟩
      clear hK K
      (try simp only [Act.put, List.setIfInBounds_toArray, List.set_cons_zero, List.set_cons_succ])
      refine wpAnyH_ready (rs := [10]) (by kernel_rfl) (by simp) ?_
      refine AllReadyH.cons (by simp only [List.getElem?_toArray, List.getElem?_cons_succ, List.getElem?_cons_zero]; rfl) (fun K hK => ?_) AllReadyH.nil
      (refine step_app rfl (.tmp 29) (.tmp 37) 32 rfl 5 1 Try.underlying32 info5 rfl (by omega) rfl (hP.own.drew.alloc _) rfl (rd_one _ _ rfl) rfl (one_int _ _) (by omega) (by omega) (by have := hP.high; simp; omega) ?_; intro A5 c5 w5 how5 hgw5 _; have hPw5 := hP.allocg hgw5)
      refine hK.out _ _ ?_ (fun hHeld => ?_)
      · exact ⟨(hPw5.mid hgw5).2.2.cell 1, (hPw5.mid hgw5).2.1.cell 1, HC.out _ (hPw5.mid hgw5).1⟩
      clear hK K
      (try simp only [Act.put, List.setIfInBounds_toArray, List.set_cons_zero, List.set_cons_succ])
      refine wpAnyH_take (i := 11) (v := ?_) (by simp only [List.getElem?_toArray, List.getElem?_cons_succ, List.getElem?_cons_zero]; rfl) (by kernel_rfl) (by kernel_rfl) (by kernel_rfl) (fun _ _ _ h => h) (Or.inl ⟨by rfl, ?_⟩) hHeld ?_
      rotate_left
      · intro wz hSw; (try dsimp only at hSw); go_simp; try with_reducible rfl
      (try simp only [Act.put, List.setIfInBounds_toArray, List.set_cons_zero, List.set_cons_succ])
      have eF := (hPw5.mid hgw5).2.2.frees
      have eC := (hPw5.mid hgw5).2.2.cells
      refine wpAnyH_done (by kernel_rfl) ?_ _
      simp only [lastQ]
      go_simp
      clear eF eC
      rw [bv_nat (IntKind.u8.wrap (kk.size : Int)) kk.size (by rw [IntKind.wrap_u8]; omega)] at how5
      go_upto_region 11 with fail
      refine wp_world (fun W => PutR w [.bool false, .slice (some ⟨b, o, none⟩) nk ck, .slice V nv cv, .slice (some ⟨b2, o2, none⟩) nd cd] W base 2 A5 (L ++ [UInt8.ofNat kk.size]) c5) (hPw5.app how5 hgw5 (by simp [bvs])) ?_
      have hl : L.length + 1 = (L ++ [UInt8.ofNat kk.size]).length := by simp [length_toList]
      clear hP hPw5 how5 hgw5 hHeld
      rintro Ww5 hP
      try rw [hl]
      clear hl
      obtain ⟨L5, hL5⟩ : ∃ l, L ++ [UInt8.ofNat kk.size] = l := ⟨_, rfl⟩
      have hzL5 : L5.length ≤ 241 := by rw [← hL5]; simp [length_toList]; omega
      try rw [hL5]
      rw [hL5] at hP
      have HL5 := Lib.hid hL5
      clear hL5
      clear hBc
      have hBc := hP.node.cells
      refine wp_region_last (S := fun w' => w'.cell? ⟨base + 1, 1, none⟩ = some (.slice A5 L5.length c5) ∧ w'.cell? ⟨w.heap.size, 1, none⟩ = some (.slice (some ⟨b, o, none⟩) nk ck) ∧ w'.cell? ⟨b, o + i, none⟩ = some (.string kk)) 9 (by kernel_rfl) rfl (by kernel_rfl) ?_ ?_
      · exact ⟨hP.blk.cell 1, hP.node.cell 1, HC.out _ hP.below.drew⟩
      intro hHeld
      simp only [List.take_succ_cons, List.take_zero]
      refine wpAnyH_take (i := 0) (v := ?_) (by simp only [List.getElem?_toArray, List.getElem?_cons_succ, List.getElem?_cons_zero]; rfl) (by kernel_rfl) (by kernel_rfl) (by kernel_rfl) (fun _ _ _ h => h) (Or.inl ⟨by rfl, ?_⟩) hHeld ?_
      rotate_left
      · intro wz hSw; (try dsimp only at hSw); go_simp; try with_reducible rfl
      (try simp only [Act.put, List.setIfInBounds_toArray, List.set_cons_zero, List.set_cons_succ])
      refine wpAnyH_take (i := 1) (v := ?_) (by simp only [List.getElem?_toArray, List.getElem?_cons_succ, List.getElem?_cons_zero]; rfl) (by kernel_rfl) (by kernel_rfl) (by kernel_rfl) (fun _ _ _ h => h) (Or.inl ⟨by rfl, ?_⟩) hHeld ?_
      rotate_left
      · intro wz hSw; (try dsimp only at hSw); go_simp; try with_reducible rfl
      (try simp only [Act.put, List.setIfInBounds_toArray, List.set_cons_zero, List.set_cons_succ])
      refine wpAnyH_take (i := 2) (v := ?_) (by simp only [List.getElem?_toArray, List.getElem?_cons_succ, List.getElem?_cons_zero]; rfl) (by kernel_rfl) (by kernel_rfl) (by kernel_rfl) (fun _ _ _ h => h) (Or.inl ⟨by rfl, ?_⟩) hHeld ?_
      rotate_left
      · intro wz hSw; (try dsimp only at hSw); go_simp; try with_reducible rfl
      (try simp only [Act.put, List.setIfInBounds_toArray, List.set_cons_zero, List.set_cons_succ])
      refine wpAnyH_take (i := 3) (v := ?_) (by simp only [List.getElem?_toArray, List.getElem?_cons_succ, List.getElem?_cons_zero]; rfl) (by kernel_rfl) (by kernel_rfl) (by kernel_rfl) (fun _ _ _ h => h) (Or.inl ⟨by rfl, ?_⟩) hHeld ?_
      rotate_left
      · intro wz hSw; (try dsimp only at hSw); go_simp; try with_reducible rfl
      (try simp only [Act.put, List.setIfInBounds_toArray, List.set_cons_zero, List.set_cons_succ])
      refine wpAnyH_take (i := 4) (v := ?_) (by simp only [List.getElem?_toArray, List.getElem?_cons_succ, List.getElem?_cons_zero]; rfl) (by kernel_rfl) (by kernel_rfl) (by kernel_rfl) (fun _ _ _ h => h) (Or.inl ⟨by rfl, ?_⟩) hHeld ?_
      rotate_left
      · intro wz hSw; (try dsimp only at hSw); go_simp; try with_reducible rfl
      (try simp only [Act.put, List.setIfInBounds_toArray, List.set_cons_zero, List.set_cons_succ])
      refine wpAnyH_take (i := 5) (v := ?_) (by simp only [List.getElem?_toArray, List.getElem?_cons_succ, List.getElem?_cons_zero]; rfl) (by kernel_rfl) (by kernel_rfl) (by kernel_rfl) (fun _ _ _ h => h) (Or.inl ⟨by rfl, ?_⟩) hHeld ?_
      rotate_left
      · intro wz hSw; (try dsimp only at hSw); go_simp; try with_reducible rfl
      (try simp only [Act.put, List.setIfInBounds_toArray, List.set_cons_zero, List.set_cons_succ])
      refine wpAnyH_take (i := 6) (v := ?_) (by simp only [List.getElem?_toArray, List.getElem?_cons_succ, List.getElem?_cons_zero]; rfl) (by kernel_rfl) (by kernel_rfl) (by kernel_rfl) (fun _ _ _ h => h) (Or.inl ⟨by rfl, ?_⟩) hHeld ?_
      rotate_left
      · intro wz hSw; (try dsimp only at hSw); go_simp; try with_reducible rfl
      (try simp only [Act.put, List.setIfInBounds_toArray, List.set_cons_zero, List.set_cons_succ])
      refine wpAnyH_ready (rs := [7]) (by kernel_rfl) (by simp) ?_
      refine AllReadyH.cons (by simp only [List.getElem?_toArray, List.getElem?_cons_succ, List.getElem?_cons_zero]; rfl) (fun K hK => ?_) AllReadyH.nil
      (refine step_app_str rfl (.tmp 41) (.tmp 46) 32 9 rfl Try.underlying32 Try.underlying9 info5 rfl hP.own.drew rfl (by omega) (by have := hP.high; simp; omega) ?_; intro A6 c6 w6 how6 hgw6; have hPw6 := hP.drew)
      refine hK.out _ _ ?_ (fun hHeld => ?_)
      · exact ⟨(hPw6.mid hgw6).2.2.cell 1, (hPw6.mid hgw6).2.1.cell 1, HC.out _ (hPw6.mid hgw6).1⟩
      clear hK K
      (try simp only [Act.put, List.setIfInBounds_toArray, List.set_cons_zero, List.set_cons_succ])
      refine wpAnyH_take (i := 8) (v := ?_) (by simp only [List.getElem?_toArray, List.getElem?_cons_succ, List.getElem?_cons_zero]; rfl) (by kernel_rfl) (by kernel_rfl) (by kernel_rfl) (fun _ _ _ h => h) (Or.inl ⟨by rfl, ?_⟩) hHeld ?_
      rotate_left
      · intro wz hSw; (try dsimp only at hSw); go_simp; try with_reducible rfl
      (try simp only [Act.put, List.setIfInBounds_toArray, List.set_cons_zero, List.set_cons_succ])
      have eF := (hPw6.mid hgw6).2.2.frees
      have eC := (hPw6.mid hgw6).2.2.cells
      refine wpAnyH_done (by kernel_rfl) ?_ _
      simp only [lastQ]
      go_simp
      clear eF eC
      go_upto_region 12 with fail
      refine wp_world (fun W => PutR w [.bool false, .slice (some ⟨b, o, none⟩) nk ck, .slice V nv cv, .slice (some ⟨b2, o2, none⟩) nd cd] W base 2 A6 (L5 ++ kk.toList) c6) (hPw6.app how6 hgw6 (by simp [bvs])) ?_
      have hl : L5.length + kk.size = (L5 ++ kk.toList).length := by simp [length_toList]
      clear hP hPw6 how6 hgw6 hHeld
      rintro Ww6 hP
      try rw [hl]
      clear hl
      obtain ⟨L6, hL6⟩ : ∃ l, L5 ++ kk.toList = l := ⟨_, rfl⟩
      have hzL6 : L6.length ≤ 265 := by rw [← hL6]; simp [length_toList]; omega
      try rw [hL6]
      rw [hL6] at hP
      have HL6 := Lib.hid hL6
      clear hL6
      clear hBc
      have hBc := hP.node.cells
      go_upto_region 15 with fail
      refine wp_region_last (S := fun w' => w'.cell? ⟨base + 1, 1, none⟩ = some (.slice A6 L6.length c6) ∧ w'.cell? ⟨w.heap.size, 3, none⟩ = some (.slice (some ⟨b2, o2, none⟩) nd cd) ∧ w'.cell? ⟨b2, o2 + i, none⟩ = some (.int .i64 (dn : Int))) 19 (by kernel_rfl) rfl (by kernel_rfl) ?_ ?_
      · exact ⟨hP.blk.cell 1, hP.node.cell 3, HC2.out _ hP.below.drew⟩
      intro hHeld
      simp only [List.take_succ_cons, List.take_zero]
      refine wpAnyH_take (i := 0) (v := ?_) (by simp only [List.getElem?_toArray, List.getElem?_cons_succ, List.getElem?_cons_zero]; rfl) (by kernel_rfl) (by kernel_rfl) (by kernel_rfl) (fun _ _ _ h => h) (Or.inl ⟨by rfl, ?_⟩) hHeld ?_
      rotate_left
      · intro wz hSw; (try dsimp only at hSw); go_simp; try with_reducible rfl
      (try simp only [Act.put, List.setIfInBounds_toArray, List.set_cons_zero, List.set_cons_succ])
      refine wpAnyH_take (i := 1) (v := ?_) (by simp only [List.getElem?_toArray, List.getElem?_cons_succ, List.getElem?_cons_zero]; rfl) (by kernel_rfl) (by kernel_rfl) (by kernel_rfl) (fun _ _ _ h => h) (Or.inl ⟨by rfl, ?_⟩) hHeld ?_
      rotate_left
      · intro wz hSw; (try dsimp only at hSw); go_simp; try with_reducible rfl
      (try simp only [Act.put, List.setIfInBounds_toArray, List.set_cons_zero, List.set_cons_succ])
      refine wpAnyH_take (i := 2) (v := ?_) (by simp only [List.getElem?_toArray, List.getElem?_cons_succ, List.getElem?_cons_zero]; rfl) (by kernel_rfl) (by kernel_rfl) (by kernel_rfl) (fun _ _ _ h => h) (Or.inl ⟨by rfl, ?_⟩) hHeld ?_
      rotate_left
      · intro wz hSw; (try dsimp only at hSw); go_simp; try with_reducible rfl
      (try simp only [Act.put, List.setIfInBounds_toArray, List.set_cons_zero, List.set_cons_succ])
      refine wpAnyH_take (i := 3) (v := ?_) (by simp only [List.getElem?_toArray, List.getElem?_cons_succ, List.getElem?_cons_zero]; rfl) (by kernel_rfl) (by kernel_rfl) (by kernel_rfl) (fun _ _ _ h => h) (Or.inl ⟨by rfl, ?_⟩) hHeld ?_
      rotate_left
      · intro wz hSw; (try dsimp only at hSw); go_simp; try with_reducible rfl
      (try simp only [Act.put, List.setIfInBounds_toArray, List.set_cons_zero, List.set_cons_succ])
      refine wpAnyH_take (i := 4) (v := ?_) (by simp only [List.getElem?_toArray, List.getElem?_cons_succ, List.getElem?_cons_zero]; rfl) (by kernel_rfl) (by kernel_rfl) (by kernel_rfl) (fun _ _ _ h => h) (Or.inl ⟨by rfl, ?_⟩) hHeld ?_
      rotate_left
      · intro wz hSw; (try dsimp only at hSw); go_simp; try with_reducible rfl
      (try simp only [Act.put, List.setIfInBounds_toArray, List.set_cons_zero, List.set_cons_succ])
      refine wpAnyH_take (i := 5) (v := ?_) (by simp only [List.getElem?_toArray, List.getElem?_cons_succ, List.getElem?_cons_zero]; rfl) (by kernel_rfl) (by kernel_rfl) (by kernel_rfl) (fun _ _ _ h => h) (Or.inl ⟨by rfl, ?_⟩) hHeld ?_
      rotate_left
      · intro wz hSw; (try dsimp only at hSw); go_simp; try with_reducible rfl
      (try simp only [Act.put, List.setIfInBounds_toArray, List.set_cons_zero, List.set_cons_succ])
      refine wpAnyH_take (i := 6) (v := ?_) (by simp only [List.getElem?_toArray, List.getElem?_cons_succ, List.getElem?_cons_zero]; rfl) (by kernel_rfl) (by kernel_rfl) (by kernel_rfl) (fun _ _ _ h => h) (Or.inl ⟨by rfl, ?_⟩) hHeld ?_
      rotate_left
      · intro wz hSw; (try dsimp only at hSw); go_simp; try with_reducible rfl
      (try simp only [Act.put, List.setIfInBounds_toArray, List.set_cons_zero, List.set_cons_succ])
      refine wpAnyH_take (i := 7) (v := ?_) (by simp only [List.getElem?_toArray, List.getElem?_cons_succ, List.getElem?_cons_zero]; rfl) (by kernel_rfl) (by kernel_rfl) (by kernel_rfl) (fun _ _ _ h => h) (Or.inl ⟨by rfl, ?_⟩) hHeld ?_
      rotate_left
      · intro wz hSw; (try dsimp only at hSw); go_simp; try with_reducible rfl
      (try simp only [Act.put, List.setIfInBounds_toArray, List.set_cons_zero, List.set_cons_succ])
      refine wpAnyH_take (i := 8) (v := ?_) (by simp only [List.getElem?_toArray, List.getElem?_cons_succ, List.getElem?_cons_zero]; rfl) (by kernel_rfl) (by kernel_rfl) (by kernel_rfl) (fun _ _ _ h => h) (Or.inl ⟨by rfl, ?_⟩) hHeld ?_
      rotate_left
      · intro wz hSw; (try dsimp only at hSw); go_simp; try with_reducible rfl
      (try simp only [Act.put, List.setIfInBounds_toArray, List.set_cons_zero, List.set_cons_succ])
      refine wpAnyH_take (i := 9) (v := ?_) (by simp only [List.getElem?_toArray, List.getElem?_cons_succ, List.getElem?_cons_zero]; rfl) (by kernel_rfl) (by kernel_rfl) (by kernel_rfl) (fun _ _ _ h => h) (Or.inl ⟨by rfl, ?_⟩) hHeld ?_
      rotate_left
      · intro wz hSw; (try dsimp only at hSw); go_simp; try with_reducible rfl
      (try simp only [Act.put, List.setIfInBounds_toArray, List.set_cons_zero, List.set_cons_succ])
      refine wpAnyH_take (i := 10) (v := ?_) (by simp only [List.getElem?_toArray, List.getElem?_cons_succ, List.getElem?_cons_zero]; rfl) (by kernel_rfl) (by kernel_rfl) (by kernel_rfl) (fun _ _ _ h => h) (Or.inl ⟨by rfl, ?_⟩) hHeld ?_
      rotate_left
      · intro wz hSw; (try dsimp only at hSw); go_simp; try with_reducible rfl
      (try simp only [Act.put, List.setIfInBounds_toArray, List.set_cons_zero, List.set_cons_succ])
      refine wpAnyH_take (i := 11) (v := ?_) (by simp only [List.getElem?_toArray, List.getElem?_cons_succ, List.getElem?_cons_zero]; rfl) (by kernel_rfl) (by kernel_rfl) (by kernel_rfl) (fun _ _ _ h => h) (Or.inl ⟨by rfl, ?_⟩) hHeld ?_
      rotate_left
      · intro wz hSw; (try dsimp only at hSw); go_simp; try with_reducible rfl
      (try simp only [Act.put, List.setIfInBounds_toArray, List.set_cons_zero, List.set_cons_succ])
      refine wpAnyH_take (i := 12) (v := ?_) (by simp only [List.getElem?_toArray, List.getElem?_cons_succ, List.getElem?_cons_zero]; rfl) (by kernel_rfl) (by kernel_rfl) (by kernel_rfl) (fun _ _ _ h => h) (Or.inl ⟨by rfl, ?_⟩) hHeld ?_
      rotate_left
      · intro wz hSw; (try dsimp only at hSw); go_simp; try with_reducible rfl
      (try simp only [Act.put, List.setIfInBounds_toArray, List.set_cons_zero, List.set_cons_succ])
      refine wpAnyH_take (i := 13) (v := ?_) (by simp only [List.getElem?_toArray, List.getElem?_cons_succ, List.getElem?_cons_zero]; rfl) (by kernel_rfl) (by kernel_rfl) (by kernel_rfl) (fun _ _ _ h => h) (Or.inl ⟨by rfl, ?_⟩) hHeld ?_
      rotate_left
      · intro wz hSw; (try dsimp only at hSw); go_simp; try with_reducible rfl
      (try simp only [Act.put, List.setIfInBounds_toArray, List.set_cons_zero, List.set_cons_succ])
      refine wpAnyH_take (i := 14) (v := ?_) (by simp only [List.getElem?_toArray, List.getElem?_cons_succ, List.getElem?_cons_zero]; rfl) (by kernel_rfl) (by kernel_rfl) (by kernel_rfl) (fun _ _ _ h => h) (Or.inl ⟨by rfl, ?_⟩) hHeld ?_
      rotate_left
      · intro wz hSw; (try dsimp only at hSw); go_simp; try with_reducible rfl
      (try simp only [Act.put, List.setIfInBounds_toArray, List.set_cons_zero, List.set_cons_succ])
      refine wpAnyH_take (i := 15) (v := ?_) (by simp only [List.getElem?_toArray, List.getElem?_cons_succ, List.getElem?_cons_zero]; rfl) (by kernel_rfl) (by kernel_rfl) (by kernel_rfl) (fun _ _ _ h => h) (Or.inl ⟨by rfl, ?_⟩) hHeld ?_
      rotate_left
      · intro wz hSw; (try dsimp only at hSw); go_simp; try with_reducible rfl
      (try simp only [Act.put, List.setIfInBounds_toArray, List.set_cons_zero, List.set_cons_succ])
      refine wpAnyH_ready (rs := [16]) (by kernel_rfl) (by simp) ?_
      refine AllReadyH.cons (by simp only [List.getElem?_toArray, List.getElem?_cons_succ, List.getElem?_cons_zero]; rfl) (fun K hK => ?_) AllReadyH.nil
      go_simp
      refine hK.out _ _ ?_ (fun hHeld => ?_)
      · exact ⟨(hP.alloc _).blk.cell 1, (hP.alloc _).node.cell 3, HC2.out _ (hP.alloc _).below⟩
      clear hK K
      (try simp only [Act.put, List.setIfInBounds_toArray, List.set_cons_zero, List.set_cons_succ])
      refine wpAnyH_ready (rs := [17]) (by kernel_rfl) (by simp) ?_
      refine AllReadyH.cons (by simp only [List.getElem?_toArray, List.getElem?_cons_succ, List.getElem?_cons_zero]; rfl) (fun K hK => ?_) AllReadyH.nil
      (refine step_app rfl (.tmp 73) (.tmp 88) 32 rfl 5 1 Try.underlying32 info5 rfl (by omega) rfl (hP.own.drew.alloc _) rfl (rd_two _ _ _ rfl) rfl (two_int _ _ _) (by omega) (by omega) (by have := hP.high; simp; omega) ?_; intro A8 c8 w8 how8 hgw8 _; have hPw8 := hP.allocg hgw8)
      refine hK.out _ _ ?_ (fun hHeld => ?_)
      · exact ⟨(hPw8.mid hgw8).2.2.cell 1, (hPw8.mid hgw8).2.1.cell 3, HC2.out _ (hPw8.mid hgw8).1⟩
      clear hK K
      (try simp only [Act.put, List.setIfInBounds_toArray, List.set_cons_zero, List.set_cons_succ])
      refine wpAnyH_take (i := 18) (v := ?_) (by simp only [List.getElem?_toArray, List.getElem?_cons_succ, List.getElem?_cons_zero]; rfl) (by kernel_rfl) (by kernel_rfl) (by kernel_rfl) (fun _ _ _ h => h) (Or.inl ⟨by rfl, ?_⟩) hHeld ?_
      rotate_left
      · intro wz hSw; (try dsimp only at hSw); go_simp; try with_reducible rfl
      (try simp only [Act.put, List.setIfInBounds_toArray, List.set_cons_zero, List.set_cons_succ])
      have eF := (hPw8.mid hgw8).2.2.frees
      have eC := (hPw8.mid hgw8).2.2.cells
      refine wpAnyH_done (by kernel_rfl) ?_ _
      simp only [lastQ]
      go_simp
      clear eF eC
      rw [bv_nat (IntKind.u8.wrap ((dn : Int) % 256)) dn (by rw [IntKind.wrap_u8]; omega), bv_nat (IntKind.u8.wrap (IntKind.i64.wrap ((dn : Int) / 256))) (dn / 256) (by rw [IntWalk.i64_in _ (by omega), IntKind.wrap_u8]; omega)] at how8
      go_upto_region 9 with fail
      refine wp_world (fun W => PutR w [.bool false, .slice (some ⟨b, o, none⟩) nk ck, .slice V nv cv, .slice (some ⟨b2, o2, none⟩) nd cd] W base 2 A8 (L6 ++ [UInt8.ofNat dn, UInt8.ofNat (dn / 256)]) c8) (hPw8.app how8 hgw8 (by simp [bvs])) ?_
      have hl : L6.length + 2 = (L6 ++ [UInt8.ofNat dn, UInt8.ofNat (dn / 256)]).length := by simp [length_toList]
      clear hP hPw8 how8 hgw8 hHeld
      rintro Ww8 hP
      try rw [hl]
      clear hl
      obtain ⟨L8, hL8⟩ : ∃ l, L6 ++ [UInt8.ofNat dn, UInt8.ofNat (dn / 256)] = l := ⟨_, rfl⟩
      have hzL8 : L8.length ≤ 290 := by rw [← hL8]; simp [length_toList]; omega
      try rw [hL8]
      rw [hL8] at hP
      have HL8 := Lib.hid hL8
      clear hL8
      have he : L8 = bodyTo s (i + 1) := by rw [HX.out, HPl.out, ← HL8.out, ← HL6.out, ← HL5.out]; simp
      rw [he] at hP
      clear hBc
      have hBc := hP.node.cells
      clear HC HC2
      go_wp2
      go_roundw
      case rel =>
        exact ⟨i + 1, A8, c8, by omega, by go_num, hP⟩
      case measure => simp [intOf]; omega
    · obtain rfl : i = nk := by omega
      have hBy : Hid (bodyTo s i = bodyN s) := by show _ = _; rw [← hk.out]; rfl
      rw [hBy.out] at hP
      have gc := hP.blk.cells
      have rc := hP.res.cells
      have rf := hP.res.frees
      have hlow := hP.low
      go_wp2
      refine bodyPost_ret (results_nb rfl rfl rfl ((hP.res.set_ 0 _).set_ 1 _)) rfl ?_
      exact ⟨A4, c4, rfl, ((hP.own.far (by simp <;> omega) _).far (by simp <;> omega) _).weak (by omega), (hP.below.setCell (by simp) _).setCell (by simp) _⟩

theorem rnput_ok (s : Nd) {w : World} {lo : Nat} {K V D : Option Addr} {nk ck nv cv nd cd : Nat} (h : NdR w lo s K nk ck V nv cv D nd cd) (hm : mayN s) :
    Calls Try.prog 14 #[.agg #[.bool s.leaf, .slice K nk ck, .slice V nv cv, .slice D nd cd]] w fun e w' =>
      ∃ A' c', e = .returned (.tuple #[.agg #[.int .i64 (kindN s), .slice A' (bodyN s).length c'], .int .i64 0]) ∧ Own w' w.heap.size 5 1 A' (bodyN s).length c' (bvs (bodyN s)) ∧ Below w.heap.size w w' := by
  cases hl : s.leaf with
  | true =>
    have := rnput_leaf s hl h hm
    rw [show kindN s = 1 by unfold kindN; rw [if_pos hl]]
    exact this
  | false =>
    have := rnput_inner s hl h hm
    rw [show kindN s = 2 by unfold kindN; rw [if_neg (by rw [hl]; simp)]]
    exact this
end Go.Proofs.Ytnjpibbmgbiofaa
