/- kistlaw14.of, kistlaw14.same: a node of the program's, in memory of its own; is it the document's. -/
import Derived.Test.YtnjpibbmgbiofaaNodSize
import Derived.Test.YtnjpibbmgbiofaaNodSame
namespace Go.Proofs.Ytnjpibbmgbiofaa
open Go.RowKit

theorem Ls.far {w : World} {lo n c : Nat} {A : Option Addr} {xs : List Value} (h : Ls w lo A n c xs) {q : Addr} (hq : q.block < lo) (u : Value) : Ls (w.setCell q u) lo A n c xs := ⟨h.1, h.2.1, h.2.2.1, fun hn => by
  obtain ⟨b, o, e, h1, h2, hc⟩ := h.2.2.2 hn
  exact ⟨b, o, e, h1, by simpa using h2, fun k hk => (World.cell?_of_block (Below.heap_setCell w q u b (by omega))).trans (hc k hk)⟩⟩
theorem NdR.far {w : World} {lo : Nat} {s : Nd} {K V D : Option Addr} {nk ck nv cv nd cd : Nat} (h : NdR w lo s K nk ck V nv cv D nd cd) {q : Addr} (hq : q.block < lo) (u : Value) : NdR (w.setCell q u) lo s K nk ck V nv cv D nd cd :=
  ⟨h.keys.far hq u, h.vals.far hq u, h.kids.far hq u, h.ksmall, h.vsmall, h.kroom, h.vroom, h.droom⟩

theorem info9 : (Try.prog.info? 9).map (fun i => (i.zero, i.size, i.bytes)) = some (some (.string .empty), 1, 16) := by kernel_rfl
theorem info3 : (Try.prog.info? 3).map (fun i => (i.zero, i.size, i.bytes)) = some (some (.int .i64 0), 1, 8) := by kernel_rfl
theorem size26 : (Try.prog.info? 26).map (·.size) = some 4 := by kernel_rfl
theorem zero26 (w : World) : (zeroValue 26).run Try.prog w = .ok (.agg #[.bool false, .slice none 0 0, .slice none 0 0, .slice none 0 0]) w := by kernel_rfl
theorem zero25 (w : World) : (zeroValue 25).run Try.prog w = .ok (.agg #[.bool false, .slice none 0 0, .slice none 0 0, .slice none 0 0]) w := by kernel_rfl

set_option maxRecDepth 100000 in
set_option maxHeartbeats 2000000 in
theorem of_any (s : Nd) {w : World} {lo : Nat} {K V D : Option Addr} {nk ck nv cv nd cd : Nat} (h : NdR w lo s K nk ck V nv cv D nd cd) :
    Calls Try.prog 8 #[.agg #[.bool s.leaf, .slice K nk ck, .slice V nv cv, .slice D nd cd]] w fun e w' =>
      ∃ K' ck' V' cv' D' cd', e = .returned (.agg #[.bool s.leaf, .slice K' nk ck', .slice V' nv cv', .slice D' nd cd']) ∧ NdR w' w.heap.size s K' nk ck' V' nv cv' D' nd cd' ∧ Below w.heap.size w w' := by
  have hz := zero26
  have HR := Lib.hid h
  have kr := h.kroom
  have vr := h.vroom
  have dr := h.droom
  clear h
  go_enter Try.func8, Try.ntmps8
  go_upto_region 2 with fail
  refine wp_world (fun U => Blk U w.heap.size 25 [.bool s.leaf, .slice K nk ck, .slice V nv cv, .slice D nd cd] ∧ Blk U (w.heap.size + 1) 26 [.bool false, .slice none 0 0, .slice none 0 0, .slice none 0 0] ∧ Blk U (w.heap.size + 2) 26 [.bool s.leaf, .slice none 0 0, .slice none 0 0, .slice none 0 0] ∧ Below w.heap.size w U ∧ U.heap.size = w.heap.size + 3)
    ⟨((Blk.new w _ [.bool s.leaf, .slice K nk ck, .slice V nv cv, .slice D nd cd]).alloc _).alloc _, (Blk.new_at (cs := [.bool false, .slice none 0 0, .slice none 0 0, .slice none 0 0]) (by simp)).alloc _, Blk.new_at (cs := [.bool s.leaf, .slice none 0 0, .slice none 0 0, .slice none 0 0]) (by simp), (((Below.refl _ _).alloc (Nat.le_refl _) _).alloc (by simp) _).alloc (by simp <;> omega) _, by simp⟩ ?_
  rintro U ⟨hA, hR, hN, hU, hsU⟩
  have a1 := hA.cell 1
  have n1 := hN.cell 1
  have f1 := hN.frozen 1
  simp only [List.getElem?_cons_zero, List.getElem?_cons_succ] at a1 n1
  have hkr := (HR.out.keys.below hU (Nat.le_refl _)).2.2.2
  have hkl := HR.out.keys.1
  have HKR := Lib.hid (And.intro hkr hkl)
  clear hkr hkl
  go_upto_region 3 with (at_builtin; refine wpList_app rfl (.tmp 8) (.tmp 10) 22 rfl 9 1 Try.underlying22 info9 rfl (by omega) rfl (Own.nil_ _ (w.heap.size + 3) 9 1) rfl HKR.out.1 (by simpa using HKR.out.2) (sl_oneCell _) (by omega) (by omega) (by omega) ?_; intro K1 ck1 w1 ho1 hg1 _; rw [Nat.zero_add, List.nil_append] at ho1; rw [Nat.zero_add]; have N1 := hN.grown hg1 (by simp); have n1b := N1.cell 1; have f1b := N1.frozen 1)
  refine wp_world (fun U => Blk U w.heap.size 25 [.bool s.leaf, .slice K nk ck, .slice V nv cv, .slice D nd cd] ∧ Blk U (w.heap.size + 1) 26 [.bool false, .slice none 0 0, .slice none 0 0, .slice none 0 0] ∧ Blk U (w.heap.size + 2) 26 [.bool s.leaf, .slice K1 nk ck1, .slice none 0 0, .slice none 0 0] ∧ Own U (w.heap.size + 3) 9 1 K1 nk ck1 (sl s.keys) ∧ Below w.heap.size w U ∧ w.heap.size + 3 ≤ U.heap.size)
    ⟨(hA.grown hg1 (by simp)).far (by simp <;> omega) _, (hR.grown hg1 (by simp)).far (by simp <;> omega) _, N1.set_ 1 _, ho1.far (by simp <;> omega) _, (hU.grown hg1 hU.size (by simp)).setCell (by simp <;> omega) _, by have := hg1.size; simp <;> omega⟩ ?_
  clear a1 n1 f1 HKR hA hR hN hU hsU ho1 hg1 N1 n1b f1b
  rintro U ⟨hA, hR, hN, oK, hU, hsU⟩
  have a1 := hA.cell 2
  have n1 := hN.cell 2
  have f1 := hN.frozen 2
  simp only [List.getElem?_cons_zero, List.getElem?_cons_succ] at a1 n1
  have hkr := (HR.out.vals.below hU (Nat.le_refl _)).2.2.2
  have hkl := HR.out.vals.1
  have HKR := Lib.hid (And.intro hkr hkl)
  clear hkr hkl
  go_upto_region 4 with (at_builtin; refine wpList_app rfl (.tmp 14) (.tmp 16) 22 rfl 9 1 Try.underlying22 info9 rfl (by omega) rfl (Own.nil_ _ (w.heap.size + 3) 9 1) rfl HKR.out.1 (by simpa using HKR.out.2) (sl_oneCell _) (by omega) (by omega) (by omega) ?_; intro V1 cv1 w1 ho1 hg1 _; rw [Nat.zero_add, List.nil_append] at ho1; rw [Nat.zero_add]; have N1 := hN.grown hg1 (by simp); have n1b := N1.cell 2; have f1b := N1.frozen 2)
  refine wp_world (fun U => Blk U w.heap.size 25 [.bool s.leaf, .slice K nk ck, .slice V nv cv, .slice D nd cd] ∧ Blk U (w.heap.size + 1) 26 [.bool false, .slice none 0 0, .slice none 0 0, .slice none 0 0] ∧ Blk U (w.heap.size + 2) 26 [.bool s.leaf, .slice K1 nk ck1, .slice V1 nv cv1, .slice none 0 0] ∧ Own U (w.heap.size + 3) 9 1 K1 nk ck1 (sl s.keys) ∧ Own U (w.heap.size + 3) 9 1 V1 nv cv1 (sl s.vals) ∧ Below w.heap.size w U ∧ w.heap.size + 3 ≤ U.heap.size)
    ⟨(hA.grown hg1 (by simp)).far (by simp <;> omega) _, (hR.grown hg1 (by simp)).far (by simp <;> omega) _, N1.set_ 2 _, (oK.keep hg1 (by cases K1 <;> simp)).far (by simp <;> omega) _, ho1.far (by simp <;> omega) _, (hU.grown hg1 hU.size (by simp)).setCell (by simp <;> omega) _, by have := hg1.size; simp <;> omega⟩ ?_
  clear a1 n1 f1 HKR hA hR hN hU hsU ho1 hg1 N1 n1b f1b oK
  rintro U ⟨hA, hR, hN, oK, oV, hU, hsU⟩
  have a1 := hA.cell 3
  have n1 := hN.cell 3
  have f1 := hN.frozen 3
  simp only [List.getElem?_cons_zero, List.getElem?_cons_succ] at a1 n1
  have hkr := (HR.out.kids.below hU (Nat.le_refl _)).2.2.2
  have hkl := HR.out.kids.1
  have HKR := Lib.hid (And.intro hkr hkl)
  clear hkr hkl
  go_upto_region 5 with (at_builtin; refine wpList_app rfl (.tmp 20) (.tmp 22) 23 rfl 3 1 Try.underlying23 info3 rfl (by omega) rfl (Own.nil_ _ (w.heap.size + 3) 3 1) rfl HKR.out.1 (by simpa using HKR.out.2) (il_oneCell _) (by omega) (by omega) (by omega) ?_; intro D1 cd1 w1 ho1 hg1 _; rw [Nat.zero_add, List.nil_append] at ho1; rw [Nat.zero_add]; have N1 := hN.grown hg1 (by simp); have n1b := N1.cell 3; have f1b := N1.frozen 3)
  refine wp_world (fun U => Blk U (w.heap.size + 1) 26 [.bool false, .slice none 0 0, .slice none 0 0, .slice none 0 0] ∧ Blk U (w.heap.size + 2) 26 [.bool s.leaf, .slice K1 nk ck1, .slice V1 nv cv1, .slice D1 nd cd1] ∧ Own U (w.heap.size + 3) 9 1 K1 nk ck1 (sl s.keys) ∧ Own U (w.heap.size + 3) 9 1 V1 nv cv1 (sl s.vals) ∧ Own U (w.heap.size + 3) 3 1 D1 nd cd1 (il s.kids) ∧ Below w.heap.size w U)
    ⟨(hR.grown hg1 (by simp)).far (by simp <;> omega) _, N1.set_ 3 _, (oK.keep hg1 (by cases K1 <;> simp)).far (by simp <;> omega) _, (oV.keep hg1 (by cases V1 <;> simp)).far (by simp <;> omega) _, ho1.far (by simp <;> omega) _, (hU.grown hg1 hU.size (by simp)).setCell (by simp <;> omega) _⟩ ?_
  clear a1 n1 f1 HKR hA hR hN hU hsU ho1 hg1 N1 n1b f1b oK oV
  rintro U ⟨hR, hN, oK, oV, oD, hU⟩
  have rc := hR.cells
  have rf := hR.frees
  have nc := hN.cells
  have HNR : Hid (NdR U (w.heap.size + 3) s K1 nk ck1 V1 nv cv1 D1 nd cd1) := ⟨own_ls oK, own_ls oV, own_ls oD, HR.out.ksmall, HR.out.vsmall, kr, vr, dr⟩
  clear oK oV oD hz
  go_wp2
  have hB := (((hR.set_ 0 (.bool s.leaf)).set_ 1 (.slice K1 nk ck1)).set_ 2 (.slice V1 nv cv1)).set_ 3 (.slice D1 nd cd1)
  refine bodyPost_ret (results_cell_row rfl _ _ (w.heap.size + 1) 26 #[.bool s.leaf, .slice K1 nk ck1, .slice V1 nv cv1, .slice D1 nd cd1] (0, 0) _ rfl hB Try.underlying26 rfl (by rw [size26]; rfl)) rfl ?_
  exact ⟨K1, ck1, V1, cv1, D1, cd1, rfl, (((((HNR.out.far (by simp <;> omega) _).far (by simp <;> omega) _).far (by simp <;> omega) _).far (by simp <;> omega) _)).weak (by omega), (((hU.setCell (by simp <;> omega) _).setCell (by simp <;> omega) _).setCell (by simp <;> omega) _).setCell (by simp <;> omega) _⟩

set_option maxHeartbeats 1000000 in
theorem nsame_any (s t : Nd) {w : World} {lo lo2 : Nat} {K V D K2 V2 D2 : Option Addr} {nk ck nv cv nd cd nk2 ck2 nv2 cv2 nd2 cd2 : Nat} (h : NdR w lo s K nk ck V nv cv D nd cd) (h2 : NdR w lo2 t K2 nk2 ck2 V2 nv2 cv2 D2 nd2 cd2) :
    Calls Try.prog 16 #[.agg #[.bool s.leaf, .slice K nk ck, .slice V nv cv, .slice D nd cd], .agg #[.bool t.leaf, .slice K2 nk2 ck2, .slice V2 nv2 cv2, .slice D2 nd2 cd2]] w fun e w' => e = .returned (.bool (decide (s = t))) ∧ Below w.heap.size w w' := by
  have hb : Below w.heap.size w ((w.alloc (.cells #[.bool s.leaf, .slice K nk ck, .slice V nv cv, .slice D nd cd] 26)).alloc (.cells #[.bool t.leaf, .slice K2 nk2 ck2, .slice V2 nv2 cv2, .slice D2 nd2 cd2] 25)) := ((Below.refl _ _).alloc (Nat.le_refl _) _).alloc (by simp) _
  have R1 := Lib.hid (h.below hb (Nat.le_refl _))
  have R2 := Lib.hid (h2.below hb (Nat.le_refl _))
  have HE : Hid (decide (s = t) = ((s.leaf == t.leaf) && decide (s.keys = t.keys) && decide (s.vals = t.vals) && decide (s.kids = t.kids))) := by
    show _ = _
    obtain ⟨a, b, c, d⟩ := s
    obtain ⟨a', b', c', d'⟩ := t
    rw [Bool.eq_iff_iff]
    simp [and_assoc]
  clear h h2
  go_enter Try.func16, Try.ntmps16
  go_upto_region 1 with fail
  refine wp_world (fun U => Blk U w.heap.size 26 [.bool s.leaf, .slice K nk ck, .slice V nv cv, .slice D nd cd] ∧ Blk U (w.heap.size + 1) 25 [.bool t.leaf, .slice K2 nk2 ck2, .slice V2 nv2 cv2, .slice D2 nd2 cd2] ∧ Below w.heap.size w U ∧ NdR U lo s K nk ck V nv cv D nd cd ∧ NdR U lo2 t K2 nk2 ck2 V2 nv2 cv2 D2 nd2 cd2)
    ⟨(Blk.new w _ [.bool s.leaf, .slice K nk ck, .slice V nv cv, .slice D nd cd]).alloc _, Blk.new_at (cs := [.bool t.leaf, .slice K2 nk2 ck2, .slice V2 nv2 cv2, .slice D2 nd2 cd2]) (by simp), hb, R1.out, R2.out⟩ ?_
  clear R1 R2 hb
  rintro U ⟨hA, hB, hU, r1, r2⟩
  have ac := hA.cells
  have bc := hB.cells
  have R1 := Lib.hid r1
  have R2 := Lib.hid r2
  clear hA hB r1 r2
  have T1 := Lib.hid (texts_any R1.out.keys R2.out.keys)
  go_upto_region 2 with ((with_reducible refine Calls.mono T1.out ?_); rintro e w1 ⟨rfl, q1, rfl⟩)
  have T2 := Lib.hid (texts_any (R1.out.vals.drewN q1) (R2.out.vals.drewN q1))
  go_upto_region 3 with ((with_reducible refine Calls.mono T2.out ?_); rintro e w2 ⟨rfl, q2, rfl⟩)
  have T3 := Lib.hid (numbers_any (R1.out.kids.drewN (q1 + q2)) (R2.out.kids.drewN (q1 + q2)))
  go_upto_region 4 with ((with_reducible refine Calls.mono T3.out ?_); rintro e w3 ⟨rfl, q3, rfl⟩)
  generalize decide (s.keys = t.keys) = b1 at *
  generalize decide (s.vals = t.vals) = b2 at *
  generalize decide (s.kids = t.kids) = b3 at *
  have hq := below_drewN hU (q1 + q2 + q3)
  clear T1 T2 T3 R1 R2
  generalize s.leaf = l1 at *
  generalize t.leaf = l2 at *
  cases l1 <;> cases l2 <;> cases b1 <;> cases b2 <;> cases b3
  all_goals
    go_wp2
    go_ret
    exact ⟨by rw [HE.out]; rfl, hq⟩
end Go.Proofs.Ytnjpibbmgbiofaa
