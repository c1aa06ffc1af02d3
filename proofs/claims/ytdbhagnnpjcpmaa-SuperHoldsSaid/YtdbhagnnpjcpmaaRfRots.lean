/- kistref08.turned. No condition. -/
import Derived.Test.YtdbhagnnpjcpmaaRfWrites
namespace Go.Proofs.Ytdbhagnnpjcpmaa
open Go.RowKit
set_option linter.unusedSimpArgs false
set_option linter.unusedVariables false

set_option maxRecDepth 100000 in
set_option maxHeartbeats 4000000 in
theorem turned_any {w : World} {lo c : Nat} {A : Option Addr} {l : List UInt8} (h : Bs w lo A 256 c l) {i : Nat} (hi : i < 2048) :
    Calls Try.prog 55 #[.slice A 256 c, .int .i64 i] w fun e w' => ∃ A' c', e = .returned (.slice A' 256 c') ∧ Own w' w.heap.size 5 1 A' 256 c' (bvs (flip l i)) ∧ Below w.heap.size w w' := by
  have H := Lib.hid h
  have hl := h.1
  have HL := Lib.hid hl
  clear h hl
  go_enter Try.func55, Try.ntmps55
  go_upto_region 3 with (at_builtin; refine wpList_app rfl (.tmp 6) (.tmp 7) 39 rfl 5 1 Try.underlying39 info5 rfl (by omega) rfl (Own.nil_ _ w.heap.size 5 1) rfl H.out.2.2.2 (by rw [length_bvs, HL.out]) (bvs_oneCell _) (by omega) (by omega) (Nat.le_refl _) ?_; intro A1 c1 w1 ho1 hg1 _; rw [Nat.zero_add, List.nil_append] at ho1; rw [Nat.zero_add])
  have hb1 := below_own (Below.refl w.heap.size w) (Own.nil_ _ w.heap.size 5 1) hg1 (Nat.le_refl _) (Nat.le_refl _)
  obtain ⟨g, rfl, hgb, hgl⟩ := ho1.head (by omega)
  obtain ⟨a, ha⟩ : ∃ a, a = i / 8 := ⟨_, rfl⟩
  obtain ⟨r, hr⟩ : ∃ r, r = i % 8 := ⟨_, rfl⟩
  have ha8 : a < 256 := by omega
  have hr8 : r < 8 := by omega
  have hyc : w1.cell? ⟨g, a, none⟩ = some (.int .u8 ((l.getD a 0).toNat : Int)) := by
    have := (own_bs ho1).cell a ha8
    rwa [Nat.zero_add] at this
  have hfz : w1.frozen? ⟨g, a, none⟩ = false := own_free ho1 a
  have hfl : flip l i = l.set a (UInt8.ofNat ((l.getD a 0).toNat ^^^ 2 ^ r)) := by unfold flip; rw [← ha, ← hr]
  obtain ⟨y, hy⟩ : ∃ y, y = l.getD a 0 := ⟨_, rfl⟩
  rw [← hy] at hyc hfl
  have q3 : (i : Int) / 8 = (a : Int) := by omega
  have q4 : (i : Int) % 8 = (r : Int) := by omega
  have q5 : (a : Int) < 256 := by omega
  have q6 : IntKind.i64.wrap (a : Int) = (a : Int) := IntWalk.i64_in _ (by omega)
  have q8 : (i : Int).tmod 8 = (r : Int) := by rw [Int.tmod_eq_emod_of_nonneg (by omega)]; exact q4
  have q9 : (i : Int).tdiv 8 = (a : Int) := by rw [Int.tdiv_eq_ediv_of_nonneg (by omega)]; exact q3
  have q7 : IntKind.i64.wrap (r : Int) = (r : Int) := IntWalk.i64_in _ (by omega)
  have HFl := Lib.hid hfl
  have HO := Lib.hid ho1
  have HB := Lib.hid hb1
  clear ha hr hy hfl ho1 hb1 hg1
  have hyd : w1.drew.cell? ⟨g, a, none⟩ = some (.int .u8 (y.toNat : Int)) := hyc
  refine wp_region_last (S := fun w' => w'.cell? ⟨g, a, none⟩ = some (.int .u8 (y.toNat : Int))) 13 (by kernel_rfl) rfl (by kernel_rfl) ?_ ?_
  · exact hyd
  intro hHeld
  simp only [List.take_succ_cons, List.take_zero]
  refine wpAnyH_take (i := 0) (v := ?_) (by simp only [List.getElem?_toArray, List.getElem?_cons_succ, List.getElem?_cons_zero]; rfl) (by kernel_rfl) (by kernel_rfl) (by kernel_rfl) (fun _ _ _ h => h) (Or.inl ⟨by rfl, ?_⟩) hHeld ?_
  rotate_left
  · intro wz hSw; (try dsimp only at hSw); go_simp; try with_reducible rfl
  (try simp only [Act.put, List.setIfInBounds_toArray, List.set_cons_zero, List.set_cons_succ])
  refine wpAnyH_take (i := 1) (v := ?_) (by simp only [List.getElem?_toArray, List.getElem?_cons_succ, List.getElem?_cons_zero]; rfl) (by kernel_rfl) (by kernel_rfl) (by kernel_rfl) (fun _ _ _ h => h) (Or.inl ⟨by rfl, ?_⟩) hHeld ?_
  rotate_left
  · intro wz hSw; (try dsimp only at hSw); go_simp; try with_reducible rfl
  (try simp only [Act.put, List.setIfInBounds_toArray, List.set_cons_zero, List.set_cons_succ])
  refine wpAnyH_take (i := 2) (v := ?_) (by simp only [List.getElem?_toArray, List.getElem?_cons_succ, List.getElem?_cons_zero]; rfl) (by kernel_rfl) (by kernel_rfl) (by kernel_rfl) (fun _ _ _ h => h) (Or.inl ⟨by rfl, ?_⟩) hHeld ?_
  rotate_left
  · intro wz hSw; (try dsimp only at hSw); go_simp; try with_reducible rfl
  (try simp only [Act.put, List.setIfInBounds_toArray, List.set_cons_zero, List.set_cons_succ])
  refine wpAnyH_take (i := 3) (v := ?_) (by simp only [List.getElem?_toArray, List.getElem?_cons_succ, List.getElem?_cons_zero]; rfl) (by kernel_rfl) (by kernel_rfl) (by kernel_rfl) (fun _ _ _ h => h) (Or.inl ⟨by rfl, ?_⟩) hHeld ?_
  rotate_left
  · intro wz hSw; (try dsimp only at hSw); go_simp; try with_reducible rfl
  (try simp only [Act.put, List.setIfInBounds_toArray, List.set_cons_zero, List.set_cons_succ])
  refine wpAnyH_take (i := 4) (v := ?_) (by simp only [List.getElem?_toArray, List.getElem?_cons_succ, List.getElem?_cons_zero]; rfl) (by kernel_rfl) (by kernel_rfl) (by kernel_rfl) (fun _ _ _ h => h) (Or.inl ⟨by rfl, ?_⟩) hHeld ?_
  rotate_left
  · intro wz hSw; (try dsimp only at hSw); go_simp; try with_reducible rfl
  (try simp only [Act.put, List.setIfInBounds_toArray, List.set_cons_zero, List.set_cons_succ])
  refine wpAnyH_take (i := 5) (v := ?_) (by simp only [List.getElem?_toArray, List.getElem?_cons_succ, List.getElem?_cons_zero]; rfl) (by kernel_rfl) (by kernel_rfl) (by kernel_rfl) (fun _ _ _ h => h) (Or.inl ⟨by rfl, ?_⟩) hHeld ?_
  rotate_left
  · intro wz hSw; (try dsimp only at hSw); go_simp; try with_reducible rfl
  (try simp only [Act.put, List.setIfInBounds_toArray, List.set_cons_zero, List.set_cons_succ])
  refine wpAnyH_take (i := 6) (v := ?_) (by simp only [List.getElem?_toArray, List.getElem?_cons_succ, List.getElem?_cons_zero]; rfl) (by kernel_rfl) (by kernel_rfl) (by kernel_rfl) (fun _ _ _ h => h) (Or.inl ⟨by rfl, ?_⟩) hHeld ?_
  rotate_left
  · intro wz hSw; (try dsimp only at hSw); go_simp; try with_reducible rfl
  (try simp only [Act.put, List.setIfInBounds_toArray, List.set_cons_zero, List.set_cons_succ])
  refine wpAnyH_take (i := 7) (v := ?_) (by simp only [List.getElem?_toArray, List.getElem?_cons_succ, List.getElem?_cons_zero]; rfl) (by kernel_rfl) (by kernel_rfl) (by kernel_rfl) (fun _ _ _ h => h) (Or.inl ⟨by rfl, ?_⟩) hHeld ?_
  rotate_left
  · intro wz hSw; (try dsimp only at hSw); go_simp; try with_reducible rfl
  (try simp only [Act.put, List.setIfInBounds_toArray, List.set_cons_zero, List.set_cons_succ])
  refine wpAnyH_take (i := 8) (v := ?_) (by simp only [List.getElem?_toArray, List.getElem?_cons_succ, List.getElem?_cons_zero]; rfl) (by kernel_rfl) (by kernel_rfl) (by kernel_rfl) (fun _ _ _ h => h) (Or.inl ⟨by rfl, ?_⟩) hHeld ?_
  rotate_left
  · intro wz hSw; (try dsimp only at hSw); go_simp; try with_reducible rfl
  (try simp only [Act.put, List.setIfInBounds_toArray, List.set_cons_zero, List.set_cons_succ])
  refine wpAnyH_take (i := 9) (v := ?_) (by simp only [List.getElem?_toArray, List.getElem?_cons_succ, List.getElem?_cons_zero]; rfl) (by kernel_rfl) (by kernel_rfl) (by kernel_rfl) (fun _ _ _ h => h) (Or.inl ⟨by rfl, ?_⟩) hHeld ?_
  rotate_left
  · intro wz hSw; (try dsimp only at hSw); go_simp; try with_reducible rfl
  (try simp only [Act.put, List.setIfInBounds_toArray, List.set_cons_zero, List.set_cons_succ])
  refine wpAnyH_take (i := 10) (v := ?_) (by simp only [List.getElem?_toArray, List.getElem?_cons_succ, List.getElem?_cons_zero]; rfl) (by kernel_rfl) (by kernel_rfl) (by kernel_rfl) (fun _ _ _ h => h) (Or.inl ⟨by rfl, ?_⟩) hHeld ?_
  rotate_left
  · intro wz hSw; (try dsimp only at hSw); go_simp; try with_reducible rfl
  (try simp only [Act.put, List.setIfInBounds_toArray, List.set_cons_zero, List.set_cons_succ])
  refine wpAnyH_take (i := 11) (v := ?_) (by simp only [List.getElem?_toArray, List.getElem?_cons_succ, List.getElem?_cons_zero]; rfl) (by kernel_rfl) (by kernel_rfl) (by kernel_rfl) (fun _ _ _ h => h) (Or.inl ⟨by rfl, ?_⟩) hHeld ?_
  rotate_left
  · intro wz hSw; (try dsimp only at hSw); go_simp; try with_reducible rfl
  (try simp only [Act.put, List.setIfInBounds_toArray, List.set_cons_zero, List.set_cons_succ])
  refine wpAnyH_take (i := 12) (v := ?_) (by simp only [List.getElem?_toArray, List.getElem?_cons_succ, List.getElem?_cons_zero]; rfl) (by kernel_rfl) (by kernel_rfl) (by kernel_rfl) (fun _ _ _ h => h) (Or.inl ⟨by rfl, ?_⟩) hHeld ?_
  rotate_left
  · intro wz hSw; (try dsimp only at hSw); go_simp; try with_reducible rfl
  (try simp only [Act.put, List.setIfInBounds_toArray, List.set_cons_zero, List.set_cons_succ])
  refine wpAnyH_done (by kernel_rfl) ?_ _
  simp only [lastQ]
  go_simp
  clear hHeld
  go_upto_region 4 with fail
  rw [IntKind.wrap_u8, flip_val y r hr8]
  have ho2 := (HO.out.set_ a (bv (UInt8.ofNat (y.toNat ^^^ 2 ^ r)))).drew
  rw [bvs_set, ← HFl.out] at ho2
  have hb2 := (HB.out.setCell (show w.heap.size ≤ (⟨g, a, none⟩ : Addr).block from hgb) (bv (UInt8.ofNat (y.toNat ^^^ 2 ^ r)))).drew
  have HO2 := Lib.hid ho2
  have HB2 := Lib.hid hb2
  clear ho2 hb2 hyd hyc hfz HO HB
  generalize (w1.setCell ⟨g, a, none⟩ (bv (UInt8.ofNat (y.toNat ^^^ 2 ^ r)))).drew = w6 at *
  go_wp2
  go_ret
  exact ⟨_, c1, rfl, HO2.out, HB2.out⟩
end Go.Proofs.Ytdbhagnnpjcpmaa
namespace Go.Proofs.Ytdbhagnnpjcpmaa
open Go.RowKit
set_option linter.unusedSimpArgs false
set_option linter.unusedVariables false

theorem upd_rot (s : Dsk) (k i : Nat) : updD s k (flip (s.lies k) i) ((s.vers k).map fun x => flip x i) = rotD s k i := by
  unfold rotD
  refine dsk_ext rfl ?_ ?_ rfl rfl
  · funext j
    rfl
  · funext j
    show (if j = k then _ else s.vers j) = (if j = k then _ else s.vers j)
    by_cases e : j = k
    · rw [if_pos e, if_pos e, List.take_length, List.drop_length, List.append_nil]
    · rw [if_neg e, if_neg e]
set_option maxHeartbeats 1000000 in
theorem rrot_far {w : World} {base : Nat} {r : Rw} {s : Dsk} (h : Rk w base r s) {k : Int} (hk : k < 0 ∨ 2048 * (s.n : Int) ≤ k) :
    Calls Try.prog 23 #[.pointer (some ⟨r.g, 0, none⟩), .int .i64 k] w fun e w' => e = .returned (.int .i64 2) ∧ w' = w := by
  have bc := h.blk.cells
  have hs := h.small
  clear h
  by_cases h0 : k < 0
  · go_enter Try.func23, Try.ntmps23
    go_wp2
    go_ret
    exact ⟨rfl, rfl⟩
  · have h1 : 2048 * (s.n : Int) ≤ k := by omega
    go_enter Try.func23, Try.ntmps23
    go_wp2
    go_ret
    exact ⟨rfl, rfl⟩
set_option maxRecDepth 100000 in
set_option maxHeartbeats 8000000 in
theorem rrot_ok {w : World} {base : Nat} {r : Rw} {s : Dsk} (h : Rk w base r s) {k i : Nat} (hk : k < s.n) (hi : i < 2048) (hv : (s.vers k).length < 1099511627776) :
    Calls Try.prog 23 #[.pointer (some ⟨r.g, 0, none⟩), .int .i64 ((k * 2048 + i : Nat) : Int)] w fun e w' => e = .returned (.int .i64 0) ∧ ∃ r', Rch w w' base r r' s.n (rotD s k i) := by
  have bc := h.blk.cells
  obtain ⟨b, hA, hrg⟩ := h.range hk
  have hz := zero102
  have hs := h.small
  have hkn : (k : Int) < (s.n : Int) := by omega
  have hkl : k * 2 + 2 ≤ s.n * 2 := by omega
  rw [hA] at bc
  have HN : Hid (Blk (w.alloc (.cells #[.slice none 0 0, .slice none 0 0] 92)) w.heap.size 92 [.slice none 0 0, .slice none 0 0]) := Lib.hid (Blk.new w _ [.slice none 0 0, .slice none 0 0])
  have HR := Lib.hid hrg
  have H := Lib.hid h
  have HA := Lib.hid hA
  have HV := Lib.hid hv
  have T1 := turned_any (own_bs (h.lies k hk)) hi
  obtain ⟨bit, hbit⟩ : ∃ bit, bit = k * 2048 + i := ⟨_, rfl⟩
  rw [← hbit]
  have q1 : (bit : Int) / 2048 = (k : Int) := by omega
  have q2 : (bit : Int) % 2048 = (i : Int) := by omega
  have d1 : decide ((2048 : Int) * (s.n : Int) ≤ (bit : Int)) = false := decide_eq_false (by omega)
  have hb0 : bit ≤ 8388608 := by omega
  have q10 : IntKind.i64.wrap (k : Int) = (k : Int) := IntWalk.i64_in _ (by omega)
  clear h hA hrg hbit hv T1
  obtain ⟨gr, hgr⟩ : ∃ gr, gr = r.g := ⟨_, rfl⟩
  rw [← hgr] at bc ⊢
  have HGr := Lib.hid hgr
  clear hgr
  go_enter Try.func23, Try.ntmps23
  go_upto_region 4 with (first
    | (((with_reducible refine wpList_load_mid (op := ⟨some 27, _, _, _, _, _⟩) ?_ 92 (.tmp 26) ?_ b (k * 2) ?_ [.slice (r.v k).lA 256 (r.v k).lc, .slice (r.v k).vA (s.vers k).length (r.v k).vc] _ ?_ Try.underlying92 ?_ ?_ ?_); rfl; rfl; (first | rfl | (go_simp; rfl)); exact HR.out; rfl; (rw [size102]; rfl)))
    | (((with_reducible refine row_put (o := ⟨none, _, _, _, _, _⟩) ?_ ?_ 92 (.tmp 5) (.tmp 27) ?_ w.heap.size ?_ [.slice (r.v k).lA 256 (r.v k).lc, .slice (r.v k).vA (s.vers k).length (r.v k).vc] ?_ 92 [.slice none 0 0, .slice none 0 0] ?_ ?_ ?_ ?_ ?_); rfl; rfl; rfl; rfl; rfl; exact HN.out; (rw [size102]; rfl); rfl; exact two_one _ _ _ _ _ _; (intro w9 X9 g9))))
  have hb9 : Below w.heap.size w w9 := ((Below.refl _ _).alloc (Nat.le_refl _) _).grown g9 (by simp) (by intro k hk; cases hk; exact Nat.le_refl _)
  obtain ⟨gx, hgx⟩ : ∃ gx, gx = w.heap.size := ⟨_, rfl⟩
  have X9b := X9.out
  rw [← hgx] at X9b
  rw [← hgx]
  have h9 := H.out.below hb9 (Nat.le_refl _)
  have hz9 := hb9.size
  have c0 := X9b.cell 0
  simp only [List.getElem?_cons_zero, List.getElem?_cons_succ] at c0
  have T1 := Lib.hid (turned_any (own_bs (h9.lies k hk)) hi)
  have HB9 := Lib.hid hb9
  have HX9 := Lib.hid X9b
  have HGx := Lib.hid hgx
  have hgl := X9b.lt
  clear X9 X9b hb9 h9 HN HR g9 bc hz hgx
  go_upto_region 5 with ((with_reducible refine Calls.mono T1.out ?_); rintro e w1 ⟨A1, c1, rfl, ho1, hb1⟩; have bx1 := (HX9.out.below hb1 hgl).cells; have fx1 := (HX9.out.below hb1 hgl).frees)
  have hX1 := (HX9.out.below hb1 hgl).set_ 0 (.slice A1 256 c1)
  simp only [List.set_cons_zero] at hX1
  have hb1w := HB9.out.trans (hb1.mono HB9.out.size)
  have hgw : w.heap.size ≤ gx := by have := HGx.out; omega
  have hb2 : Below w.heap.size w (w1.setCell ⟨gx, 0, none⟩ (.slice A1 256 c1)) := hb1w.setCell (show w.heap.size ≤ (⟨gx, 0, none⟩ : Addr).block from hgw) _
  have ho2 : Own (w1.setCell ⟨gx, 0, none⟩ (.slice A1 256 c1)) w.heap.size 5 1 A1 256 c1 (bvs (flip (s.lies k) i)) := by
    have K : Kept (fun y => y = gx) w1 (w1.setCell ⟨gx, 0, none⟩ (.slice A1 256 c1)) := ⟨rfl, rfl, rfl, by simp, fun y _ hn => Below.heap_setCell w1 _ _ y hn⟩
    exact own_kept (ho1.weak HB9.out.size) K (fun y hy e => blk_own_ne (HX9.out.below hb1 hgl) ho1 (by decide) (by rw [hy, e]))
  refine wp_world (fun U => Blk U gx 92 [.slice A1 256 c1, .slice (r.v k).vA (s.vers k).length (r.v k).vc] ∧ Below w.heap.size w U ∧ Own U w.heap.size 5 1 A1 256 c1 (bvs (flip (s.lies k) i))) ⟨hX1, hb2, ho2⟩ ?_
  clear bx1 fx1 hX1 hb1w hb2 ho2 ho1 hb1 T1 HX9 HB9 c0
  rintro U ⟨hX, hB, hO⟩
  obtain ⟨V, hV⟩ : ∃ V, V = (s.vers k).length := ⟨_, rfl⟩
  rw [← hV] at hX HV
  have hV9 := HV.out
  have HVe := Lib.hid hV
  have HX := Lib.hid hX
  have HB := Lib.hid hB
  have HO := Lib.hid hO
  clear hX hB hO hV
  go_wp2
  go_loopw [6, 7] (fun s6 s7 wr => ∃ (j : Nat) (Al : Option Addr) (cl : Nat) (vl : List Value), j ≤ V ∧ s7 = .int .i64 j ∧ s6 = .slice Al j cl ∧ Own wr w.heap.size 39 1 Al j cl vl ∧ SlO wr w.heap.size vl (((s.vers k).take j).map fun x => flip x i) ∧
      Blk wr gx 92 [.slice A1 256 c1, .slice (r.v k).vA V (r.v k).vc] ∧ Below w.heap.size w wr ∧ Own wr w.heap.size 5 1 A1 256 c1 (bvs (flip (s.lies k) i))) (fun _ s7 _ => V - (intOf s7).toNat)
  case atStart => exact ⟨0, none, 0, [], by omega, rfl, rfl, Own.nil_ _ _ _ _, .nil, HX.out, HB.out, HO.out⟩
  case round =>
    clear HX HB HO
    obtain ⟨j, Al, cl, vl, hj, rfl, rfl, hol, hsl, hX, hB, hO⟩ := hrel
    have bx := hX.cells
    have fx := hX.frees
    by_cases hlt : j < V
    · have hR := H.out.below hB (Nat.le_refl _)
      obtain ⟨bv_, Ax, cx, hvA, hvc, hvo⟩ := hR.verAt hk (q := j) (by rw [← HVe.out]; exact hlt)
      rw [hvA] at bx
      have T1 := Lib.hid (turned_any (own_bs hvo) hi)
      have hjI : (j : Int) < (V : Int) := by omega
      have hstep : ((s.vers k).take (j + 1)).map (fun x => flip x i) = ((s.vers k).take j).map (fun x => flip x i) ++ [flip ((s.vers k).getD j []) i] := by
        rw [List.take_succ_eq_append_getElem (by rw [← HVe.out]; exact hlt), List.map_append, List.getD_eq_getElem?_getD, List.getElem?_eq_getElem (by rw [← HVe.out]; exact hlt)]
        rfl
      have HSt := Lib.hid hstep
      have HOl := Lib.hid hol
      have HSl := Lib.hid hsl
      have HX := Lib.hid hX
      have HB := Lib.hid hB
      have HO := Lib.hid hO
      have HvA := Lib.hid hvA
      have hgl2 := hX.lt
      clear hR hvo hol hsl hX hB hO hstep hvA
      go_upto_region 8 with (first
        | ((with_reducible refine Calls.mono T1.out ?_); rintro e w3 ⟨A3, c3, rfl, ho3, hb3⟩; have hb4 : Below wr.heap.size wr (w3.alloc (.cells #[.slice A3 256 c3] 39)) := hb3.alloc hb3.size _; have hol4 := HOl.out.below hb4 (Nat.le_refl _); have hzB := HB.out.size; have hz4 := hb4.size; have HOl4 := Lib.hid hol4; have HO3 := Lib.hid (ho3.alloc (.cells #[.slice A3 256 c3] 39)); have HB4 := Lib.hid hb4; clear ho3 hb3 hb4 hol4)
        | (at_builtin; refine wpList_app rfl (.tmp 41) (.tmp 50) 90 rfl 39 1 Try.underlying90 info33r rfl (by omega) rfl HOl4.out rfl (rd_one (.slice A3 256 c3) 39 rfl) rfl (by intro u hu; rw [List.mem_singleton] at hu; rw [hu]; rfl) (by omega) (by omega) (by omega) ?_; intro A5 c5 w5 ho5 hg5 hf5))
      have hx4 := HX.out.below HB4.out hgl2
      have hx5 := hx4.grown hg5 (fun e => blk_own_ne hx4 HOl4.out (by decide) e.symm)
      have hb5 : Below w.heap.size w w5 := below_own (HB.out.trans (HB4.out.mono hzB)) HOl4.out hg5 (Nat.le_refl _) (by omega)
      have ho5' := (HO.out.below HB4.out (Nat.le_refl _)).keep hg5 (own_types (HO.out.below HB4.out (Nat.le_refl _)) HOl4.out (by decide))
      have hs4 := all2_append (SlO.one (HO3.out.weak hzB)) (HSl.out.below HB4.out (Nat.le_refl _))
      have hs5 := SlO.keep hs4 HOl4.out (by decide) hg5
      rw [← HSt.out] at hs5
      have X5 := Lib.hid hx5
      have B5 := Lib.hid hb5
      have O5 := Lib.hid ho5'
      have S5 := Lib.hid hs5
      have L5 := Lib.hid ho5
      clear hx4 hx5 hb5 ho5' hs4 hs5 ho5 hg5 hf5 HOl4 HO3 HB4 hzB hz4 HX HB HO HOl HSl
      go_wp2
      go_roundw
      case rel => exact ⟨j + 1, A5, c5, _, by omega, by norm_cast, rfl, L5.out, S5.out, X5.out, B5.out, O5.out⟩
      case measure => simp only [intOf]; omega
    · obtain rfl : j = V := by omega
      have hjV : ¬ (j : Int) < (j : Int) := by omega
      have hX2 := hX.set_ 1 (.slice Al j cl)
      simp only [List.set_cons_zero, List.set_cons_succ] at hX2
      have hgw2 : w.heap.size ≤ gx := hgw
      have hB2 := hB.setCell (show w.heap.size ≤ (⟨gx, 1, none⟩ : Addr).block from hgw) (.slice Al j cl)
      have K : Kept (fun y => y = gx) wr (wr.setCell ⟨gx, 1, none⟩ (.slice Al j cl)) := ⟨rfl, rfl, rfl, by simp, fun y _ hn => Below.heap_setCell wr _ _ y hn⟩
      have hO2 := own_kept hO K (fun y hy e => blk_own_ne hX hO (by decide) (by rw [hy, e]))
      have hol2 := own_kept hol K (fun y hy e => blk_own_ne hX hol (by decide) (by rw [hy, e]))
      have hsl2 := slo_kept hsl K (fun A n c l y ho hy e => blk_own_ne hX ho (by decide) (by rw [hy, e]))
      have HX := Lib.hid hX2
      have HB := Lib.hid hB2
      have HO := Lib.hid hO2
      have HOl := Lib.hid hol2
      have HSl := Lib.hid hsl2
      clear hX2 hB2 K hO2 hol2 hsl2 hX hB hO hol hsl
      go_upto_region 11 with fail
      generalize wr.setCell ⟨gx, 1, none⟩ (.slice Al j cl) = W at *
      have hbd : Below w.heap.size w W.drew := HB.out.drew
      have hRd := H.out.below hbd (Nat.le_refl _)
      have bg := hRd.blk.cell 0
      rw [HA.out, ← HGr.out] at bg
      have hXr : W.drew.rangeAt gx 0 [.slice A1 256 c1, .slice Al j cl] := fun q v hv => by
        rw [Nat.zero_add, show W.drew.cell? ⟨gx, q, none⟩ = _ from HX.out.cell q]; exact hv
      obtain ⟨b', hb', _, _, f0, f1⟩ := hRd.cell hk
      rw [HA.out] at hb'
      injection hb' with hb'
      injection hb' with hb'
      subst hb'
      have hcells := hRd.cell hk
      have hth : W.drew.there b (k * 2) 2 := fun q hq => by
        obtain ⟨b2, e2, x1, x2, x3, x4⟩ := hcells
        rw [HA.out] at e2
        injection e2 with e2
        injection e2 with e2
        subst e2
        match q, hq with
        | 0, _ => exact ⟨by rw [Nat.add_zero, x1]; rfl, x3⟩
        | 1, _ => exact ⟨by rw [x2]; rfl, x4⟩
      have bg' : W.drew.cell? ⟨gr, 0, none⟩ = some (.slice (some ⟨b, 0, none⟩) s.n r.c) := bg
      clear bg hcells f0 f1 bx fx
      refine wp_region_last (S := fun w' => w'.cell? ⟨gr, 0, none⟩ = some (.slice (some ⟨b, 0, none⟩) s.n r.c) ∧ w'.rangeAt gx 0 [.slice A1 256 c1, .slice Al j cl]) 8 (by kernel_rfl) rfl (by kernel_rfl) ?_ ?_
      · exact ⟨bg', hXr⟩
      intro hHeld
      simp only [List.take_succ_cons, List.take_zero]
      refine wpAnyH_take (i := 0) (v := ?_) (by simp only [List.getElem?_toArray, List.getElem?_cons_succ, List.getElem?_cons_zero]; rfl) (by kernel_rfl) (by kernel_rfl) (by kernel_rfl) (fun _ _ _ h => h) (Or.inl ⟨by rfl, ?_⟩) hHeld ?_
      rotate_left
      · intro wz hSw; (try dsimp only at hSw); go_simp; try with_reducible rfl
      (try simp only [Act.put, List.setIfInBounds_toArray, List.set_cons_zero, List.set_cons_succ])
      refine wpAnyH_take (i := 1) (v := ?_) (by simp only [List.getElem?_toArray, List.getElem?_cons_succ, List.getElem?_cons_zero]; rfl) (by kernel_rfl) (by kernel_rfl) (by kernel_rfl) (fun _ _ _ h => h) (Or.inl ⟨by rfl, ?_⟩) hHeld ?_
      rotate_left
      · intro wz hSw; (try dsimp only at hSw); go_simp; try with_reducible rfl
      (try simp only [Act.put, List.setIfInBounds_toArray, List.set_cons_zero, List.set_cons_succ])
      refine wpAnyH_take (i := 2) (v := ?_) (by simp only [List.getElem?_toArray, List.getElem?_cons_succ, List.getElem?_cons_zero]; rfl) (by kernel_rfl) (by kernel_rfl) (by kernel_rfl) (fun _ _ _ h => h) (Or.inl ⟨by rfl, ?_⟩) hHeld ?_
      rotate_left
      · intro wz hSw; (try dsimp only at hSw); go_simp; try with_reducible rfl
      (try simp only [Act.put, List.setIfInBounds_toArray, List.set_cons_zero, List.set_cons_succ])
      refine wpAnyH_take (i := 3) (v := ?_) (by simp only [List.getElem?_toArray, List.getElem?_cons_succ, List.getElem?_cons_zero]; rfl) (by kernel_rfl) (by kernel_rfl) (by kernel_rfl) (fun _ _ _ h => h) (Or.inl ⟨by rfl, ?_⟩) hHeld ?_
      rotate_left
      · intro wz hSw; (try dsimp only at hSw); go_simp; try with_reducible rfl
      (try simp only [Act.put, List.setIfInBounds_toArray, List.set_cons_zero, List.set_cons_succ])
      refine wpAnyH_take (i := 4) (v := ?_) (by simp only [List.getElem?_toArray, List.getElem?_cons_succ, List.getElem?_cons_zero]; rfl) (by kernel_rfl) (by kernel_rfl) (by kernel_rfl) (fun _ _ _ h => h) (Or.inl ⟨by rfl, ?_⟩) hHeld ?_
      rotate_left
      · intro wz hSw; (try dsimp only at hSw); go_simp; try with_reducible rfl
      (try simp only [Act.put, List.setIfInBounds_toArray, List.set_cons_zero, List.set_cons_succ])
      refine wpAnyH_take (i := 5) (v := ?_) (by simp only [List.getElem?_toArray, List.getElem?_cons_succ, List.getElem?_cons_zero]; rfl) (by kernel_rfl) (by kernel_rfl) (by kernel_rfl) (fun _ _ _ h => h) (Or.inl ⟨by rfl, ?_⟩) hHeld ?_
      rotate_left
      · intro wz hSw; (try dsimp only at hSw); go_simp; try with_reducible rfl
      (try simp only [Act.put, List.setIfInBounds_toArray, List.set_cons_zero, List.set_cons_succ])
      refine wpAnyH_take (i := 6) (v := .agg #[.slice A1 256 c1, .slice Al j cl]) (by simp only [List.getElem?_toArray, List.getElem?_cons_succ, List.getElem?_cons_zero]; rfl) (by kernel_rfl) (by kernel_rfl) (by kernel_rfl) (fun _ _ _ h => h) (yieldsIf_load_mid (by rfl) 92 (.tmp 5) rfl gx 0 (by rfl) [.slice A1 256 c1, .slice Al j cl] _ (fun _ hS => hS.2) Try.underlying92 rfl (by rw [size102]; rfl)) hHeld ?_
      (try simp only [Act.put, List.setIfInBounds_toArray, List.set_cons_zero, List.set_cons_succ])
      refine wpAnyH_take (i := 7) (v := ?_) (by simp only [List.getElem?_toArray, List.getElem?_cons_succ, List.getElem?_cons_zero]; rfl) (by kernel_rfl) (by kernel_rfl) (by kernel_rfl) (fun _ _ _ h => h) (Or.inl ⟨by rfl, ?_⟩) hHeld ?_
      rotate_left
      · intro wz hSw; (try dsimp only at hSw); go_simp; try with_reducible rfl
      (try simp only [Act.put, List.setIfInBounds_toArray, List.set_cons_zero, List.set_cons_succ])
      refine wpAnyH_done (by kernel_rfl) ?_ _
      simp only [lastQ]
      refine wp_store_mid 92 (.tmp 61) (.tmp 60) rfl b (k * 2) #[.slice A1 256 c1, .slice Al j cl] (by first | rfl | (go_simp; rfl)) (by first | rfl | (go_simp; rfl)) hth (by rw [size102]; rfl) (all_oneCell_toArray (two_one _ _ _ _ _ _)) ?_
      (try simp only [Act.put, List.setIfInBounds_toArray, List.set_cons_zero, List.set_cons_succ])
      have hfin := H.out.both (w1 := W.drew) hk HA.out hbd (HO.out.drew.weak (by have := H.out.blk.lt; have := H.out.gb; omega)) (by rw [show (flip (s.lies k) i).length = (s.lies k).length from by unfold flip; rw [List.length_set]]; exact (H.out.len k hk).1) (vA := Al) (vc := cl) (vv := vl) (ls := (s.vers k).map fun x => flip x i) (by rw [List.length_map, ← HVe.out]; exact HOl.out.drew.weak (by have := H.out.blk.lt; have := H.out.gb; omega)) (by have h := HSl.out.weak (b := base) (by have := H.out.blk.lt; have := H.out.gb; omega); rw [HVe.out, List.take_length] at h; exact h) (fun y hy => by obtain ⟨z, hz, rfl⟩ := List.mem_map.1 hy; rw [show (flip z i).length = z.length from by unfold flip; rw [List.length_set]]; exact (H.out.len k hk).2 z hz) (fun q hq => .inr (HOl.out.blk hq).1)
      rw [upd_rot, List.length_map, ← HVe.out] at hfin
      have HF := Lib.hid hfin
      clear hfin hth hXr bg' hHeld hbd hRd HX HB HO HOl HSl
      have hset : W.drew.setCells b (k * 2) [.slice A1 256 c1, .slice Al j cl] = (W.drew.setCell ⟨b, k * 2, none⟩ (.slice A1 256 c1)).setCell ⟨b, k * 2 + 1, none⟩ (.slice Al j cl) := rfl
      rw [← hset] at HF
      clear hset
      generalize W.drew.setCells b (k * 2) [.slice A1 256 c1, .slice Al j cl] = W2 at *
      go_wp2
      go_ret
      exact ⟨rfl, _, HF.out⟩
end Go.Proofs.Ytdbhagnnpjcpmaa
