/- What a disk says: Size, has, Read. No condition. -/
import Derived.Test.YtjndopmjlbhajaaDkM
import Derived.Deep.DeepCutAuto
namespace Go.Proofs.Ytjndopmjlbhajaa
open Go.RowKit Go.Maps

theorem rd_range {w : World} {lo b o : Nat} {xs : List Value} (h : Rd w lo (some ⟨b, o, none⟩) xs) : w.rangeAt b o xs := fun j v hv => by
  have hj : j < xs.length := (List.getElem?_eq_some_iff.1 hv).1
  obtain ⟨b', o', e, _, _, hc⟩ := h (by omega)
  injection e with e
  injection e with e1 e2
  subst e1 e2
  rw [hc j hj, ← hv, List.getElem?_eq_getElem hj]
theorem range_part {w : World} {b o : Nat} {xs ys zs : List Value} (h : w.rangeAt b o (xs ++ ys ++ zs)) : w.rangeAt b (o + xs.length) ys := fun j v hv => by
  have hj : j < ys.length := (List.getElem?_eq_some_iff.1 hv).1
  have := h (xs.length + j) v (by rw [List.append_assoc, List.getElem?_append_right (by omega), List.getElem?_append_left (by omega), show xs.length + j - xs.length = j by omega]; exact hv)
  rwa [← Nat.add_assoc] at this
theorem flatten_len {l : List (List UInt8)} (h : ∀ x ∈ l, x.length = 256) : l.flatten.length = l.length * 256 := by
  induction l with
  | nil => rfl
  | cons a l ih => rw [List.flatten_cons, List.length_append, ih (fun x hx => h x (by simp [hx])), h a (by simp), List.length_cons]; omega
/-- the last version of a sector -/
theorem Dk.last {w : World} {base : Nat} {d : Dw} {s : Dsk} (h : Dk w base d s) {k : Nat} (hk : k < s.n) (hv : 0 < (s.vers k).length) : ∃ b, (d.v k).A = some ⟨b, 0, none⟩ ∧ w.rangeAt b (((s.vers k).length - 1) * 256) (bvs (hasD s k)) := by
  obtain ⟨b, hA, _, _⟩ := (h.vers k hk).head hv
  refine ⟨b, hA, ?_⟩
  have ho := (h.vers k hk).rd
  rw [hA] at ho
  have hr := rd_range ho
  obtain ⟨ini, x, hx⟩ : ∃ ini x, s.vers k = ini ++ [x] := by
    have := List.eq_nil_or_concat (s.vers k)
    rcases this with h1 | ⟨l, b, h1⟩
    · rw [h1] at hv; simp at hv
    · exact ⟨l, b, by simpa using h1⟩
  have hl := (h.len k hk).2
  have hh : hasD s k = x := by unfold hasD; rw [hx]; simp
  rw [hh]
  rw [hx] at hr hl
  have e : bvs (ini ++ [x]).flatten = bvs ini.flatten ++ bvs x ++ [] := by simp [bvs]
  rw [e] at hr
  have := range_part hr
  rw [Nat.zero_add, length_bvs, flatten_len (fun y hy => hl y (by simp [hy]))] at this
  rw [hx, List.length_append]
  simpa using this
theorem hasD_len {w : World} {base : Nat} {d : Dw} {s : Dsk} (h : Dk w base d s) {k : Nat} (hk : k < s.n) : (hasD s k).length = 256 := by
  obtain ⟨h1, h2⟩ := h.len k hk
  unfold hasD
  cases hx : (s.vers k).getLast? with
  | none => exact h1
  | some x => exact h2 x (List.mem_of_getLast? hx)
theorem hasD_none {s : Dsk} {k : Nat} (h : (s.vers k).length = 0) : hasD s k = s.lies k := by
  unfold hasD
  rw [List.eq_nil_of_length_eq_zero h]
  rfl

theorem row_put {P : Program} {ops : Array Oper} {rest : List Oper} {o : Oper} {a : Act} {w : World} {Q : Exit → Act → World → Prop} (hgd : o.guard = none) (hds : o.dst = none) (ty : TypeId) (x y : Operand) (ho : o.op = .store ty x y)
    (g : Nat) (hx : a.eval x = .pointer (some ⟨g, 0, none⟩)) (cs : List Value) (hy : a.eval y = .agg cs.toArray) (t : TypeId) (old : List Value) (hg : Blk w g t old) (hi : (P.info? ty).map (·.size) = some cs.length)
    (hl : old.length = cs.length) (h1 : ∀ u ∈ cs, u.oneCell' = true)
    (h : ∀ w', Hid (Blk w' g t cs) → w.grownBy w' (some g) → wpList P ops Q rest a w') : wpList P ops Q (o :: rest) a w := by
  have hall : cs.toArray.all (·.oneCell') = true := by
    rw [Array.all_eq_true_iff_forall_mem]; intro v hv; exact h1 v (by simpa using hv)
  have hp : a.put o.dst undef = a := by rw [hds]; rfl
  refine wpList_store_row hgd ty x y ho g cs.toArray hx hy t old.toArray hg (by simpa using hi) (by simpa using hl) hall ?_
  rw [hp]
  exact h _ (show Blk _ _ _ _ from setRow_heap w g _ _ t _ hg) ⟨rfl, rfl, rfl, by simp, fun k _ hk => setRow_other w g k _ (fun e => hk (by rw [e]))⟩
theorem dsize_any {w : World} {base : Nat} {d : Dw} {s : Dsk} (h : Dk w base d s) :
    Calls Try.prog 52 #[.pointer (some ⟨d.g, 0, none⟩)] w fun e w' => e = .returned (.int .i64 s.n) ∧ w' = w := by
  have bc := h.blk.cells
  clear h
  go_enter Try.func52, Try.ntmps52
  go_wp2
  go_ret
  exact ⟨rfl, rfl⟩

theorem zero93 (w : World) : (zeroValue 100).run Try.prog w = .ok (.agg (bvs (List.replicate 256 0)).toArray) w := by kernel_rfl

set_option maxRecDepth 100000 in
set_option maxHeartbeats 2000000 in
theorem has_any {w : World} {base : Nat} {d : Dw} {s : Dsk} (h : Dk w base d s) {k : Nat} (hk : k < s.n) :
    Calls Try.prog 57 #[.pointer (some ⟨d.g, 0, none⟩), .int .i64 k] w fun e w' => e = .returned (.agg (bvs (hasD s k)).toArray) ∧ Below w.heap.size w w' := by
  have hz := zero93
  have HD := Lib.hid h
  have hs := h.small
  go_enter Try.func57, Try.ntmps57
  go_upto_region 1 with fail
  refine wp_world (fun U => Blk U w.heap.size 100 (bvs (List.replicate 256 0)) ∧ Below w.heap.size w U) ⟨Blk.new w _ _, (Below.refl _ _).alloc (Nat.le_refl _) _⟩ ?_
  rintro U ⟨hB, hU⟩
  have hD := h.below hU (Nat.le_refl _)
  have bc := hD.blk.cells
  have hlk := hD.look hk (w' := U) rfl
  have hB0 := Lib.hid hB
  have hL := Lib.hid (hasD_len h hk)
  clear hB h hz
  rcases Nat.eq_zero_or_pos (s.vers k).length with h0 | h0
  · have hr := hD.lies k hk
    have he := hasD_none h0
    rw [← he] at hr
    have HRg := Lib.hid hr
    rw [h0] at hlk
    have hkn : (k : Int) < (s.n : Int) := by omega
    clear hr he h0
    have HD2 := Lib.hid hD
    clear hD
    go_wp2_with (first
      | (((with_reducible refine wpList_load_mid (op := ⟨some 27, _, _, _, _, _⟩) ?_ 100 (.tmp 26) ?_ d.L (k * 256) ?_ (bvs (hasD s k)) _ ?_ Try.underlying100 ?_ ?_ ?_); rfl; rfl; (first | rfl | (go_simp; rfl)); exact HRg.out; rfl; (rw [info93]; simp [length_bvs, hL.out])))
      | (((with_reducible refine row_put (o := ⟨none, _, _, _, _, _⟩) ?_ ?_ 100 (.tmp 4) (.tmp 27) ?_ w.heap.size ?_ (bvs (hasD s k)) ?_ 100 (bvs (List.replicate 256 0)) ?_ ?_ ?_ ?_ ?_); rfl; rfl; rfl; rfl; rfl; exact hB0.out; (rw [info93]; simp [length_bvs, hL.out]); (simp [length_bvs, hL.out]); exact bvs_oneCell _; (intro w9 X9 g9))))
    refine bodyPost_ret (results_cell_row rfl _ w9 w.heap.size 100 _ (0, 0) _ rfl X9.out Try.underlying100 rfl (by rw [info93]; simp [length_bvs, hL.out])) rfl ?_
    exact ⟨rfl, hU.grown g9 hU.size (by intro k hk; cases hk; exact Nat.le_refl _)⟩
  · obtain ⟨b, hA, hr⟩ := hD.last hk h0
    have HRg := Lib.hid hr
    rw [hA] at hlk
    have hcap := (hD.vers k hk).cap
    have HD2 := Lib.hid hD
    clear hr hA hD
    obtain ⟨m, hm⟩ : ∃ m, (s.vers k).length = m + 1 := ⟨(s.vers k).length - 1, by omega⟩
    rw [hm] at hlk HRg hcap
    rw [show m + 1 - 1 = m by omega] at HRg
    clear h0 hm
    go_wp2_with (first
      | (((with_reducible refine wpList_load_mid (op := ⟨some 20, _, _, _, _, _⟩) ?_ 100 (.tmp 19) ?_ b (m * 256) ?_ (bvs (hasD s k)) _ ?_ Try.underlying100 ?_ ?_ ?_); rfl; rfl; (first | rfl | (go_simp; rfl)); exact HRg.out; rfl; (rw [info93]; simp [length_bvs, hL.out])))
      | (((with_reducible refine row_put (o := ⟨none, _, _, _, _, _⟩) ?_ ?_ 100 (.tmp 4) (.tmp 20) ?_ w.heap.size ?_ (bvs (hasD s k)) ?_ 100 (bvs (List.replicate 256 0)) ?_ ?_ ?_ ?_ ?_); rfl; rfl; rfl; rfl; rfl; exact hB0.out; (rw [info93]; simp [length_bvs, hL.out]); (simp [length_bvs, hL.out]); exact bvs_oneCell _; (intro w9 X9 g9))))
    refine bodyPost_ret (results_cell_row rfl _ w9 w.heap.size 100 _ (0, 0) _ rfl X9.out Try.underlying100 rfl (by rw [info93]; simp [length_bvs, hL.out])) rfl ?_
    exact ⟨rfl, hU.grown g9 hU.size (by intro k hk; cases hk; exact Nat.le_refl _)⟩

set_option maxRecDepth 100000 in
set_option maxHeartbeats 2000000 in
theorem dread_ok {w : World} {base : Nat} {d : Dw} {s : Dsk} (h : Dk w base d s) {k : Nat} (hk : k < s.n) :
    Calls Try.prog 31 #[.pointer (some ⟨d.g, 0, none⟩), .int .i64 k] w fun e w' => ∃ g, e = .returned (.tuple #[.slice (some ⟨g, 0, none⟩) 256 256, .int .i64 0]) ∧ Blk w' g 100 (bvs (hasD s k)) ∧ w.heap.size ≤ g ∧ Below w.heap.size w w' := by
  have hz := zero93
  have hs := h.small
  have hL := Lib.hid (hasD_len h hk)
  have bc := h.blk.cells
  have H1 := Lib.hid (has_any h hk)
  have hkn : (k : Int) < (s.n : Int) := by omega
  have hk0 : ¬ ((k : Int) < 0) := by omega
  have d1 : decide ((s.n : Int) ≤ (k : Int)) = false := decide_eq_false (by omega)
  clear h
  go_enter Try.func31, Try.ntmps31
  go_upto_region 4 with (first
    | ((with_reducible refine Calls.mono H1.out ?_); rintro e w1 ⟨rfl, hb1⟩)
    | (((with_reducible refine row_put (o := ⟨none, _, _, _, _, _⟩) ?_ ?_ 100 (.tmp 6) (.tmp 20) ?_ w1.heap.size ?_ (bvs (hasD s k)) ?_ 100 (bvs (List.replicate 256 0)) ?_ ?_ ?_ ?_ ?_); rfl; rfl; rfl; rfl; rfl; exact Blk.new w1 _ _; (rw [info93]; simp [length_bvs, hL.out]); (simp [length_bvs, hL.out]); exact bvs_oneCell _; (intro w9 X9 g9))))
  refine wp_world (fun U => Blk U w1.heap.size 100 (bvs (hasD s k)) ∧ Below w.heap.size w U) ⟨X9.out, (hb1.alloc hb1.size _).grown g9 (hb1.alloc hb1.size _).size (by intro k hk; cases hk; exact hb1.size)⟩ ?_
  rintro U ⟨hB, hU⟩
  have z1 := Lib.hid hb1.size
  clear X9 g9 hb1 H1 hz bc
  go_wp2
  go_ret2
  exact ⟨_, rfl, hB, z1.out, hU⟩
theorem dread_far {w : World} {base : Nat} {d : Dw} {s : Dsk} (h : Dk w base d s) {k : Int} (hk : k < 0 ∨ (s.n : Int) ≤ k) :
    Calls Try.prog 31 #[.pointer (some ⟨d.g, 0, none⟩), .int .i64 k] w fun e w' => e = .returned (.tuple #[.slice none 0 0, .int .i64 2]) ∧ w' = w := by
  have bc := h.blk.cells
  clear h
  by_cases h0 : k < 0
  · go_enter Try.func31, Try.ntmps31
    go_wp2
    go_ret2
    exact ⟨rfl, rfl⟩
  · have d1 : decide ((s.n : Int) ≤ k) = true := decide_eq_true (by omega)
    clear hk
    go_enter Try.func31, Try.ntmps31
    go_wp2
    go_ret2
    exact ⟨rfl, rfl⟩
end Go.Proofs.Ytjndopmjlbhajaa
