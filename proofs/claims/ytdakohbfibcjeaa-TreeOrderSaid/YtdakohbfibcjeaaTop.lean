/- tree.alone where it goes nowhere; tree.top of one part and of two. (Printed by gen_top.py.) No condition. -/
import Derived.Test.YtdakohbfibcjeaaCh
import Derived.Deep.RegionHeld3
namespace Go.Proofs.Ytdakohbfibcjeaa
open Go.RowKit Go.Maps
set_option linter.unusedSimpArgs false
set_option linter.unusedVariables false

set_option maxRecDepth 100000 in
set_option maxHeartbeats 4000000 in
theorem alone_any {w : World} {base N root : Nat} {p : TrS} {T : Nodes} {nd : Nd} (h : TrM w base p N T) (hT : T root = some nd) (hk : nd.leaf = true ∨ (nd.leaf = false ∧ 1 < nd.kids.length)) :
    Calls Try.prog 33 #[.pointer (some ⟨p.g, 0, none⟩), .int .i64 (root : Int)] w fun e w' => e = .returned (.tuple #[.int .i64 (root : Int), .int .i64 0]) ∧ ∃ p', TCh w w' base p p' N T := by
  have L0 := load_any (lv := 1) h hT (by omega)
  obtain ⟨gp, hgp⟩ : ∃ z, z = p.g := ⟨_, rfl⟩
  rw [← hgp] at L0
  rw [← hgp]
  have L := Lib.hid L0
  have HK := Lib.hid hk
  have hzn := zero26_
  clear L0 h hT hk hgp
  go_enter Try.func33, Try.ntmps33
  go_wp2
  go_loopw [1, 6] (fun s1 s6 wr => s1 = .int .i64 (root : Int) ∧ s6 = .int .i64 1 ∧ wr = w) (fun _ _ _ => 0)
  case atStart => exact ⟨rfl, rfl, rfl⟩
  case round =>
    obtain ⟨rfl, rfl, rfl⟩ := hrel
    go_upto_region 4 with ((with_reducible refine Calls.mono L.out ?_); rintro e w1 ⟨p1, lo1, K, nk, ck, V, nv, cv, D, ndd, cd, rfl, hc1, ho, hlo, hf1⟩)
    have hal : Below w1.heap.size w1 (w1.alloc (.cells #[.bool nd.leaf, .slice K nk ck, .slice V nv cv, .slice D ndd cd] 59)) := (Below.refl _ _).alloc (Nat.le_refl _) _
    obtain ⟨g7, hg7⟩ : ∃ z, z = w1.heap.size := ⟨_, rfl⟩
    rw [← hg7]
    have hB := Blk.new_at (w := w1) (t := 59) (cs := [.bool nd.leaf, .slice K nk ck, .slice V nv cv, .slice D ndd cd]) hg7
    have hC := hc1.below hal (Nat.le_refl _)
    have hdl := ho.nd_eq
    clear hal hg7 hc1 ho hlo hf1 L
    generalize (w1.alloc (.cells #[.bool nd.leaf, .slice K nk ck, .slice V nv cv, .slice D ndd cd] 59)) = U at *
    have b0 := hB.cell 0
    have b3 := hB.cell 3
    simp only [List.getElem?_cons_zero, List.getElem?_cons_succ] at b0 b3
    have HC := Lib.hid hC
    rcases HK.out with e | ⟨e, e2⟩
    · rw [e] at b0
      clear hB hC
      go_wp2
      go_ret2
      exact ⟨rfl, p1, HC.out⟩
    · rw [e] at b0
      have h3 : (1 : Int) < (ndd : Int) := by omega
      clear hB hC
      go_wp2
      go_ret2
      exact ⟨rfl, p1, HC.out⟩
/-- a root over parts -/
def topN (l : List (ByteArray × Nat)) : Nd := ⟨false, l.map (·.1), [], l.map (fun x => (x.2 : Int))⟩
def TopTo (w : World) (base : Nat) (p : TrS) (N : Nat) (T : Nodes) (s : Nd) (e : Ending) (w' : World) : Prop :=
  ∃ (n : Nat) (p' : TrS), e = .returned (.tuple #[.int .i64 (n : Int), .int .i64 0]) ∧ 50 ≤ n ∧ n < 50 + N ∧ T n = none ∧ TCh w w' base p p' N (updT T n (some s))
set_option maxRecDepth 100000 in
set_option maxHeartbeats 2000000 in
theorem top_one {w : World} {base N gl root : Nat} {p : TrS} {T : Nodes} {nd : Nd} {k : ByteArray} (h : TrM w base p N T) (hT : T root = some nd) (hk : nd.leaf = true ∨ (nd.leaf = false ∧ 1 < nd.kids.length)) (hg : Blk w gl 53 (ptC [(k, root)])) :
    Calls Try.prog 19 #[.pointer (some ⟨p.g, 0, none⟩), .slice (some ⟨gl, 0, none⟩) 1 1] w fun e w' => e = .returned (.tuple #[.int .i64 (root : Int), .int .i64 0]) ∧ ∃ p', TCh w w' base p p' N T := by
  have A0 := alone_any h hT hk
  obtain ⟨gp, hgp⟩ : ∃ z, z = p.g := ⟨_, rfl⟩
  rw [← hgp] at A0
  rw [← hgp]
  have A := Lib.hid A0
  have c1 : w.cell? ⟨gl, 1, none⟩ = some (.int .i64 (root : Int)) := hg.cell 1
  clear A0 h hT hk hg hgp
  go_enter Try.func19, Try.ntmps19
  go_wp2_with ((with_reducible refine Calls.mono A.out ?_); rintro e w1 ⟨rfl, p1, hc1⟩; have HC1 := Lib.hid hc1; clear hc1)
  clear A c1
  go_ret2
  exact ⟨rfl, p1, HC1.out⟩
set_option maxRecDepth 100000 in
set_option maxHeartbeats 8000000 in
theorem top_two {w : World} {base N gl r1 r2 : Nat} {p : TrS} {T : Nodes} {k1 k2 : ByteArray} (h : TrM w base p N T) (hr : Room N T 1) (hm : mayN (topN [(k1, r1), (k2, r2)])) (hg : Blk w gl 53 (ptC [(k1, r1), (k2, r2)])) :
    Calls Try.prog 19 #[.pointer (some ⟨p.g, 0, none⟩), .slice (some ⟨gl, 0, none⟩) 2 2] w (TopTo w base p N T (topN [(k1, r1), (k2, r2)])) := by
  obtain ⟨n0, hn0, hT0⟩ := Room.some_ (r := 0) hr
  obtain ⟨gp, hgp⟩ : ∃ z, z = p.g := ⟨_, rfl⟩
  have hzp := zeroPart
  have hzn := zero26_
  have H := Lib.hid h
  have HG := Lib.hid hg
  have hft : ∀ b, p.foot b → b < w.heap.size := fun b e => (h.foot_base b e).2
  have cells : ∀ W, Below w.heap.size w W → W.cell? ⟨gl, 0, none⟩ = some (.string k1) ∧ W.cell? ⟨gl, 2, none⟩ = some (.string k2) ∧ W.cell? ⟨gl, 1, none⟩ = some (.int .i64 (r1 : Int)) ∧ W.cell? ⟨gl, 3, none⟩ = some (.int .i64 (r2 : Int)) := fun W hW =>
    have b := hg.below hW hg.lt
    ⟨b.cell 0, b.cell 2, b.cell 1, b.cell 3⟩
  have call : ∀ W ka da, Below w.heap.size w W → Blk W ka 9 [.string k1, .string k2] → Blk W da 3 [.int .i64 (r1 : Int), .int .i64 (r2 : Int)] → Calls Try.prog 15 #[.pointer (some ⟨gp, 0, none⟩), .agg #[.bool false, .slice (some ⟨ka, 0, none⟩) 2 2, .slice none 0 0, .slice (some ⟨da, 0, none⟩) 2 2], .string .empty] W (SaveTo W base p N T (topN [(k1, r1), (k2, r2)]) .empty) := fun W ka da hW hk hd => by
    rw [hgp]
    refine save_any (s := topN [(k1, r1), (k2, r2)]) (lo := 0) (h.below hW (Nat.le_refl _)) hn0 hT0 hm (by simp [topN]) ⟨?_, Ls.nil_ _ _, ?_, (may_sm hm).1, (may_sm hm).2, by omega, by omega, by omega⟩
    · exact ⟨rfl, by omega, by omega, hk.rd0 (Nat.zero_le _)⟩
    · exact ⟨rfl, by omega, by omega, hd.rd0 (Nat.zero_le _)⟩
  have HCells := Lib.hid cells
  have HCall := Lib.hid call
  have HFt := Lib.hid hft
  rw [← hgp]
  clear h hg hr hm hT0 cells call hgp hft
  go_enter Try.func19, Try.ntmps19
  go_upto_region 6 with fail
  have s0 := HCells.out w.drew ((Below.refl _ _).drew)
  refine wp_region_noPanic ?_
  refine begin_L [(9, fun w' => w'.cell? ⟨gl, 0, none⟩ = some (.string k1) ∧ w'.cell? ⟨gl, 2, none⟩ = some (.string k2)), (18, fun w' => w'.cell? ⟨gl, 1, none⟩ = some (.int .i64 (r1 : Int)) ∧ w'.cell? ⟨gl, 3, none⟩ = some (.int .i64 (r2 : Int)))] (by kernel_rfl) ?_ ?_
  · intro x hx; simp only [List.mem_cons, List.mem_nil_iff, or_false] at hx; rcases hx with rfl | rfl; exact ⟨s0.1, s0.2.1⟩; exact ⟨s0.2.2.1, s0.2.2.2⟩
  intro hU
  try simp only [List.size_toArray, List.length_cons, List.length_nil]
  refine take_L [] (i := 0) (v := ?_) (by simp only [List.getElem?_toArray, List.getElem?_cons_succ, List.getElem?_cons_zero]; rfl) (by kernel_rfl) (by kernel_rfl) (by kernel_rfl) (by simp) (by kernel_rfl) (by kernel_rfl) (fun _ _ _ h => h) (Or.inl ⟨by rfl, ?_⟩) hU ?_
  rotate_left
  · intro wz hSw; (try simp only [AllOf, List.mem_cons, List.mem_nil_iff, or_false, forall_eq, forall_eq_or_imp] at hSw); go_simp; try with_reducible rfl
  clear hU; intro hU
  (try simp only [Act.put, List.setIfInBounds_toArray, List.set_cons_zero, List.set_cons_succ])
  refine take_L [] (i := 1) (v := ?_) (by simp only [List.getElem?_toArray, List.getElem?_cons_succ, List.getElem?_cons_zero]; rfl) (by kernel_rfl) (by kernel_rfl) (by kernel_rfl) (by simp) (by kernel_rfl) (by kernel_rfl) (fun _ _ _ h => h) (Or.inl ⟨by rfl, ?_⟩) hU ?_
  rotate_left
  · intro wz hSw; (try simp only [AllOf, List.mem_cons, List.mem_nil_iff, or_false, forall_eq, forall_eq_or_imp] at hSw); go_simp; try with_reducible rfl
  clear hU; intro hU
  (try simp only [Act.put, List.setIfInBounds_toArray, List.set_cons_zero, List.set_cons_succ])
  refine take_L [] (i := 2) (v := ?_) (by simp only [List.getElem?_toArray, List.getElem?_cons_succ, List.getElem?_cons_zero]; rfl) (by kernel_rfl) (by kernel_rfl) (by kernel_rfl) (by simp) (by kernel_rfl) (by kernel_rfl) (fun _ _ _ h => h) (Or.inl ⟨by rfl, ?_⟩) hU ?_
  rotate_left
  · intro wz hSw; (try simp only [AllOf, List.mem_cons, List.mem_nil_iff, or_false, forall_eq, forall_eq_or_imp] at hSw); go_simp; try with_reducible rfl
  clear hU; intro hU
  (try simp only [Act.put, List.setIfInBounds_toArray, List.set_cons_zero, List.set_cons_succ])
  refine take_L [] (i := 3) (v := ?_) (by simp only [List.getElem?_toArray, List.getElem?_cons_succ, List.getElem?_cons_zero]; rfl) (by kernel_rfl) (by kernel_rfl) (by kernel_rfl) (by simp) (by kernel_rfl) (by kernel_rfl) (fun _ _ _ h => h) (Or.inl ⟨by rfl, ?_⟩) hU ?_
  rotate_left
  · intro wz hSw; (try simp only [AllOf, List.mem_cons, List.mem_nil_iff, or_false, forall_eq, forall_eq_or_imp] at hSw); go_simp; try with_reducible rfl
  clear hU; intro hU
  (try simp only [Act.put, List.setIfInBounds_toArray, List.set_cons_zero, List.set_cons_succ])
  refine take_L [(9, fun w' => w'.cell? ⟨gl, 0, none⟩ = some (.string k1) ∧ w'.cell? ⟨gl, 2, none⟩ = some (.string k2))] (i := 4) (v := ?_) (by simp only [List.getElem?_toArray, List.getElem?_cons_succ, List.getElem?_cons_zero]; rfl) (by kernel_rfl) (by kernel_rfl) (by kernel_rfl) (by simp) (by kernel_rfl) (by kernel_rfl) (fun _ _ _ h => h) (Or.inl ⟨by rfl, ?_⟩) hU ?_
  rotate_left
  · intro wz hSw; (try simp only [AllOf, List.mem_cons, List.mem_nil_iff, or_false, forall_eq, forall_eq_or_imp] at hSw); go_simp; try with_reducible rfl
  clear hU; intro hU
  (try simp only [Act.put, List.setIfInBounds_toArray, List.set_cons_zero, List.set_cons_succ])
  refine take_L [] (i := 5) (v := ?_) (by simp only [List.getElem?_toArray, List.getElem?_cons_succ, List.getElem?_cons_zero]; rfl) (by kernel_rfl) (by kernel_rfl) (by kernel_rfl) (by simp) (by kernel_rfl) (by kernel_rfl) (fun _ _ _ h => h) (Or.inl ⟨by rfl, ?_⟩) hU ?_
  rotate_left
  · intro wz hSw; (try simp only [AllOf, List.mem_cons, List.mem_nil_iff, or_false, forall_eq, forall_eq_or_imp] at hSw); go_simp; try with_reducible rfl
  clear hU; intro hU
  (try simp only [Act.put, List.setIfInBounds_toArray, List.set_cons_zero, List.set_cons_succ])
  refine take_L [] (i := 6) (v := ?_) (by simp only [List.getElem?_toArray, List.getElem?_cons_succ, List.getElem?_cons_zero]; rfl) (by kernel_rfl) (by kernel_rfl) (by kernel_rfl) (by simp) (by kernel_rfl) (by kernel_rfl) (fun _ _ _ h => h) (Or.inl ⟨by rfl, ?_⟩) hU ?_
  rotate_left
  · intro wz hSw; (try simp only [AllOf, List.mem_cons, List.mem_nil_iff, or_false, forall_eq, forall_eq_or_imp] at hSw); go_simp; try with_reducible rfl
  clear hU; intro hU
  (try simp only [Act.put, List.setIfInBounds_toArray, List.set_cons_zero, List.set_cons_succ])
  refine take_L [] (i := 7) (v := ?_) (by simp only [List.getElem?_toArray, List.getElem?_cons_succ, List.getElem?_cons_zero]; rfl) (by kernel_rfl) (by kernel_rfl) (by kernel_rfl) (by simp) (by kernel_rfl) (by kernel_rfl) (fun _ _ _ h => h) (Or.inl ⟨by rfl, ?_⟩) hU ?_
  rotate_left
  · intro wz hSw; (try simp only [AllOf, List.mem_cons, List.mem_nil_iff, or_false, forall_eq, forall_eq_or_imp] at hSw); go_simp; try with_reducible rfl
  clear hU; intro hU
  (try simp only [Act.put, List.setIfInBounds_toArray, List.set_cons_zero, List.set_cons_succ])
  refine take_L [(9, fun w' => w'.cell? ⟨gl, 0, none⟩ = some (.string k1) ∧ w'.cell? ⟨gl, 2, none⟩ = some (.string k2))] (i := 8) (v := ?_) (by simp only [List.getElem?_toArray, List.getElem?_cons_succ, List.getElem?_cons_zero]; rfl) (by kernel_rfl) (by kernel_rfl) (by kernel_rfl) (by simp) (by kernel_rfl) (by kernel_rfl) (fun _ _ _ h => h) (Or.inl ⟨by rfl, ?_⟩) hU ?_
  rotate_left
  · intro wz hSw; (try simp only [AllOf, List.mem_cons, List.mem_nil_iff, or_false, forall_eq, forall_eq_or_imp] at hSw); go_simp; try with_reducible rfl
  clear hU; intro hU
  (try simp only [Act.put, List.setIfInBounds_toArray, List.set_cons_zero, List.set_cons_succ])
  refine take_L [] (i := 10) (v := ?_) (by simp only [List.getElem?_toArray, List.getElem?_cons_succ, List.getElem?_cons_zero]; rfl) (by kernel_rfl) (by kernel_rfl) (by kernel_rfl) (by simp) (by kernel_rfl) (by kernel_rfl) (fun _ _ _ h => h) (Or.inl ⟨by rfl, ?_⟩) hU ?_
  rotate_left
  · intro wz hSw; (try simp only [AllOf, List.mem_cons, List.mem_nil_iff, or_false, forall_eq, forall_eq_or_imp] at hSw); go_simp; try with_reducible rfl
  clear hU; intro hU
  (try simp only [Act.put, List.setIfInBounds_toArray, List.set_cons_zero, List.set_cons_succ])
  refine take_L [] (i := 11) (v := ?_) (by simp only [List.getElem?_toArray, List.getElem?_cons_succ, List.getElem?_cons_zero]; rfl) (by kernel_rfl) (by kernel_rfl) (by kernel_rfl) (by simp) (by kernel_rfl) (by kernel_rfl) (fun _ _ _ h => h) (Or.inl ⟨by rfl, ?_⟩) hU ?_
  rotate_left
  · intro wz hSw; (try simp only [AllOf, List.mem_cons, List.mem_nil_iff, or_false, forall_eq, forall_eq_or_imp] at hSw); go_simp; try with_reducible rfl
  clear hU; intro hU
  (try simp only [Act.put, List.setIfInBounds_toArray, List.set_cons_zero, List.set_cons_succ])
  refine take_L [] (i := 12) (v := ?_) (by simp only [List.getElem?_toArray, List.getElem?_cons_succ, List.getElem?_cons_zero]; rfl) (by kernel_rfl) (by kernel_rfl) (by kernel_rfl) (by simp) (by kernel_rfl) (by kernel_rfl) (fun _ _ _ h => h) (Or.inl ⟨by rfl, ?_⟩) hU ?_
  rotate_left
  · intro wz hSw; (try simp only [AllOf, List.mem_cons, List.mem_nil_iff, or_false, forall_eq, forall_eq_or_imp] at hSw); go_simp; try with_reducible rfl
  clear hU; intro hU
  (try simp only [Act.put, List.setIfInBounds_toArray, List.set_cons_zero, List.set_cons_succ])
  refine take_L [(18, fun w' => w'.cell? ⟨gl, 1, none⟩ = some (.int .i64 (r1 : Int)) ∧ w'.cell? ⟨gl, 3, none⟩ = some (.int .i64 (r2 : Int)))] (i := 13) (v := ?_) (by simp only [List.getElem?_toArray, List.getElem?_cons_succ, List.getElem?_cons_zero]; rfl) (by kernel_rfl) (by kernel_rfl) (by kernel_rfl) (by simp) (by kernel_rfl) (by kernel_rfl) (fun _ _ _ h => h) (Or.inl ⟨by rfl, ?_⟩) hU ?_
  rotate_left
  · intro wz hSw; (try simp only [AllOf, List.mem_cons, List.mem_nil_iff, or_false, forall_eq, forall_eq_or_imp] at hSw); go_simp; try with_reducible rfl
  clear hU; intro hU
  (try simp only [Act.put, List.setIfInBounds_toArray, List.set_cons_zero, List.set_cons_succ])
  refine take_L [] (i := 14) (v := ?_) (by simp only [List.getElem?_toArray, List.getElem?_cons_succ, List.getElem?_cons_zero]; rfl) (by kernel_rfl) (by kernel_rfl) (by kernel_rfl) (by simp) (by kernel_rfl) (by kernel_rfl) (fun _ _ _ h => h) (Or.inl ⟨by rfl, ?_⟩) hU ?_
  rotate_left
  · intro wz hSw; (try simp only [AllOf, List.mem_cons, List.mem_nil_iff, or_false, forall_eq, forall_eq_or_imp] at hSw); go_simp; try with_reducible rfl
  clear hU; intro hU
  (try simp only [Act.put, List.setIfInBounds_toArray, List.set_cons_zero, List.set_cons_succ])
  refine take_L [] (i := 15) (v := ?_) (by simp only [List.getElem?_toArray, List.getElem?_cons_succ, List.getElem?_cons_zero]; rfl) (by kernel_rfl) (by kernel_rfl) (by kernel_rfl) (by simp) (by kernel_rfl) (by kernel_rfl) (fun _ _ _ h => h) (Or.inl ⟨by rfl, ?_⟩) hU ?_
  rotate_left
  · intro wz hSw; (try simp only [AllOf, List.mem_cons, List.mem_nil_iff, or_false, forall_eq, forall_eq_or_imp] at hSw); go_simp; try with_reducible rfl
  clear hU; intro hU
  (try simp only [Act.put, List.setIfInBounds_toArray, List.set_cons_zero, List.set_cons_succ])
  refine take_L [] (i := 16) (v := ?_) (by simp only [List.getElem?_toArray, List.getElem?_cons_succ, List.getElem?_cons_zero]; rfl) (by kernel_rfl) (by kernel_rfl) (by kernel_rfl) (by simp) (by kernel_rfl) (by kernel_rfl) (fun _ _ _ h => h) (Or.inl ⟨by rfl, ?_⟩) hU ?_
  rotate_left
  · intro wz hSw; (try simp only [AllOf, List.mem_cons, List.mem_nil_iff, or_false, forall_eq, forall_eq_or_imp] at hSw); go_simp; try with_reducible rfl
  clear hU; intro hU
  (try simp only [Act.put, List.setIfInBounds_toArray, List.set_cons_zero, List.set_cons_succ])
  refine take_L [(18, fun w' => w'.cell? ⟨gl, 1, none⟩ = some (.int .i64 (r1 : Int)) ∧ w'.cell? ⟨gl, 3, none⟩ = some (.int .i64 (r2 : Int)))] (i := 17) (v := ?_) (by simp only [List.getElem?_toArray, List.getElem?_cons_succ, List.getElem?_cons_zero]; rfl) (by kernel_rfl) (by kernel_rfl) (by kernel_rfl) (by simp) (by kernel_rfl) (by kernel_rfl) (fun _ _ _ h => h) (Or.inl ⟨by rfl, ?_⟩) hU ?_
  rotate_left
  · intro wz hSw; (try simp only [AllOf, List.mem_cons, List.mem_nil_iff, or_false, forall_eq, forall_eq_or_imp] at hSw); go_simp; try with_reducible rfl
  clear hU; intro hU
  (try simp only [Act.put, List.setIfInBounds_toArray, List.set_cons_zero, List.set_cons_succ])
  refine ready_L (rs := [9, 18, 24]) (by kernel_rfl) (by simp) ?_
  refine (AllReadyL.cons (by simp only [List.getElem?_toArray, List.getElem?_cons_succ, List.getElem?_cons_zero]; rfl) (fun KK hK => ?_) (AllReadyL.cons (by simp only [List.getElem?_toArray, List.getElem?_cons_succ, List.getElem?_cons_zero]; rfl) (fun KK hK => ?_) (AllReadyL.cons (by simp only [List.getElem?_toArray, List.getElem?_cons_succ, List.getElem?_cons_zero]; rfl) (fun KK hK => ?_) AllReadyL.nil)))
  · go_simp
    have s8 := HCells.out (w.alloc (.cells #[.string k1, .string k2] 9)).drew (((Below.refl w.heap.size w).alloc (Nat.le_refl _) (.cells #[.string k1, .string k2] 9))).drew
    refine hK.out _ _ ?_ (fun hU => ?_)
    · intro x hx hl; simp only [List.mem_cons, List.mem_nil_iff, or_false] at hx; rcases hx with rfl | rfl; exact ⟨s8.1, s8.2.1⟩; exact ⟨s8.2.2.1, s8.2.2.2⟩
    clear hK KK
    (try simp only [Act.put, List.setIfInBounds_toArray, List.set_cons_zero, List.set_cons_succ])
    refine ready_L (rs := [18, 24]) (by kernel_rfl) (by simp) ?_
    refine (AllReadyL.cons (by simp only [List.getElem?_toArray, List.getElem?_cons_succ, List.getElem?_cons_zero]; rfl) (fun KK hK => ?_) (AllReadyL.cons (by simp only [List.getElem?_toArray, List.getElem?_cons_succ, List.getElem?_cons_zero]; rfl) (fun KK hK => ?_) AllReadyL.nil))
    · go_simp
      have s8 := HCells.out ((w.alloc (.cells #[.string k1, .string k2] 9)).alloc (.cells #[.int .i64 (r1 : Int), .int .i64 (r2 : Int)] 3)).drew ((((Below.refl w.heap.size w).alloc (Nat.le_refl _) (.cells #[.string k1, .string k2] 9)).alloc (by first | (simp; done) | (simp; omega)) (.cells #[.int .i64 (r1 : Int), .int .i64 (r2 : Int)] 3))).drew
      refine hK.out _ _ ?_ (fun hU => ?_)
      · intro x hx hl; simp only [List.mem_cons, List.mem_nil_iff, or_false] at hx; rcases hx with rfl | rfl; exact ⟨s8.1, s8.2.1⟩; exact ⟨s8.2.2.1, s8.2.2.2⟩
      clear hK KK
      (try simp only [Act.put, List.setIfInBounds_toArray, List.set_cons_zero, List.set_cons_succ])
      refine take_L [] (i := 19) (v := ?_) (by simp only [List.getElem?_toArray, List.getElem?_cons_succ, List.getElem?_cons_zero]; rfl) (by kernel_rfl) (by kernel_rfl) (by kernel_rfl) (by simp) (by kernel_rfl) (by kernel_rfl) (fun _ _ _ h => h) (Or.inl ⟨by rfl, ?_⟩) hU ?_
      rotate_left
      · intro wz hSw; (try simp only [AllOf, List.mem_cons, List.mem_nil_iff, or_false, forall_eq, forall_eq_or_imp] at hSw); go_simp; try with_reducible rfl
      clear hU; intro hU
      (try simp only [Act.put, List.setIfInBounds_toArray, List.set_cons_zero, List.set_cons_succ])
      refine ready_L (rs := [20, 24]) (by kernel_rfl) (by simp) ?_
      refine (AllReadyL.cons (by simp only [List.getElem?_toArray, List.getElem?_cons_succ, List.getElem?_cons_zero]; rfl) (fun KK hK => ?_) (AllReadyL.cons (by simp only [List.getElem?_toArray, List.getElem?_cons_succ, List.getElem?_cons_zero]; rfl) (fun KK hK => ?_) AllReadyL.nil))
      · have bA : Blk ((w.alloc (.cells #[.string k1, .string k2] 9)).alloc (.cells #[.int .i64 (r1 : Int), .int .i64 (r2 : Int)] 3)).drew w.heap.size 9 [.string k1, .string k2] := (((Blk.new_at (w := w) (t := 9) (cs := [.string k1, .string k2]) (n := w.heap.size) (by first | (simp; done) | (simp; omega))).alloc (.cells #[.int .i64 (r1 : Int), .int .i64 (r2 : Int)] 3))).drew
        have bB : Blk ((w.alloc (.cells #[.string k1, .string k2] 9)).alloc (.cells #[.int .i64 (r1 : Int), .int .i64 (r2 : Int)] 3)).drew (w.heap.size + 1) 3 [.int .i64 (r1 : Int), .int .i64 (r2 : Int)] := ((Blk.new_at (w := (w.alloc (.cells #[.string k1, .string k2] 9))) (t := 3) (cs := [.int .i64 (r1 : Int), .int .i64 (r2 : Int)]) (n := (w.heap.size + 1)) (by first | (simp; done) | (simp; omega)))).drew
        have q := HCall.out ((w.alloc (.cells #[.string k1, .string k2] 9)).alloc (.cells #[.int .i64 (r1 : Int), .int .i64 (r2 : Int)] 3)).drew w.heap.size (w.heap.size + 1) ((((Below.refl w.heap.size w).alloc (Nat.le_refl _) (.cells #[.string k1, .string k2] 9)).alloc (by first | (simp; done) | (simp; omega)) (.cells #[.int .i64 (r1 : Int), .int .i64 (r2 : Int)] 3))).drew bA bB
        have Q := Lib.hid q
        clear q
        go_simp; ((refine Calls.mono Q.out ?_); rintro e W1 ⟨n, p1, rfl, hn1, hn2, hTn, hc1⟩); go_wp2_with fail
        have hcw : TCh w W1 base p p1 N (updT T n (some (topN [(k1, r1), (k2, r2)]))) := hc1.pre ((((Below.refl w.heap.size w).alloc (Nat.le_refl _) (.cells #[.string k1, .string k2] 9)).alloc (by first | (simp; done) | (simp; omega)) (.cells #[.int .i64 (r1 : Int), .int .i64 (r2 : Int)] 3))).drew (Nat.le_refl _)
        obtain ⟨gw1, hgw1⟩ : ∃ g, g = W1.heap.size := ⟨_, rfl⟩
        refine hK.out _ _ ?_ (fun hU => ?_)
        · intro x hx hl; simp only [List.mem_cons, List.mem_nil_iff, or_false] at hx; rcases hx with rfl | rfl; exact Bool.noConfusion (Eq.trans (by kernel_rfl) hl : true = false); exact Bool.noConfusion (Eq.trans (by kernel_rfl) hl : true = false)
        clear hK KK
        (try simp only [Act.put, List.setIfInBounds_toArray, List.set_cons_zero, List.set_cons_succ])
        refine take_L [] (i := 21) (v := ?_) (by simp only [List.getElem?_toArray, List.getElem?_cons_succ, List.getElem?_cons_zero]; rfl) (by kernel_rfl) (by kernel_rfl) (by kernel_rfl) (by simp) (by kernel_rfl) (by kernel_rfl) (fun _ _ _ h => h) (Or.inl ⟨by rfl, ?_⟩) hU ?_
        rotate_left
        · intro wz hSw; (try simp only [AllOf, List.mem_cons, List.mem_nil_iff, or_false, forall_eq, forall_eq_or_imp] at hSw); go_simp; try with_reducible rfl
        clear hU; intro hU
        (try simp only [Act.put, List.setIfInBounds_toArray, List.set_cons_zero, List.set_cons_succ])
        refine take_L [] (i := 22) (v := ?_) (by simp only [List.getElem?_toArray, List.getElem?_cons_succ, List.getElem?_cons_zero]; rfl) (by kernel_rfl) (by kernel_rfl) (by kernel_rfl) (by simp) (by kernel_rfl) (by kernel_rfl) (fun _ _ _ h => h) (Or.inl ⟨by rfl, ?_⟩) hU ?_
        rotate_left
        · intro wz hSw; (try simp only [AllOf, List.mem_cons, List.mem_nil_iff, or_false, forall_eq, forall_eq_or_imp] at hSw); go_simp; try with_reducible rfl
        clear hU; intro hU
        (try simp only [Act.put, List.setIfInBounds_toArray, List.set_cons_zero, List.set_cons_succ])
        refine take_L [] (i := 23) (v := ?_) (by simp only [List.getElem?_toArray, List.getElem?_cons_succ, List.getElem?_cons_zero]; rfl) (by kernel_rfl) (by kernel_rfl) (by kernel_rfl) (by simp) (by kernel_rfl) (by kernel_rfl) (fun _ _ _ h => h) (Or.inl ⟨by rfl, ?_⟩) hU ?_
        rotate_left
        · intro wz hSw; (try simp only [AllOf, List.mem_cons, List.mem_nil_iff, or_false, forall_eq, forall_eq_or_imp] at hSw); go_simp; try with_reducible rfl
        clear hU; intro hU
        (try simp only [Act.put, List.setIfInBounds_toArray, List.set_cons_zero, List.set_cons_succ])
        refine ready_L (rs := [24]) (by kernel_rfl) (by simp) ?_
        refine (AllReadyL.cons (by simp only [List.getElem?_toArray, List.getElem?_cons_succ, List.getElem?_cons_zero]; rfl) (fun KK hK => ?_) AllReadyL.nil)
        go_simp
        try rw [← hgw1]
        refine hK.out _ _ ?_ (fun hU => ?_)
        · intro x hx hl; simp only [List.mem_cons, List.mem_nil_iff, or_false] at hx; rcases hx with rfl | rfl; exact Bool.noConfusion (Eq.trans (by kernel_rfl) hl : true = false); exact Bool.noConfusion (Eq.trans (by kernel_rfl) hl : true = false)
        clear hK KK
        (try simp only [Act.put, List.setIfInBounds_toArray, List.set_cons_zero, List.set_cons_succ])
        have bC : Blk (W1.alloc (.cells #[.string .empty, .int .i64 0] 53)) gw1 53 [.string .empty, .int .i64 0] := Blk.new_at (cs := [.string .empty, .int .i64 0]) hgw1
        have bCc := bC.cells
        have bCf := bC.frees
        refine ready_L (rs := [25]) (by kernel_rfl) (by simp) ?_
        refine (AllReadyL.cons (by simp only [List.getElem?_toArray, List.getElem?_cons_succ, List.getElem?_cons_zero]; rfl) (fun KK hK => ?_) AllReadyL.nil)
        go_simp
        refine hK.out _ _ ?_ (fun hU => ?_)
        · intro x hx hl; simp only [List.mem_cons, List.mem_nil_iff, or_false] at hx; rcases hx with rfl | rfl; exact Bool.noConfusion (Eq.trans (by kernel_rfl) hl : true = false); exact Bool.noConfusion (Eq.trans (by kernel_rfl) hl : true = false)
        clear hK KK
        (try simp only [Act.put, List.setIfInBounds_toArray, List.set_cons_zero, List.set_cons_succ])
        refine take_L [] (i := 26) (v := ?_) (by simp only [List.getElem?_toArray, List.getElem?_cons_succ, List.getElem?_cons_zero]; rfl) (by kernel_rfl) (by kernel_rfl) (by kernel_rfl) (by simp) (by kernel_rfl) (by kernel_rfl) (fun _ _ _ h => h) (Or.inl ⟨by rfl, ?_⟩) hU ?_
        rotate_left
        · intro wz hSw; (try simp only [AllOf, List.mem_cons, List.mem_nil_iff, or_false, forall_eq, forall_eq_or_imp] at hSw); go_simp; try with_reducible rfl
        clear hU; intro hU
        (try simp only [Act.put, List.setIfInBounds_toArray, List.set_cons_zero, List.set_cons_succ])
        refine done_L (by kernel_rfl) ?_ _
        refine NoPanic.normal ?_
        have HCw := Lib.hid hcw
        clear hcw hU bC bCc bCf
        go_wp2
        go_ret2
        exact ⟨n, p1, rfl, hn1, hn2, hTn, HCw.out.below ((Below.refl _ _).alloc (Nat.le_refl _) _) (Nat.le_refl _)⟩
      · go_simp
        have s8 := HCells.out (((w.alloc (.cells #[.string k1, .string k2] 9)).alloc (.cells #[.int .i64 (r1 : Int), .int .i64 (r2 : Int)] 3)).alloc (.cells #[.string .empty, .int .i64 0] 53)).drew (((((Below.refl w.heap.size w).alloc (Nat.le_refl _) (.cells #[.string k1, .string k2] 9)).alloc (by first | (simp; done) | (simp; omega)) (.cells #[.int .i64 (r1 : Int), .int .i64 (r2 : Int)] 3)).alloc (by first | (simp; done) | (simp; omega)) (.cells #[.string .empty, .int .i64 0] 53))).drew
        refine hK.out _ _ ?_ (fun hU => ?_)
        · intro x hx hl; simp only [List.mem_cons, List.mem_nil_iff, or_false] at hx; rcases hx with rfl | rfl; exact ⟨s8.1, s8.2.1⟩; exact ⟨s8.2.2.1, s8.2.2.2⟩
        clear hK KK
        (try simp only [Act.put, List.setIfInBounds_toArray, List.set_cons_zero, List.set_cons_succ])
        refine ready_L (rs := [20]) (by kernel_rfl) (by simp) ?_
        refine (AllReadyL.cons (by simp only [List.getElem?_toArray, List.getElem?_cons_succ, List.getElem?_cons_zero]; rfl) (fun KK hK => ?_) AllReadyL.nil)
        have bA : Blk (((w.alloc (.cells #[.string k1, .string k2] 9)).alloc (.cells #[.int .i64 (r1 : Int), .int .i64 (r2 : Int)] 3)).alloc (.cells #[.string .empty, .int .i64 0] 53)).drew w.heap.size 9 [.string k1, .string k2] := ((((Blk.new_at (w := w) (t := 9) (cs := [.string k1, .string k2]) (n := w.heap.size) (by first | (simp; done) | (simp; omega))).alloc (.cells #[.int .i64 (r1 : Int), .int .i64 (r2 : Int)] 3)).alloc (.cells #[.string .empty, .int .i64 0] 53))).drew
        have bB : Blk (((w.alloc (.cells #[.string k1, .string k2] 9)).alloc (.cells #[.int .i64 (r1 : Int), .int .i64 (r2 : Int)] 3)).alloc (.cells #[.string .empty, .int .i64 0] 53)).drew (w.heap.size + 1) 3 [.int .i64 (r1 : Int), .int .i64 (r2 : Int)] := (((Blk.new_at (w := (w.alloc (.cells #[.string k1, .string k2] 9))) (t := 3) (cs := [.int .i64 (r1 : Int), .int .i64 (r2 : Int)]) (n := (w.heap.size + 1)) (by first | (simp; done) | (simp; omega))).alloc (.cells #[.string .empty, .int .i64 0] 53))).drew
        have q := HCall.out (((w.alloc (.cells #[.string k1, .string k2] 9)).alloc (.cells #[.int .i64 (r1 : Int), .int .i64 (r2 : Int)] 3)).alloc (.cells #[.string .empty, .int .i64 0] 53)).drew w.heap.size (w.heap.size + 1) (((((Below.refl w.heap.size w).alloc (Nat.le_refl _) (.cells #[.string k1, .string k2] 9)).alloc (by first | (simp; done) | (simp; omega)) (.cells #[.int .i64 (r1 : Int), .int .i64 (r2 : Int)] 3)).alloc (by first | (simp; done) | (simp; omega)) (.cells #[.string .empty, .int .i64 0] 53))).drew bA bB
        have Q := Lib.hid q
        clear q
        go_simp; ((refine Calls.mono Q.out ?_); rintro e W1 ⟨n, p1, rfl, hn1, hn2, hTn, hc1⟩); go_wp2_with fail
        have hcw : TCh w W1 base p p1 N (updT T n (some (topN [(k1, r1), (k2, r2)]))) := hc1.pre (((((Below.refl w.heap.size w).alloc (Nat.le_refl _) (.cells #[.string k1, .string k2] 9)).alloc (by first | (simp; done) | (simp; omega)) (.cells #[.int .i64 (r1 : Int), .int .i64 (r2 : Int)] 3)).alloc (by first | (simp; done) | (simp; omega)) (.cells #[.string .empty, .int .i64 0] 53))).drew (Nat.le_refl _)
        have bC0 : Blk (((w.alloc (.cells #[.string k1, .string k2] 9)).alloc (.cells #[.int .i64 (r1 : Int), .int .i64 (r2 : Int)] 3)).alloc (.cells #[.string .empty, .int .i64 0] 53)).drew (w.heap.size + 2) 53 [.string .empty, .int .i64 0] := ((Blk.new_at (w := ((w.alloc (.cells #[.string k1, .string k2] 9)).alloc (.cells #[.int .i64 (r1 : Int), .int .i64 (r2 : Int)] 3))) (t := 53) (cs := [.string .empty, .int .i64 0]) (n := (w.heap.size + 2)) (by first | (simp; done) | (simp; omega)))).drew
        have bC := hc1.K.blk bC0 (fun x => by have := HFt.out _ x; omega)
        have hnC : ¬ p1.foot (w.heap.size + 2) := hc1.away (fun x => by have := HFt.out _ x; omega) bC0.lt
        have bCc := bC.cells
        have bCf := bC.frees
        refine hK.out _ _ ?_ (fun hU => ?_)
        · intro x hx hl; simp only [List.mem_cons, List.mem_nil_iff, or_false] at hx; rcases hx with rfl | rfl; exact Bool.noConfusion (Eq.trans (by kernel_rfl) hl : true = false); exact Bool.noConfusion (Eq.trans (by kernel_rfl) hl : true = false)
        clear hK KK
        (try simp only [Act.put, List.setIfInBounds_toArray, List.set_cons_zero, List.set_cons_succ])
        refine take_L [] (i := 21) (v := ?_) (by simp only [List.getElem?_toArray, List.getElem?_cons_succ, List.getElem?_cons_zero]; rfl) (by kernel_rfl) (by kernel_rfl) (by kernel_rfl) (by simp) (by kernel_rfl) (by kernel_rfl) (fun _ _ _ h => h) (Or.inl ⟨by rfl, ?_⟩) hU ?_
        rotate_left
        · intro wz hSw; (try simp only [AllOf, List.mem_cons, List.mem_nil_iff, or_false, forall_eq, forall_eq_or_imp] at hSw); go_simp; try with_reducible rfl
        clear hU; intro hU
        (try simp only [Act.put, List.setIfInBounds_toArray, List.set_cons_zero, List.set_cons_succ])
        refine take_L [] (i := 22) (v := ?_) (by simp only [List.getElem?_toArray, List.getElem?_cons_succ, List.getElem?_cons_zero]; rfl) (by kernel_rfl) (by kernel_rfl) (by kernel_rfl) (by simp) (by kernel_rfl) (by kernel_rfl) (fun _ _ _ h => h) (Or.inl ⟨by rfl, ?_⟩) hU ?_
        rotate_left
        · intro wz hSw; (try simp only [AllOf, List.mem_cons, List.mem_nil_iff, or_false, forall_eq, forall_eq_or_imp] at hSw); go_simp; try with_reducible rfl
        clear hU; intro hU
        (try simp only [Act.put, List.setIfInBounds_toArray, List.set_cons_zero, List.set_cons_succ])
        refine take_L [] (i := 23) (v := ?_) (by simp only [List.getElem?_toArray, List.getElem?_cons_succ, List.getElem?_cons_zero]; rfl) (by kernel_rfl) (by kernel_rfl) (by kernel_rfl) (by simp) (by kernel_rfl) (by kernel_rfl) (fun _ _ _ h => h) (Or.inl ⟨by rfl, ?_⟩) hU ?_
        rotate_left
        · intro wz hSw; (try simp only [AllOf, List.mem_cons, List.mem_nil_iff, or_false, forall_eq, forall_eq_or_imp] at hSw); go_simp; try with_reducible rfl
        clear hU; intro hU
        (try simp only [Act.put, List.setIfInBounds_toArray, List.set_cons_zero, List.set_cons_succ])
        refine ready_L (rs := [25]) (by kernel_rfl) (by simp) ?_
        refine (AllReadyL.cons (by simp only [List.getElem?_toArray, List.getElem?_cons_succ, List.getElem?_cons_zero]; rfl) (fun KK hK => ?_) AllReadyL.nil)
        go_simp
        refine hK.out _ _ ?_ (fun hU => ?_)
        · intro x hx hl; simp only [List.mem_cons, List.mem_nil_iff, or_false] at hx; rcases hx with rfl | rfl; exact Bool.noConfusion (Eq.trans (by kernel_rfl) hl : true = false); exact Bool.noConfusion (Eq.trans (by kernel_rfl) hl : true = false)
        clear hK KK
        (try simp only [Act.put, List.setIfInBounds_toArray, List.set_cons_zero, List.set_cons_succ])
        refine take_L [] (i := 26) (v := ?_) (by simp only [List.getElem?_toArray, List.getElem?_cons_succ, List.getElem?_cons_zero]; rfl) (by kernel_rfl) (by kernel_rfl) (by kernel_rfl) (by simp) (by kernel_rfl) (by kernel_rfl) (fun _ _ _ h => h) (Or.inl ⟨by rfl, ?_⟩) hU ?_
        rotate_left
        · intro wz hSw; (try simp only [AllOf, List.mem_cons, List.mem_nil_iff, or_false, forall_eq, forall_eq_or_imp] at hSw); go_simp; try with_reducible rfl
        clear hU; intro hU
        (try simp only [Act.put, List.setIfInBounds_toArray, List.set_cons_zero, List.set_cons_succ])
        refine done_L (by kernel_rfl) ?_ _
        refine NoPanic.normal ?_
        have HF := Lib.hid (fun W (k : Kept (fun b => b = (w.heap.size + 2)) W1 W) => hcw.kept k (fun b e => ⟨by omega, by rw [e]; exact hnC⟩))
        clear hcw hU
        go_wp2
        go_ret2
        exact ⟨n, p1, rfl, hn1, hn2, hTn, HF.out _ (Kept.setCell_.trans Kept.setCell_ (fun _ _ x => x))⟩
    · go_simp
      have s8 := HCells.out ((w.alloc (.cells #[.string k1, .string k2] 9)).alloc (.cells #[.string .empty, .int .i64 0] 53)).drew ((((Below.refl w.heap.size w).alloc (Nat.le_refl _) (.cells #[.string k1, .string k2] 9)).alloc (by first | (simp; done) | (simp; omega)) (.cells #[.string .empty, .int .i64 0] 53))).drew
      refine hK.out _ _ ?_ (fun hU => ?_)
      · intro x hx hl; simp only [List.mem_cons, List.mem_nil_iff, or_false] at hx; rcases hx with rfl | rfl; exact ⟨s8.1, s8.2.1⟩; exact ⟨s8.2.2.1, s8.2.2.2⟩
      clear hK KK
      (try simp only [Act.put, List.setIfInBounds_toArray, List.set_cons_zero, List.set_cons_succ])
      refine ready_L (rs := [18]) (by kernel_rfl) (by simp) ?_
      refine (AllReadyL.cons (by simp only [List.getElem?_toArray, List.getElem?_cons_succ, List.getElem?_cons_zero]; rfl) (fun KK hK => ?_) AllReadyL.nil)
      go_simp
      have s8 := HCells.out (((w.alloc (.cells #[.string k1, .string k2] 9)).alloc (.cells #[.string .empty, .int .i64 0] 53)).alloc (.cells #[.int .i64 (r1 : Int), .int .i64 (r2 : Int)] 3)).drew (((((Below.refl w.heap.size w).alloc (Nat.le_refl _) (.cells #[.string k1, .string k2] 9)).alloc (by first | (simp; done) | (simp; omega)) (.cells #[.string .empty, .int .i64 0] 53)).alloc (by first | (simp; done) | (simp; omega)) (.cells #[.int .i64 (r1 : Int), .int .i64 (r2 : Int)] 3))).drew
      refine hK.out _ _ ?_ (fun hU => ?_)
      · intro x hx hl; simp only [List.mem_cons, List.mem_nil_iff, or_false] at hx; rcases hx with rfl | rfl; exact ⟨s8.1, s8.2.1⟩; exact ⟨s8.2.2.1, s8.2.2.2⟩
      clear hK KK
      (try simp only [Act.put, List.setIfInBounds_toArray, List.set_cons_zero, List.set_cons_succ])
      refine take_L [] (i := 19) (v := ?_) (by simp only [List.getElem?_toArray, List.getElem?_cons_succ, List.getElem?_cons_zero]; rfl) (by kernel_rfl) (by kernel_rfl) (by kernel_rfl) (by simp) (by kernel_rfl) (by kernel_rfl) (fun _ _ _ h => h) (Or.inl ⟨by rfl, ?_⟩) hU ?_
      rotate_left
      · intro wz hSw; (try simp only [AllOf, List.mem_cons, List.mem_nil_iff, or_false, forall_eq, forall_eq_or_imp] at hSw); go_simp; try with_reducible rfl
      clear hU; intro hU
      (try simp only [Act.put, List.setIfInBounds_toArray, List.set_cons_zero, List.set_cons_succ])
      refine ready_L (rs := [20]) (by kernel_rfl) (by simp) ?_
      refine (AllReadyL.cons (by simp only [List.getElem?_toArray, List.getElem?_cons_succ, List.getElem?_cons_zero]; rfl) (fun KK hK => ?_) AllReadyL.nil)
      have bA : Blk (((w.alloc (.cells #[.string k1, .string k2] 9)).alloc (.cells #[.string .empty, .int .i64 0] 53)).alloc (.cells #[.int .i64 (r1 : Int), .int .i64 (r2 : Int)] 3)).drew w.heap.size 9 [.string k1, .string k2] := ((((Blk.new_at (w := w) (t := 9) (cs := [.string k1, .string k2]) (n := w.heap.size) (by first | (simp; done) | (simp; omega))).alloc (.cells #[.string .empty, .int .i64 0] 53)).alloc (.cells #[.int .i64 (r1 : Int), .int .i64 (r2 : Int)] 3))).drew
      have bB : Blk (((w.alloc (.cells #[.string k1, .string k2] 9)).alloc (.cells #[.string .empty, .int .i64 0] 53)).alloc (.cells #[.int .i64 (r1 : Int), .int .i64 (r2 : Int)] 3)).drew (w.heap.size + 2) 3 [.int .i64 (r1 : Int), .int .i64 (r2 : Int)] := ((Blk.new_at (w := ((w.alloc (.cells #[.string k1, .string k2] 9)).alloc (.cells #[.string .empty, .int .i64 0] 53))) (t := 3) (cs := [.int .i64 (r1 : Int), .int .i64 (r2 : Int)]) (n := (w.heap.size + 2)) (by first | (simp; done) | (simp; omega)))).drew
      have q := HCall.out (((w.alloc (.cells #[.string k1, .string k2] 9)).alloc (.cells #[.string .empty, .int .i64 0] 53)).alloc (.cells #[.int .i64 (r1 : Int), .int .i64 (r2 : Int)] 3)).drew w.heap.size (w.heap.size + 2) (((((Below.refl w.heap.size w).alloc (Nat.le_refl _) (.cells #[.string k1, .string k2] 9)).alloc (by first | (simp; done) | (simp; omega)) (.cells #[.string .empty, .int .i64 0] 53)).alloc (by first | (simp; done) | (simp; omega)) (.cells #[.int .i64 (r1 : Int), .int .i64 (r2 : Int)] 3))).drew bA bB
      have Q := Lib.hid q
      clear q
      go_simp; ((refine Calls.mono Q.out ?_); rintro e W1 ⟨n, p1, rfl, hn1, hn2, hTn, hc1⟩); go_wp2_with fail
      have hcw : TCh w W1 base p p1 N (updT T n (some (topN [(k1, r1), (k2, r2)]))) := hc1.pre (((((Below.refl w.heap.size w).alloc (Nat.le_refl _) (.cells #[.string k1, .string k2] 9)).alloc (by first | (simp; done) | (simp; omega)) (.cells #[.string .empty, .int .i64 0] 53)).alloc (by first | (simp; done) | (simp; omega)) (.cells #[.int .i64 (r1 : Int), .int .i64 (r2 : Int)] 3))).drew (Nat.le_refl _)
      have bC0 : Blk (((w.alloc (.cells #[.string k1, .string k2] 9)).alloc (.cells #[.string .empty, .int .i64 0] 53)).alloc (.cells #[.int .i64 (r1 : Int), .int .i64 (r2 : Int)] 3)).drew (w.heap.size + 1) 53 [.string .empty, .int .i64 0] := (((Blk.new_at (w := (w.alloc (.cells #[.string k1, .string k2] 9))) (t := 53) (cs := [.string .empty, .int .i64 0]) (n := (w.heap.size + 1)) (by first | (simp; done) | (simp; omega))).alloc (.cells #[.int .i64 (r1 : Int), .int .i64 (r2 : Int)] 3))).drew
      have bC := hc1.K.blk bC0 (fun x => by have := HFt.out _ x; omega)
      have hnC : ¬ p1.foot (w.heap.size + 1) := hc1.away (fun x => by have := HFt.out _ x; omega) bC0.lt
      have bCc := bC.cells
      have bCf := bC.frees
      refine hK.out _ _ ?_ (fun hU => ?_)
      · intro x hx hl; simp only [List.mem_cons, List.mem_nil_iff, or_false] at hx; rcases hx with rfl | rfl; exact Bool.noConfusion (Eq.trans (by kernel_rfl) hl : true = false); exact Bool.noConfusion (Eq.trans (by kernel_rfl) hl : true = false)
      clear hK KK
      (try simp only [Act.put, List.setIfInBounds_toArray, List.set_cons_zero, List.set_cons_succ])
      refine take_L [] (i := 21) (v := ?_) (by simp only [List.getElem?_toArray, List.getElem?_cons_succ, List.getElem?_cons_zero]; rfl) (by kernel_rfl) (by kernel_rfl) (by kernel_rfl) (by simp) (by kernel_rfl) (by kernel_rfl) (fun _ _ _ h => h) (Or.inl ⟨by rfl, ?_⟩) hU ?_
      rotate_left
      · intro wz hSw; (try simp only [AllOf, List.mem_cons, List.mem_nil_iff, or_false, forall_eq, forall_eq_or_imp] at hSw); go_simp; try with_reducible rfl
      clear hU; intro hU
      (try simp only [Act.put, List.setIfInBounds_toArray, List.set_cons_zero, List.set_cons_succ])
      refine take_L [] (i := 22) (v := ?_) (by simp only [List.getElem?_toArray, List.getElem?_cons_succ, List.getElem?_cons_zero]; rfl) (by kernel_rfl) (by kernel_rfl) (by kernel_rfl) (by simp) (by kernel_rfl) (by kernel_rfl) (fun _ _ _ h => h) (Or.inl ⟨by rfl, ?_⟩) hU ?_
      rotate_left
      · intro wz hSw; (try simp only [AllOf, List.mem_cons, List.mem_nil_iff, or_false, forall_eq, forall_eq_or_imp] at hSw); go_simp; try with_reducible rfl
      clear hU; intro hU
      (try simp only [Act.put, List.setIfInBounds_toArray, List.set_cons_zero, List.set_cons_succ])
      refine take_L [] (i := 23) (v := ?_) (by simp only [List.getElem?_toArray, List.getElem?_cons_succ, List.getElem?_cons_zero]; rfl) (by kernel_rfl) (by kernel_rfl) (by kernel_rfl) (by simp) (by kernel_rfl) (by kernel_rfl) (fun _ _ _ h => h) (Or.inl ⟨by rfl, ?_⟩) hU ?_
      rotate_left
      · intro wz hSw; (try simp only [AllOf, List.mem_cons, List.mem_nil_iff, or_false, forall_eq, forall_eq_or_imp] at hSw); go_simp; try with_reducible rfl
      clear hU; intro hU
      (try simp only [Act.put, List.setIfInBounds_toArray, List.set_cons_zero, List.set_cons_succ])
      refine ready_L (rs := [25]) (by kernel_rfl) (by simp) ?_
      refine (AllReadyL.cons (by simp only [List.getElem?_toArray, List.getElem?_cons_succ, List.getElem?_cons_zero]; rfl) (fun KK hK => ?_) AllReadyL.nil)
      go_simp
      refine hK.out _ _ ?_ (fun hU => ?_)
      · intro x hx hl; simp only [List.mem_cons, List.mem_nil_iff, or_false] at hx; rcases hx with rfl | rfl; exact Bool.noConfusion (Eq.trans (by kernel_rfl) hl : true = false); exact Bool.noConfusion (Eq.trans (by kernel_rfl) hl : true = false)
      clear hK KK
      (try simp only [Act.put, List.setIfInBounds_toArray, List.set_cons_zero, List.set_cons_succ])
      refine take_L [] (i := 26) (v := ?_) (by simp only [List.getElem?_toArray, List.getElem?_cons_succ, List.getElem?_cons_zero]; rfl) (by kernel_rfl) (by kernel_rfl) (by kernel_rfl) (by simp) (by kernel_rfl) (by kernel_rfl) (fun _ _ _ h => h) (Or.inl ⟨by rfl, ?_⟩) hU ?_
      rotate_left
      · intro wz hSw; (try simp only [AllOf, List.mem_cons, List.mem_nil_iff, or_false, forall_eq, forall_eq_or_imp] at hSw); go_simp; try with_reducible rfl
      clear hU; intro hU
      (try simp only [Act.put, List.setIfInBounds_toArray, List.set_cons_zero, List.set_cons_succ])
      refine done_L (by kernel_rfl) ?_ _
      refine NoPanic.normal ?_
      have HF := Lib.hid (fun W (k : Kept (fun b => b = (w.heap.size + 1)) W1 W) => hcw.kept k (fun b e => ⟨by omega, by rw [e]; exact hnC⟩))
      clear hcw hU
      go_wp2
      go_ret2
      exact ⟨n, p1, rfl, hn1, hn2, hTn, HF.out _ (Kept.setCell_.trans Kept.setCell_ (fun _ _ x => x))⟩
  · go_simp
    have s8 := HCells.out (w.alloc (.cells #[.int .i64 (r1 : Int), .int .i64 (r2 : Int)] 3)).drew (((Below.refl w.heap.size w).alloc (Nat.le_refl _) (.cells #[.int .i64 (r1 : Int), .int .i64 (r2 : Int)] 3))).drew
    refine hK.out _ _ ?_ (fun hU => ?_)
    · intro x hx hl; simp only [List.mem_cons, List.mem_nil_iff, or_false] at hx; rcases hx with rfl | rfl; exact ⟨s8.1, s8.2.1⟩; exact ⟨s8.2.2.1, s8.2.2.2⟩
    clear hK KK
    (try simp only [Act.put, List.setIfInBounds_toArray, List.set_cons_zero, List.set_cons_succ])
    refine ready_L (rs := [9, 24]) (by kernel_rfl) (by simp) ?_
    refine (AllReadyL.cons (by simp only [List.getElem?_toArray, List.getElem?_cons_succ, List.getElem?_cons_zero]; rfl) (fun KK hK => ?_) (AllReadyL.cons (by simp only [List.getElem?_toArray, List.getElem?_cons_succ, List.getElem?_cons_zero]; rfl) (fun KK hK => ?_) AllReadyL.nil))
    · go_simp
      have s8 := HCells.out ((w.alloc (.cells #[.int .i64 (r1 : Int), .int .i64 (r2 : Int)] 3)).alloc (.cells #[.string k1, .string k2] 9)).drew ((((Below.refl w.heap.size w).alloc (Nat.le_refl _) (.cells #[.int .i64 (r1 : Int), .int .i64 (r2 : Int)] 3)).alloc (by first | (simp; done) | (simp; omega)) (.cells #[.string k1, .string k2] 9))).drew
      refine hK.out _ _ ?_ (fun hU => ?_)
      · intro x hx hl; simp only [List.mem_cons, List.mem_nil_iff, or_false] at hx; rcases hx with rfl | rfl; exact ⟨s8.1, s8.2.1⟩; exact ⟨s8.2.2.1, s8.2.2.2⟩
      clear hK KK
      (try simp only [Act.put, List.setIfInBounds_toArray, List.set_cons_zero, List.set_cons_succ])
      refine take_L [] (i := 19) (v := ?_) (by simp only [List.getElem?_toArray, List.getElem?_cons_succ, List.getElem?_cons_zero]; rfl) (by kernel_rfl) (by kernel_rfl) (by kernel_rfl) (by simp) (by kernel_rfl) (by kernel_rfl) (fun _ _ _ h => h) (Or.inl ⟨by rfl, ?_⟩) hU ?_
      rotate_left
      · intro wz hSw; (try simp only [AllOf, List.mem_cons, List.mem_nil_iff, or_false, forall_eq, forall_eq_or_imp] at hSw); go_simp; try with_reducible rfl
      clear hU; intro hU
      (try simp only [Act.put, List.setIfInBounds_toArray, List.set_cons_zero, List.set_cons_succ])
      refine ready_L (rs := [20, 24]) (by kernel_rfl) (by simp) ?_
      refine (AllReadyL.cons (by simp only [List.getElem?_toArray, List.getElem?_cons_succ, List.getElem?_cons_zero]; rfl) (fun KK hK => ?_) (AllReadyL.cons (by simp only [List.getElem?_toArray, List.getElem?_cons_succ, List.getElem?_cons_zero]; rfl) (fun KK hK => ?_) AllReadyL.nil))
      · have bA : Blk ((w.alloc (.cells #[.int .i64 (r1 : Int), .int .i64 (r2 : Int)] 3)).alloc (.cells #[.string k1, .string k2] 9)).drew (w.heap.size + 1) 9 [.string k1, .string k2] := ((Blk.new_at (w := (w.alloc (.cells #[.int .i64 (r1 : Int), .int .i64 (r2 : Int)] 3))) (t := 9) (cs := [.string k1, .string k2]) (n := (w.heap.size + 1)) (by first | (simp; done) | (simp; omega)))).drew
        have bB : Blk ((w.alloc (.cells #[.int .i64 (r1 : Int), .int .i64 (r2 : Int)] 3)).alloc (.cells #[.string k1, .string k2] 9)).drew w.heap.size 3 [.int .i64 (r1 : Int), .int .i64 (r2 : Int)] := (((Blk.new_at (w := w) (t := 3) (cs := [.int .i64 (r1 : Int), .int .i64 (r2 : Int)]) (n := w.heap.size) (by first | (simp; done) | (simp; omega))).alloc (.cells #[.string k1, .string k2] 9))).drew
        have q := HCall.out ((w.alloc (.cells #[.int .i64 (r1 : Int), .int .i64 (r2 : Int)] 3)).alloc (.cells #[.string k1, .string k2] 9)).drew (w.heap.size + 1) w.heap.size ((((Below.refl w.heap.size w).alloc (Nat.le_refl _) (.cells #[.int .i64 (r1 : Int), .int .i64 (r2 : Int)] 3)).alloc (by first | (simp; done) | (simp; omega)) (.cells #[.string k1, .string k2] 9))).drew bA bB
        have Q := Lib.hid q
        clear q
        go_simp; ((refine Calls.mono Q.out ?_); rintro e W1 ⟨n, p1, rfl, hn1, hn2, hTn, hc1⟩); go_wp2_with fail
        have hcw : TCh w W1 base p p1 N (updT T n (some (topN [(k1, r1), (k2, r2)]))) := hc1.pre ((((Below.refl w.heap.size w).alloc (Nat.le_refl _) (.cells #[.int .i64 (r1 : Int), .int .i64 (r2 : Int)] 3)).alloc (by first | (simp; done) | (simp; omega)) (.cells #[.string k1, .string k2] 9))).drew (Nat.le_refl _)
        obtain ⟨gw1, hgw1⟩ : ∃ g, g = W1.heap.size := ⟨_, rfl⟩
        refine hK.out _ _ ?_ (fun hU => ?_)
        · intro x hx hl; simp only [List.mem_cons, List.mem_nil_iff, or_false] at hx; rcases hx with rfl | rfl; exact Bool.noConfusion (Eq.trans (by kernel_rfl) hl : true = false); exact Bool.noConfusion (Eq.trans (by kernel_rfl) hl : true = false)
        clear hK KK
        (try simp only [Act.put, List.setIfInBounds_toArray, List.set_cons_zero, List.set_cons_succ])
        refine take_L [] (i := 21) (v := ?_) (by simp only [List.getElem?_toArray, List.getElem?_cons_succ, List.getElem?_cons_zero]; rfl) (by kernel_rfl) (by kernel_rfl) (by kernel_rfl) (by simp) (by kernel_rfl) (by kernel_rfl) (fun _ _ _ h => h) (Or.inl ⟨by rfl, ?_⟩) hU ?_
        rotate_left
        · intro wz hSw; (try simp only [AllOf, List.mem_cons, List.mem_nil_iff, or_false, forall_eq, forall_eq_or_imp] at hSw); go_simp; try with_reducible rfl
        clear hU; intro hU
        (try simp only [Act.put, List.setIfInBounds_toArray, List.set_cons_zero, List.set_cons_succ])
        refine take_L [] (i := 22) (v := ?_) (by simp only [List.getElem?_toArray, List.getElem?_cons_succ, List.getElem?_cons_zero]; rfl) (by kernel_rfl) (by kernel_rfl) (by kernel_rfl) (by simp) (by kernel_rfl) (by kernel_rfl) (fun _ _ _ h => h) (Or.inl ⟨by rfl, ?_⟩) hU ?_
        rotate_left
        · intro wz hSw; (try simp only [AllOf, List.mem_cons, List.mem_nil_iff, or_false, forall_eq, forall_eq_or_imp] at hSw); go_simp; try with_reducible rfl
        clear hU; intro hU
        (try simp only [Act.put, List.setIfInBounds_toArray, List.set_cons_zero, List.set_cons_succ])
        refine take_L [] (i := 23) (v := ?_) (by simp only [List.getElem?_toArray, List.getElem?_cons_succ, List.getElem?_cons_zero]; rfl) (by kernel_rfl) (by kernel_rfl) (by kernel_rfl) (by simp) (by kernel_rfl) (by kernel_rfl) (fun _ _ _ h => h) (Or.inl ⟨by rfl, ?_⟩) hU ?_
        rotate_left
        · intro wz hSw; (try simp only [AllOf, List.mem_cons, List.mem_nil_iff, or_false, forall_eq, forall_eq_or_imp] at hSw); go_simp; try with_reducible rfl
        clear hU; intro hU
        (try simp only [Act.put, List.setIfInBounds_toArray, List.set_cons_zero, List.set_cons_succ])
        refine ready_L (rs := [24]) (by kernel_rfl) (by simp) ?_
        refine (AllReadyL.cons (by simp only [List.getElem?_toArray, List.getElem?_cons_succ, List.getElem?_cons_zero]; rfl) (fun KK hK => ?_) AllReadyL.nil)
        go_simp
        try rw [← hgw1]
        refine hK.out _ _ ?_ (fun hU => ?_)
        · intro x hx hl; simp only [List.mem_cons, List.mem_nil_iff, or_false] at hx; rcases hx with rfl | rfl; exact Bool.noConfusion (Eq.trans (by kernel_rfl) hl : true = false); exact Bool.noConfusion (Eq.trans (by kernel_rfl) hl : true = false)
        clear hK KK
        (try simp only [Act.put, List.setIfInBounds_toArray, List.set_cons_zero, List.set_cons_succ])
        have bC : Blk (W1.alloc (.cells #[.string .empty, .int .i64 0] 53)) gw1 53 [.string .empty, .int .i64 0] := Blk.new_at (cs := [.string .empty, .int .i64 0]) hgw1
        have bCc := bC.cells
        have bCf := bC.frees
        refine ready_L (rs := [25]) (by kernel_rfl) (by simp) ?_
        refine (AllReadyL.cons (by simp only [List.getElem?_toArray, List.getElem?_cons_succ, List.getElem?_cons_zero]; rfl) (fun KK hK => ?_) AllReadyL.nil)
        go_simp
        refine hK.out _ _ ?_ (fun hU => ?_)
        · intro x hx hl; simp only [List.mem_cons, List.mem_nil_iff, or_false] at hx; rcases hx with rfl | rfl; exact Bool.noConfusion (Eq.trans (by kernel_rfl) hl : true = false); exact Bool.noConfusion (Eq.trans (by kernel_rfl) hl : true = false)
        clear hK KK
        (try simp only [Act.put, List.setIfInBounds_toArray, List.set_cons_zero, List.set_cons_succ])
        refine take_L [] (i := 26) (v := ?_) (by simp only [List.getElem?_toArray, List.getElem?_cons_succ, List.getElem?_cons_zero]; rfl) (by kernel_rfl) (by kernel_rfl) (by kernel_rfl) (by simp) (by kernel_rfl) (by kernel_rfl) (fun _ _ _ h => h) (Or.inl ⟨by rfl, ?_⟩) hU ?_
        rotate_left
        · intro wz hSw; (try simp only [AllOf, List.mem_cons, List.mem_nil_iff, or_false, forall_eq, forall_eq_or_imp] at hSw); go_simp; try with_reducible rfl
        clear hU; intro hU
        (try simp only [Act.put, List.setIfInBounds_toArray, List.set_cons_zero, List.set_cons_succ])
        refine done_L (by kernel_rfl) ?_ _
        refine NoPanic.normal ?_
        have HCw := Lib.hid hcw
        clear hcw hU bC bCc bCf
        go_wp2
        go_ret2
        exact ⟨n, p1, rfl, hn1, hn2, hTn, HCw.out.below ((Below.refl _ _).alloc (Nat.le_refl _) _) (Nat.le_refl _)⟩
      · go_simp
        have s8 := HCells.out (((w.alloc (.cells #[.int .i64 (r1 : Int), .int .i64 (r2 : Int)] 3)).alloc (.cells #[.string k1, .string k2] 9)).alloc (.cells #[.string .empty, .int .i64 0] 53)).drew (((((Below.refl w.heap.size w).alloc (Nat.le_refl _) (.cells #[.int .i64 (r1 : Int), .int .i64 (r2 : Int)] 3)).alloc (by first | (simp; done) | (simp; omega)) (.cells #[.string k1, .string k2] 9)).alloc (by first | (simp; done) | (simp; omega)) (.cells #[.string .empty, .int .i64 0] 53))).drew
        refine hK.out _ _ ?_ (fun hU => ?_)
        · intro x hx hl; simp only [List.mem_cons, List.mem_nil_iff, or_false] at hx; rcases hx with rfl | rfl; exact ⟨s8.1, s8.2.1⟩; exact ⟨s8.2.2.1, s8.2.2.2⟩
        clear hK KK
        (try simp only [Act.put, List.setIfInBounds_toArray, List.set_cons_zero, List.set_cons_succ])
        refine ready_L (rs := [20]) (by kernel_rfl) (by simp) ?_
        refine (AllReadyL.cons (by simp only [List.getElem?_toArray, List.getElem?_cons_succ, List.getElem?_cons_zero]; rfl) (fun KK hK => ?_) AllReadyL.nil)
        have bA : Blk (((w.alloc (.cells #[.int .i64 (r1 : Int), .int .i64 (r2 : Int)] 3)).alloc (.cells #[.string k1, .string k2] 9)).alloc (.cells #[.string .empty, .int .i64 0] 53)).drew (w.heap.size + 1) 9 [.string k1, .string k2] := (((Blk.new_at (w := (w.alloc (.cells #[.int .i64 (r1 : Int), .int .i64 (r2 : Int)] 3))) (t := 9) (cs := [.string k1, .string k2]) (n := (w.heap.size + 1)) (by first | (simp; done) | (simp; omega))).alloc (.cells #[.string .empty, .int .i64 0] 53))).drew
        have bB : Blk (((w.alloc (.cells #[.int .i64 (r1 : Int), .int .i64 (r2 : Int)] 3)).alloc (.cells #[.string k1, .string k2] 9)).alloc (.cells #[.string .empty, .int .i64 0] 53)).drew w.heap.size 3 [.int .i64 (r1 : Int), .int .i64 (r2 : Int)] := ((((Blk.new_at (w := w) (t := 3) (cs := [.int .i64 (r1 : Int), .int .i64 (r2 : Int)]) (n := w.heap.size) (by first | (simp; done) | (simp; omega))).alloc (.cells #[.string k1, .string k2] 9)).alloc (.cells #[.string .empty, .int .i64 0] 53))).drew
        have q := HCall.out (((w.alloc (.cells #[.int .i64 (r1 : Int), .int .i64 (r2 : Int)] 3)).alloc (.cells #[.string k1, .string k2] 9)).alloc (.cells #[.string .empty, .int .i64 0] 53)).drew (w.heap.size + 1) w.heap.size (((((Below.refl w.heap.size w).alloc (Nat.le_refl _) (.cells #[.int .i64 (r1 : Int), .int .i64 (r2 : Int)] 3)).alloc (by first | (simp; done) | (simp; omega)) (.cells #[.string k1, .string k2] 9)).alloc (by first | (simp; done) | (simp; omega)) (.cells #[.string .empty, .int .i64 0] 53))).drew bA bB
        have Q := Lib.hid q
        clear q
        go_simp; ((refine Calls.mono Q.out ?_); rintro e W1 ⟨n, p1, rfl, hn1, hn2, hTn, hc1⟩); go_wp2_with fail
        have hcw : TCh w W1 base p p1 N (updT T n (some (topN [(k1, r1), (k2, r2)]))) := hc1.pre (((((Below.refl w.heap.size w).alloc (Nat.le_refl _) (.cells #[.int .i64 (r1 : Int), .int .i64 (r2 : Int)] 3)).alloc (by first | (simp; done) | (simp; omega)) (.cells #[.string k1, .string k2] 9)).alloc (by first | (simp; done) | (simp; omega)) (.cells #[.string .empty, .int .i64 0] 53))).drew (Nat.le_refl _)
        have bC0 : Blk (((w.alloc (.cells #[.int .i64 (r1 : Int), .int .i64 (r2 : Int)] 3)).alloc (.cells #[.string k1, .string k2] 9)).alloc (.cells #[.string .empty, .int .i64 0] 53)).drew (w.heap.size + 2) 53 [.string .empty, .int .i64 0] := ((Blk.new_at (w := ((w.alloc (.cells #[.int .i64 (r1 : Int), .int .i64 (r2 : Int)] 3)).alloc (.cells #[.string k1, .string k2] 9))) (t := 53) (cs := [.string .empty, .int .i64 0]) (n := (w.heap.size + 2)) (by first | (simp; done) | (simp; omega)))).drew
        have bC := hc1.K.blk bC0 (fun x => by have := HFt.out _ x; omega)
        have hnC : ¬ p1.foot (w.heap.size + 2) := hc1.away (fun x => by have := HFt.out _ x; omega) bC0.lt
        have bCc := bC.cells
        have bCf := bC.frees
        refine hK.out _ _ ?_ (fun hU => ?_)
        · intro x hx hl; simp only [List.mem_cons, List.mem_nil_iff, or_false] at hx; rcases hx with rfl | rfl; exact Bool.noConfusion (Eq.trans (by kernel_rfl) hl : true = false); exact Bool.noConfusion (Eq.trans (by kernel_rfl) hl : true = false)
        clear hK KK
        (try simp only [Act.put, List.setIfInBounds_toArray, List.set_cons_zero, List.set_cons_succ])
        refine take_L [] (i := 21) (v := ?_) (by simp only [List.getElem?_toArray, List.getElem?_cons_succ, List.getElem?_cons_zero]; rfl) (by kernel_rfl) (by kernel_rfl) (by kernel_rfl) (by simp) (by kernel_rfl) (by kernel_rfl) (fun _ _ _ h => h) (Or.inl ⟨by rfl, ?_⟩) hU ?_
        rotate_left
        · intro wz hSw; (try simp only [AllOf, List.mem_cons, List.mem_nil_iff, or_false, forall_eq, forall_eq_or_imp] at hSw); go_simp; try with_reducible rfl
        clear hU; intro hU
        (try simp only [Act.put, List.setIfInBounds_toArray, List.set_cons_zero, List.set_cons_succ])
        refine take_L [] (i := 22) (v := ?_) (by simp only [List.getElem?_toArray, List.getElem?_cons_succ, List.getElem?_cons_zero]; rfl) (by kernel_rfl) (by kernel_rfl) (by kernel_rfl) (by simp) (by kernel_rfl) (by kernel_rfl) (fun _ _ _ h => h) (Or.inl ⟨by rfl, ?_⟩) hU ?_
        rotate_left
        · intro wz hSw; (try simp only [AllOf, List.mem_cons, List.mem_nil_iff, or_false, forall_eq, forall_eq_or_imp] at hSw); go_simp; try with_reducible rfl
        clear hU; intro hU
        (try simp only [Act.put, List.setIfInBounds_toArray, List.set_cons_zero, List.set_cons_succ])
        refine take_L [] (i := 23) (v := ?_) (by simp only [List.getElem?_toArray, List.getElem?_cons_succ, List.getElem?_cons_zero]; rfl) (by kernel_rfl) (by kernel_rfl) (by kernel_rfl) (by simp) (by kernel_rfl) (by kernel_rfl) (fun _ _ _ h => h) (Or.inl ⟨by rfl, ?_⟩) hU ?_
        rotate_left
        · intro wz hSw; (try simp only [AllOf, List.mem_cons, List.mem_nil_iff, or_false, forall_eq, forall_eq_or_imp] at hSw); go_simp; try with_reducible rfl
        clear hU; intro hU
        (try simp only [Act.put, List.setIfInBounds_toArray, List.set_cons_zero, List.set_cons_succ])
        refine ready_L (rs := [25]) (by kernel_rfl) (by simp) ?_
        refine (AllReadyL.cons (by simp only [List.getElem?_toArray, List.getElem?_cons_succ, List.getElem?_cons_zero]; rfl) (fun KK hK => ?_) AllReadyL.nil)
        go_simp
        refine hK.out _ _ ?_ (fun hU => ?_)
        · intro x hx hl; simp only [List.mem_cons, List.mem_nil_iff, or_false] at hx; rcases hx with rfl | rfl; exact Bool.noConfusion (Eq.trans (by kernel_rfl) hl : true = false); exact Bool.noConfusion (Eq.trans (by kernel_rfl) hl : true = false)
        clear hK KK
        (try simp only [Act.put, List.setIfInBounds_toArray, List.set_cons_zero, List.set_cons_succ])
        refine take_L [] (i := 26) (v := ?_) (by simp only [List.getElem?_toArray, List.getElem?_cons_succ, List.getElem?_cons_zero]; rfl) (by kernel_rfl) (by kernel_rfl) (by kernel_rfl) (by simp) (by kernel_rfl) (by kernel_rfl) (fun _ _ _ h => h) (Or.inl ⟨by rfl, ?_⟩) hU ?_
        rotate_left
        · intro wz hSw; (try simp only [AllOf, List.mem_cons, List.mem_nil_iff, or_false, forall_eq, forall_eq_or_imp] at hSw); go_simp; try with_reducible rfl
        clear hU; intro hU
        (try simp only [Act.put, List.setIfInBounds_toArray, List.set_cons_zero, List.set_cons_succ])
        refine done_L (by kernel_rfl) ?_ _
        refine NoPanic.normal ?_
        have HF := Lib.hid (fun W (k : Kept (fun b => b = (w.heap.size + 2)) W1 W) => hcw.kept k (fun b e => ⟨by omega, by rw [e]; exact hnC⟩))
        clear hcw hU
        go_wp2
        go_ret2
        exact ⟨n, p1, rfl, hn1, hn2, hTn, HF.out _ (Kept.setCell_.trans Kept.setCell_ (fun _ _ x => x))⟩
    · go_simp
      have s8 := HCells.out ((w.alloc (.cells #[.int .i64 (r1 : Int), .int .i64 (r2 : Int)] 3)).alloc (.cells #[.string .empty, .int .i64 0] 53)).drew ((((Below.refl w.heap.size w).alloc (Nat.le_refl _) (.cells #[.int .i64 (r1 : Int), .int .i64 (r2 : Int)] 3)).alloc (by first | (simp; done) | (simp; omega)) (.cells #[.string .empty, .int .i64 0] 53))).drew
      refine hK.out _ _ ?_ (fun hU => ?_)
      · intro x hx hl; simp only [List.mem_cons, List.mem_nil_iff, or_false] at hx; rcases hx with rfl | rfl; exact ⟨s8.1, s8.2.1⟩; exact ⟨s8.2.2.1, s8.2.2.2⟩
      clear hK KK
      (try simp only [Act.put, List.setIfInBounds_toArray, List.set_cons_zero, List.set_cons_succ])
      refine ready_L (rs := [9]) (by kernel_rfl) (by simp) ?_
      refine (AllReadyL.cons (by simp only [List.getElem?_toArray, List.getElem?_cons_succ, List.getElem?_cons_zero]; rfl) (fun KK hK => ?_) AllReadyL.nil)
      go_simp
      have s8 := HCells.out (((w.alloc (.cells #[.int .i64 (r1 : Int), .int .i64 (r2 : Int)] 3)).alloc (.cells #[.string .empty, .int .i64 0] 53)).alloc (.cells #[.string k1, .string k2] 9)).drew (((((Below.refl w.heap.size w).alloc (Nat.le_refl _) (.cells #[.int .i64 (r1 : Int), .int .i64 (r2 : Int)] 3)).alloc (by first | (simp; done) | (simp; omega)) (.cells #[.string .empty, .int .i64 0] 53)).alloc (by first | (simp; done) | (simp; omega)) (.cells #[.string k1, .string k2] 9))).drew
      refine hK.out _ _ ?_ (fun hU => ?_)
      · intro x hx hl; simp only [List.mem_cons, List.mem_nil_iff, or_false] at hx; rcases hx with rfl | rfl; exact ⟨s8.1, s8.2.1⟩; exact ⟨s8.2.2.1, s8.2.2.2⟩
      clear hK KK
      (try simp only [Act.put, List.setIfInBounds_toArray, List.set_cons_zero, List.set_cons_succ])
      refine take_L [] (i := 19) (v := ?_) (by simp only [List.getElem?_toArray, List.getElem?_cons_succ, List.getElem?_cons_zero]; rfl) (by kernel_rfl) (by kernel_rfl) (by kernel_rfl) (by simp) (by kernel_rfl) (by kernel_rfl) (fun _ _ _ h => h) (Or.inl ⟨by rfl, ?_⟩) hU ?_
      rotate_left
      · intro wz hSw; (try simp only [AllOf, List.mem_cons, List.mem_nil_iff, or_false, forall_eq, forall_eq_or_imp] at hSw); go_simp; try with_reducible rfl
      clear hU; intro hU
      (try simp only [Act.put, List.setIfInBounds_toArray, List.set_cons_zero, List.set_cons_succ])
      refine ready_L (rs := [20]) (by kernel_rfl) (by simp) ?_
      refine (AllReadyL.cons (by simp only [List.getElem?_toArray, List.getElem?_cons_succ, List.getElem?_cons_zero]; rfl) (fun KK hK => ?_) AllReadyL.nil)
      have bA : Blk (((w.alloc (.cells #[.int .i64 (r1 : Int), .int .i64 (r2 : Int)] 3)).alloc (.cells #[.string .empty, .int .i64 0] 53)).alloc (.cells #[.string k1, .string k2] 9)).drew (w.heap.size + 2) 9 [.string k1, .string k2] := ((Blk.new_at (w := ((w.alloc (.cells #[.int .i64 (r1 : Int), .int .i64 (r2 : Int)] 3)).alloc (.cells #[.string .empty, .int .i64 0] 53))) (t := 9) (cs := [.string k1, .string k2]) (n := (w.heap.size + 2)) (by first | (simp; done) | (simp; omega)))).drew
      have bB : Blk (((w.alloc (.cells #[.int .i64 (r1 : Int), .int .i64 (r2 : Int)] 3)).alloc (.cells #[.string .empty, .int .i64 0] 53)).alloc (.cells #[.string k1, .string k2] 9)).drew w.heap.size 3 [.int .i64 (r1 : Int), .int .i64 (r2 : Int)] := ((((Blk.new_at (w := w) (t := 3) (cs := [.int .i64 (r1 : Int), .int .i64 (r2 : Int)]) (n := w.heap.size) (by first | (simp; done) | (simp; omega))).alloc (.cells #[.string .empty, .int .i64 0] 53)).alloc (.cells #[.string k1, .string k2] 9))).drew
      have q := HCall.out (((w.alloc (.cells #[.int .i64 (r1 : Int), .int .i64 (r2 : Int)] 3)).alloc (.cells #[.string .empty, .int .i64 0] 53)).alloc (.cells #[.string k1, .string k2] 9)).drew (w.heap.size + 2) w.heap.size (((((Below.refl w.heap.size w).alloc (Nat.le_refl _) (.cells #[.int .i64 (r1 : Int), .int .i64 (r2 : Int)] 3)).alloc (by first | (simp; done) | (simp; omega)) (.cells #[.string .empty, .int .i64 0] 53)).alloc (by first | (simp; done) | (simp; omega)) (.cells #[.string k1, .string k2] 9))).drew bA bB
      have Q := Lib.hid q
      clear q
      go_simp; ((refine Calls.mono Q.out ?_); rintro e W1 ⟨n, p1, rfl, hn1, hn2, hTn, hc1⟩); go_wp2_with fail
      have hcw : TCh w W1 base p p1 N (updT T n (some (topN [(k1, r1), (k2, r2)]))) := hc1.pre (((((Below.refl w.heap.size w).alloc (Nat.le_refl _) (.cells #[.int .i64 (r1 : Int), .int .i64 (r2 : Int)] 3)).alloc (by first | (simp; done) | (simp; omega)) (.cells #[.string .empty, .int .i64 0] 53)).alloc (by first | (simp; done) | (simp; omega)) (.cells #[.string k1, .string k2] 9))).drew (Nat.le_refl _)
      have bC0 : Blk (((w.alloc (.cells #[.int .i64 (r1 : Int), .int .i64 (r2 : Int)] 3)).alloc (.cells #[.string .empty, .int .i64 0] 53)).alloc (.cells #[.string k1, .string k2] 9)).drew (w.heap.size + 1) 53 [.string .empty, .int .i64 0] := (((Blk.new_at (w := (w.alloc (.cells #[.int .i64 (r1 : Int), .int .i64 (r2 : Int)] 3))) (t := 53) (cs := [.string .empty, .int .i64 0]) (n := (w.heap.size + 1)) (by first | (simp; done) | (simp; omega))).alloc (.cells #[.string k1, .string k2] 9))).drew
      have bC := hc1.K.blk bC0 (fun x => by have := HFt.out _ x; omega)
      have hnC : ¬ p1.foot (w.heap.size + 1) := hc1.away (fun x => by have := HFt.out _ x; omega) bC0.lt
      have bCc := bC.cells
      have bCf := bC.frees
      refine hK.out _ _ ?_ (fun hU => ?_)
      · intro x hx hl; simp only [List.mem_cons, List.mem_nil_iff, or_false] at hx; rcases hx with rfl | rfl; exact Bool.noConfusion (Eq.trans (by kernel_rfl) hl : true = false); exact Bool.noConfusion (Eq.trans (by kernel_rfl) hl : true = false)
      clear hK KK
      (try simp only [Act.put, List.setIfInBounds_toArray, List.set_cons_zero, List.set_cons_succ])
      refine take_L [] (i := 21) (v := ?_) (by simp only [List.getElem?_toArray, List.getElem?_cons_succ, List.getElem?_cons_zero]; rfl) (by kernel_rfl) (by kernel_rfl) (by kernel_rfl) (by simp) (by kernel_rfl) (by kernel_rfl) (fun _ _ _ h => h) (Or.inl ⟨by rfl, ?_⟩) hU ?_
      rotate_left
      · intro wz hSw; (try simp only [AllOf, List.mem_cons, List.mem_nil_iff, or_false, forall_eq, forall_eq_or_imp] at hSw); go_simp; try with_reducible rfl
      clear hU; intro hU
      (try simp only [Act.put, List.setIfInBounds_toArray, List.set_cons_zero, List.set_cons_succ])
      refine take_L [] (i := 22) (v := ?_) (by simp only [List.getElem?_toArray, List.getElem?_cons_succ, List.getElem?_cons_zero]; rfl) (by kernel_rfl) (by kernel_rfl) (by kernel_rfl) (by simp) (by kernel_rfl) (by kernel_rfl) (fun _ _ _ h => h) (Or.inl ⟨by rfl, ?_⟩) hU ?_
      rotate_left
      · intro wz hSw; (try simp only [AllOf, List.mem_cons, List.mem_nil_iff, or_false, forall_eq, forall_eq_or_imp] at hSw); go_simp; try with_reducible rfl
      clear hU; intro hU
      (try simp only [Act.put, List.setIfInBounds_toArray, List.set_cons_zero, List.set_cons_succ])
      refine take_L [] (i := 23) (v := ?_) (by simp only [List.getElem?_toArray, List.getElem?_cons_succ, List.getElem?_cons_zero]; rfl) (by kernel_rfl) (by kernel_rfl) (by kernel_rfl) (by simp) (by kernel_rfl) (by kernel_rfl) (fun _ _ _ h => h) (Or.inl ⟨by rfl, ?_⟩) hU ?_
      rotate_left
      · intro wz hSw; (try simp only [AllOf, List.mem_cons, List.mem_nil_iff, or_false, forall_eq, forall_eq_or_imp] at hSw); go_simp; try with_reducible rfl
      clear hU; intro hU
      (try simp only [Act.put, List.setIfInBounds_toArray, List.set_cons_zero, List.set_cons_succ])
      refine ready_L (rs := [25]) (by kernel_rfl) (by simp) ?_
      refine (AllReadyL.cons (by simp only [List.getElem?_toArray, List.getElem?_cons_succ, List.getElem?_cons_zero]; rfl) (fun KK hK => ?_) AllReadyL.nil)
      go_simp
      refine hK.out _ _ ?_ (fun hU => ?_)
      · intro x hx hl; simp only [List.mem_cons, List.mem_nil_iff, or_false] at hx; rcases hx with rfl | rfl; exact Bool.noConfusion (Eq.trans (by kernel_rfl) hl : true = false); exact Bool.noConfusion (Eq.trans (by kernel_rfl) hl : true = false)
      clear hK KK
      (try simp only [Act.put, List.setIfInBounds_toArray, List.set_cons_zero, List.set_cons_succ])
      refine take_L [] (i := 26) (v := ?_) (by simp only [List.getElem?_toArray, List.getElem?_cons_succ, List.getElem?_cons_zero]; rfl) (by kernel_rfl) (by kernel_rfl) (by kernel_rfl) (by simp) (by kernel_rfl) (by kernel_rfl) (fun _ _ _ h => h) (Or.inl ⟨by rfl, ?_⟩) hU ?_
      rotate_left
      · intro wz hSw; (try simp only [AllOf, List.mem_cons, List.mem_nil_iff, or_false, forall_eq, forall_eq_or_imp] at hSw); go_simp; try with_reducible rfl
      clear hU; intro hU
      (try simp only [Act.put, List.setIfInBounds_toArray, List.set_cons_zero, List.set_cons_succ])
      refine done_L (by kernel_rfl) ?_ _
      refine NoPanic.normal ?_
      have HF := Lib.hid (fun W (k : Kept (fun b => b = (w.heap.size + 1)) W1 W) => hcw.kept k (fun b e => ⟨by omega, by rw [e]; exact hnC⟩))
      clear hcw hU
      go_wp2
      go_ret2
      exact ⟨n, p1, rfl, hn1, hn2, hTn, HF.out _ (Kept.setCell_.trans Kept.setCell_ (fun _ _ x => x))⟩
  · go_simp
    have s8 := HCells.out (w.alloc (.cells #[.string .empty, .int .i64 0] 53)).drew (((Below.refl w.heap.size w).alloc (Nat.le_refl _) (.cells #[.string .empty, .int .i64 0] 53))).drew
    refine hK.out _ _ ?_ (fun hU => ?_)
    · intro x hx hl; simp only [List.mem_cons, List.mem_nil_iff, or_false] at hx; rcases hx with rfl | rfl; exact ⟨s8.1, s8.2.1⟩; exact ⟨s8.2.2.1, s8.2.2.2⟩
    clear hK KK
    (try simp only [Act.put, List.setIfInBounds_toArray, List.set_cons_zero, List.set_cons_succ])
    refine ready_L (rs := [9, 18]) (by kernel_rfl) (by simp) ?_
    refine (AllReadyL.cons (by simp only [List.getElem?_toArray, List.getElem?_cons_succ, List.getElem?_cons_zero]; rfl) (fun KK hK => ?_) (AllReadyL.cons (by simp only [List.getElem?_toArray, List.getElem?_cons_succ, List.getElem?_cons_zero]; rfl) (fun KK hK => ?_) AllReadyL.nil))
    · go_simp
      have s8 := HCells.out ((w.alloc (.cells #[.string .empty, .int .i64 0] 53)).alloc (.cells #[.string k1, .string k2] 9)).drew ((((Below.refl w.heap.size w).alloc (Nat.le_refl _) (.cells #[.string .empty, .int .i64 0] 53)).alloc (by first | (simp; done) | (simp; omega)) (.cells #[.string k1, .string k2] 9))).drew
      refine hK.out _ _ ?_ (fun hU => ?_)
      · intro x hx hl; simp only [List.mem_cons, List.mem_nil_iff, or_false] at hx; rcases hx with rfl | rfl; exact ⟨s8.1, s8.2.1⟩; exact ⟨s8.2.2.1, s8.2.2.2⟩
      clear hK KK
      (try simp only [Act.put, List.setIfInBounds_toArray, List.set_cons_zero, List.set_cons_succ])
      refine ready_L (rs := [18]) (by kernel_rfl) (by simp) ?_
      refine (AllReadyL.cons (by simp only [List.getElem?_toArray, List.getElem?_cons_succ, List.getElem?_cons_zero]; rfl) (fun KK hK => ?_) AllReadyL.nil)
      go_simp
      have s8 := HCells.out (((w.alloc (.cells #[.string .empty, .int .i64 0] 53)).alloc (.cells #[.string k1, .string k2] 9)).alloc (.cells #[.int .i64 (r1 : Int), .int .i64 (r2 : Int)] 3)).drew (((((Below.refl w.heap.size w).alloc (Nat.le_refl _) (.cells #[.string .empty, .int .i64 0] 53)).alloc (by first | (simp; done) | (simp; omega)) (.cells #[.string k1, .string k2] 9)).alloc (by first | (simp; done) | (simp; omega)) (.cells #[.int .i64 (r1 : Int), .int .i64 (r2 : Int)] 3))).drew
      refine hK.out _ _ ?_ (fun hU => ?_)
      · intro x hx hl; simp only [List.mem_cons, List.mem_nil_iff, or_false] at hx; rcases hx with rfl | rfl; exact ⟨s8.1, s8.2.1⟩; exact ⟨s8.2.2.1, s8.2.2.2⟩
      clear hK KK
      (try simp only [Act.put, List.setIfInBounds_toArray, List.set_cons_zero, List.set_cons_succ])
      refine take_L [] (i := 19) (v := ?_) (by simp only [List.getElem?_toArray, List.getElem?_cons_succ, List.getElem?_cons_zero]; rfl) (by kernel_rfl) (by kernel_rfl) (by kernel_rfl) (by simp) (by kernel_rfl) (by kernel_rfl) (fun _ _ _ h => h) (Or.inl ⟨by rfl, ?_⟩) hU ?_
      rotate_left
      · intro wz hSw; (try simp only [AllOf, List.mem_cons, List.mem_nil_iff, or_false, forall_eq, forall_eq_or_imp] at hSw); go_simp; try with_reducible rfl
      clear hU; intro hU
      (try simp only [Act.put, List.setIfInBounds_toArray, List.set_cons_zero, List.set_cons_succ])
      refine ready_L (rs := [20]) (by kernel_rfl) (by simp) ?_
      refine (AllReadyL.cons (by simp only [List.getElem?_toArray, List.getElem?_cons_succ, List.getElem?_cons_zero]; rfl) (fun KK hK => ?_) AllReadyL.nil)
      have bA : Blk (((w.alloc (.cells #[.string .empty, .int .i64 0] 53)).alloc (.cells #[.string k1, .string k2] 9)).alloc (.cells #[.int .i64 (r1 : Int), .int .i64 (r2 : Int)] 3)).drew (w.heap.size + 1) 9 [.string k1, .string k2] := (((Blk.new_at (w := (w.alloc (.cells #[.string .empty, .int .i64 0] 53))) (t := 9) (cs := [.string k1, .string k2]) (n := (w.heap.size + 1)) (by first | (simp; done) | (simp; omega))).alloc (.cells #[.int .i64 (r1 : Int), .int .i64 (r2 : Int)] 3))).drew
      have bB : Blk (((w.alloc (.cells #[.string .empty, .int .i64 0] 53)).alloc (.cells #[.string k1, .string k2] 9)).alloc (.cells #[.int .i64 (r1 : Int), .int .i64 (r2 : Int)] 3)).drew (w.heap.size + 2) 3 [.int .i64 (r1 : Int), .int .i64 (r2 : Int)] := ((Blk.new_at (w := ((w.alloc (.cells #[.string .empty, .int .i64 0] 53)).alloc (.cells #[.string k1, .string k2] 9))) (t := 3) (cs := [.int .i64 (r1 : Int), .int .i64 (r2 : Int)]) (n := (w.heap.size + 2)) (by first | (simp; done) | (simp; omega)))).drew
      have q := HCall.out (((w.alloc (.cells #[.string .empty, .int .i64 0] 53)).alloc (.cells #[.string k1, .string k2] 9)).alloc (.cells #[.int .i64 (r1 : Int), .int .i64 (r2 : Int)] 3)).drew (w.heap.size + 1) (w.heap.size + 2) (((((Below.refl w.heap.size w).alloc (Nat.le_refl _) (.cells #[.string .empty, .int .i64 0] 53)).alloc (by first | (simp; done) | (simp; omega)) (.cells #[.string k1, .string k2] 9)).alloc (by first | (simp; done) | (simp; omega)) (.cells #[.int .i64 (r1 : Int), .int .i64 (r2 : Int)] 3))).drew bA bB
      have Q := Lib.hid q
      clear q
      go_simp; ((refine Calls.mono Q.out ?_); rintro e W1 ⟨n, p1, rfl, hn1, hn2, hTn, hc1⟩); go_wp2_with fail
      have hcw : TCh w W1 base p p1 N (updT T n (some (topN [(k1, r1), (k2, r2)]))) := hc1.pre (((((Below.refl w.heap.size w).alloc (Nat.le_refl _) (.cells #[.string .empty, .int .i64 0] 53)).alloc (by first | (simp; done) | (simp; omega)) (.cells #[.string k1, .string k2] 9)).alloc (by first | (simp; done) | (simp; omega)) (.cells #[.int .i64 (r1 : Int), .int .i64 (r2 : Int)] 3))).drew (Nat.le_refl _)
      have bC0 : Blk (((w.alloc (.cells #[.string .empty, .int .i64 0] 53)).alloc (.cells #[.string k1, .string k2] 9)).alloc (.cells #[.int .i64 (r1 : Int), .int .i64 (r2 : Int)] 3)).drew w.heap.size 53 [.string .empty, .int .i64 0] := ((((Blk.new_at (w := w) (t := 53) (cs := [.string .empty, .int .i64 0]) (n := w.heap.size) (by first | (simp; done) | (simp; omega))).alloc (.cells #[.string k1, .string k2] 9)).alloc (.cells #[.int .i64 (r1 : Int), .int .i64 (r2 : Int)] 3))).drew
      have bC := hc1.K.blk bC0 (fun x => by have := HFt.out _ x; omega)
      have hnC : ¬ p1.foot w.heap.size := hc1.away (fun x => by have := HFt.out _ x; omega) bC0.lt
      have bCc := bC.cells
      have bCf := bC.frees
      refine hK.out _ _ ?_ (fun hU => ?_)
      · intro x hx hl; simp only [List.mem_cons, List.mem_nil_iff, or_false] at hx; rcases hx with rfl | rfl; exact Bool.noConfusion (Eq.trans (by kernel_rfl) hl : true = false); exact Bool.noConfusion (Eq.trans (by kernel_rfl) hl : true = false)
      clear hK KK
      (try simp only [Act.put, List.setIfInBounds_toArray, List.set_cons_zero, List.set_cons_succ])
      refine take_L [] (i := 21) (v := ?_) (by simp only [List.getElem?_toArray, List.getElem?_cons_succ, List.getElem?_cons_zero]; rfl) (by kernel_rfl) (by kernel_rfl) (by kernel_rfl) (by simp) (by kernel_rfl) (by kernel_rfl) (fun _ _ _ h => h) (Or.inl ⟨by rfl, ?_⟩) hU ?_
      rotate_left
      · intro wz hSw; (try simp only [AllOf, List.mem_cons, List.mem_nil_iff, or_false, forall_eq, forall_eq_or_imp] at hSw); go_simp; try with_reducible rfl
      clear hU; intro hU
      (try simp only [Act.put, List.setIfInBounds_toArray, List.set_cons_zero, List.set_cons_succ])
      refine take_L [] (i := 22) (v := ?_) (by simp only [List.getElem?_toArray, List.getElem?_cons_succ, List.getElem?_cons_zero]; rfl) (by kernel_rfl) (by kernel_rfl) (by kernel_rfl) (by simp) (by kernel_rfl) (by kernel_rfl) (fun _ _ _ h => h) (Or.inl ⟨by rfl, ?_⟩) hU ?_
      rotate_left
      · intro wz hSw; (try simp only [AllOf, List.mem_cons, List.mem_nil_iff, or_false, forall_eq, forall_eq_or_imp] at hSw); go_simp; try with_reducible rfl
      clear hU; intro hU
      (try simp only [Act.put, List.setIfInBounds_toArray, List.set_cons_zero, List.set_cons_succ])
      refine take_L [] (i := 23) (v := ?_) (by simp only [List.getElem?_toArray, List.getElem?_cons_succ, List.getElem?_cons_zero]; rfl) (by kernel_rfl) (by kernel_rfl) (by kernel_rfl) (by simp) (by kernel_rfl) (by kernel_rfl) (fun _ _ _ h => h) (Or.inl ⟨by rfl, ?_⟩) hU ?_
      rotate_left
      · intro wz hSw; (try simp only [AllOf, List.mem_cons, List.mem_nil_iff, or_false, forall_eq, forall_eq_or_imp] at hSw); go_simp; try with_reducible rfl
      clear hU; intro hU
      (try simp only [Act.put, List.setIfInBounds_toArray, List.set_cons_zero, List.set_cons_succ])
      refine ready_L (rs := [25]) (by kernel_rfl) (by simp) ?_
      refine (AllReadyL.cons (by simp only [List.getElem?_toArray, List.getElem?_cons_succ, List.getElem?_cons_zero]; rfl) (fun KK hK => ?_) AllReadyL.nil)
      go_simp
      refine hK.out _ _ ?_ (fun hU => ?_)
      · intro x hx hl; simp only [List.mem_cons, List.mem_nil_iff, or_false] at hx; rcases hx with rfl | rfl; exact Bool.noConfusion (Eq.trans (by kernel_rfl) hl : true = false); exact Bool.noConfusion (Eq.trans (by kernel_rfl) hl : true = false)
      clear hK KK
      (try simp only [Act.put, List.setIfInBounds_toArray, List.set_cons_zero, List.set_cons_succ])
      refine take_L [] (i := 26) (v := ?_) (by simp only [List.getElem?_toArray, List.getElem?_cons_succ, List.getElem?_cons_zero]; rfl) (by kernel_rfl) (by kernel_rfl) (by kernel_rfl) (by simp) (by kernel_rfl) (by kernel_rfl) (fun _ _ _ h => h) (Or.inl ⟨by rfl, ?_⟩) hU ?_
      rotate_left
      · intro wz hSw; (try simp only [AllOf, List.mem_cons, List.mem_nil_iff, or_false, forall_eq, forall_eq_or_imp] at hSw); go_simp; try with_reducible rfl
      clear hU; intro hU
      (try simp only [Act.put, List.setIfInBounds_toArray, List.set_cons_zero, List.set_cons_succ])
      refine done_L (by kernel_rfl) ?_ _
      refine NoPanic.normal ?_
      have HF := Lib.hid (fun W (k : Kept (fun b => b = w.heap.size) W1 W) => hcw.kept k (fun b e => ⟨by omega, by rw [e]; exact hnC⟩))
      clear hcw hU
      go_wp2
      go_ret2
      exact ⟨n, p1, rfl, hn1, hn2, hTn, HF.out _ (Kept.setCell_.trans Kept.setCell_ (fun _ _ x => x))⟩
    · go_simp
      have s8 := HCells.out ((w.alloc (.cells #[.string .empty, .int .i64 0] 53)).alloc (.cells #[.int .i64 (r1 : Int), .int .i64 (r2 : Int)] 3)).drew ((((Below.refl w.heap.size w).alloc (Nat.le_refl _) (.cells #[.string .empty, .int .i64 0] 53)).alloc (by first | (simp; done) | (simp; omega)) (.cells #[.int .i64 (r1 : Int), .int .i64 (r2 : Int)] 3))).drew
      refine hK.out _ _ ?_ (fun hU => ?_)
      · intro x hx hl; simp only [List.mem_cons, List.mem_nil_iff, or_false] at hx; rcases hx with rfl | rfl; exact ⟨s8.1, s8.2.1⟩; exact ⟨s8.2.2.1, s8.2.2.2⟩
      clear hK KK
      (try simp only [Act.put, List.setIfInBounds_toArray, List.set_cons_zero, List.set_cons_succ])
      refine ready_L (rs := [9]) (by kernel_rfl) (by simp) ?_
      refine (AllReadyL.cons (by simp only [List.getElem?_toArray, List.getElem?_cons_succ, List.getElem?_cons_zero]; rfl) (fun KK hK => ?_) AllReadyL.nil)
      go_simp
      have s8 := HCells.out (((w.alloc (.cells #[.string .empty, .int .i64 0] 53)).alloc (.cells #[.int .i64 (r1 : Int), .int .i64 (r2 : Int)] 3)).alloc (.cells #[.string k1, .string k2] 9)).drew (((((Below.refl w.heap.size w).alloc (Nat.le_refl _) (.cells #[.string .empty, .int .i64 0] 53)).alloc (by first | (simp; done) | (simp; omega)) (.cells #[.int .i64 (r1 : Int), .int .i64 (r2 : Int)] 3)).alloc (by first | (simp; done) | (simp; omega)) (.cells #[.string k1, .string k2] 9))).drew
      refine hK.out _ _ ?_ (fun hU => ?_)
      · intro x hx hl; simp only [List.mem_cons, List.mem_nil_iff, or_false] at hx; rcases hx with rfl | rfl; exact ⟨s8.1, s8.2.1⟩; exact ⟨s8.2.2.1, s8.2.2.2⟩
      clear hK KK
      (try simp only [Act.put, List.setIfInBounds_toArray, List.set_cons_zero, List.set_cons_succ])
      refine take_L [] (i := 19) (v := ?_) (by simp only [List.getElem?_toArray, List.getElem?_cons_succ, List.getElem?_cons_zero]; rfl) (by kernel_rfl) (by kernel_rfl) (by kernel_rfl) (by simp) (by kernel_rfl) (by kernel_rfl) (fun _ _ _ h => h) (Or.inl ⟨by rfl, ?_⟩) hU ?_
      rotate_left
      · intro wz hSw; (try simp only [AllOf, List.mem_cons, List.mem_nil_iff, or_false, forall_eq, forall_eq_or_imp] at hSw); go_simp; try with_reducible rfl
      clear hU; intro hU
      (try simp only [Act.put, List.setIfInBounds_toArray, List.set_cons_zero, List.set_cons_succ])
      refine ready_L (rs := [20]) (by kernel_rfl) (by simp) ?_
      refine (AllReadyL.cons (by simp only [List.getElem?_toArray, List.getElem?_cons_succ, List.getElem?_cons_zero]; rfl) (fun KK hK => ?_) AllReadyL.nil)
      have bA : Blk (((w.alloc (.cells #[.string .empty, .int .i64 0] 53)).alloc (.cells #[.int .i64 (r1 : Int), .int .i64 (r2 : Int)] 3)).alloc (.cells #[.string k1, .string k2] 9)).drew (w.heap.size + 2) 9 [.string k1, .string k2] := ((Blk.new_at (w := ((w.alloc (.cells #[.string .empty, .int .i64 0] 53)).alloc (.cells #[.int .i64 (r1 : Int), .int .i64 (r2 : Int)] 3))) (t := 9) (cs := [.string k1, .string k2]) (n := (w.heap.size + 2)) (by first | (simp; done) | (simp; omega)))).drew
      have bB : Blk (((w.alloc (.cells #[.string .empty, .int .i64 0] 53)).alloc (.cells #[.int .i64 (r1 : Int), .int .i64 (r2 : Int)] 3)).alloc (.cells #[.string k1, .string k2] 9)).drew (w.heap.size + 1) 3 [.int .i64 (r1 : Int), .int .i64 (r2 : Int)] := (((Blk.new_at (w := (w.alloc (.cells #[.string .empty, .int .i64 0] 53))) (t := 3) (cs := [.int .i64 (r1 : Int), .int .i64 (r2 : Int)]) (n := (w.heap.size + 1)) (by first | (simp; done) | (simp; omega))).alloc (.cells #[.string k1, .string k2] 9))).drew
      have q := HCall.out (((w.alloc (.cells #[.string .empty, .int .i64 0] 53)).alloc (.cells #[.int .i64 (r1 : Int), .int .i64 (r2 : Int)] 3)).alloc (.cells #[.string k1, .string k2] 9)).drew (w.heap.size + 2) (w.heap.size + 1) (((((Below.refl w.heap.size w).alloc (Nat.le_refl _) (.cells #[.string .empty, .int .i64 0] 53)).alloc (by first | (simp; done) | (simp; omega)) (.cells #[.int .i64 (r1 : Int), .int .i64 (r2 : Int)] 3)).alloc (by first | (simp; done) | (simp; omega)) (.cells #[.string k1, .string k2] 9))).drew bA bB
      have Q := Lib.hid q
      clear q
      go_simp; ((refine Calls.mono Q.out ?_); rintro e W1 ⟨n, p1, rfl, hn1, hn2, hTn, hc1⟩); go_wp2_with fail
      have hcw : TCh w W1 base p p1 N (updT T n (some (topN [(k1, r1), (k2, r2)]))) := hc1.pre (((((Below.refl w.heap.size w).alloc (Nat.le_refl _) (.cells #[.string .empty, .int .i64 0] 53)).alloc (by first | (simp; done) | (simp; omega)) (.cells #[.int .i64 (r1 : Int), .int .i64 (r2 : Int)] 3)).alloc (by first | (simp; done) | (simp; omega)) (.cells #[.string k1, .string k2] 9))).drew (Nat.le_refl _)
      have bC0 : Blk (((w.alloc (.cells #[.string .empty, .int .i64 0] 53)).alloc (.cells #[.int .i64 (r1 : Int), .int .i64 (r2 : Int)] 3)).alloc (.cells #[.string k1, .string k2] 9)).drew w.heap.size 53 [.string .empty, .int .i64 0] := ((((Blk.new_at (w := w) (t := 53) (cs := [.string .empty, .int .i64 0]) (n := w.heap.size) (by first | (simp; done) | (simp; omega))).alloc (.cells #[.int .i64 (r1 : Int), .int .i64 (r2 : Int)] 3)).alloc (.cells #[.string k1, .string k2] 9))).drew
      have bC := hc1.K.blk bC0 (fun x => by have := HFt.out _ x; omega)
      have hnC : ¬ p1.foot w.heap.size := hc1.away (fun x => by have := HFt.out _ x; omega) bC0.lt
      have bCc := bC.cells
      have bCf := bC.frees
      refine hK.out _ _ ?_ (fun hU => ?_)
      · intro x hx hl; simp only [List.mem_cons, List.mem_nil_iff, or_false] at hx; rcases hx with rfl | rfl; exact Bool.noConfusion (Eq.trans (by kernel_rfl) hl : true = false); exact Bool.noConfusion (Eq.trans (by kernel_rfl) hl : true = false)
      clear hK KK
      (try simp only [Act.put, List.setIfInBounds_toArray, List.set_cons_zero, List.set_cons_succ])
      refine take_L [] (i := 21) (v := ?_) (by simp only [List.getElem?_toArray, List.getElem?_cons_succ, List.getElem?_cons_zero]; rfl) (by kernel_rfl) (by kernel_rfl) (by kernel_rfl) (by simp) (by kernel_rfl) (by kernel_rfl) (fun _ _ _ h => h) (Or.inl ⟨by rfl, ?_⟩) hU ?_
      rotate_left
      · intro wz hSw; (try simp only [AllOf, List.mem_cons, List.mem_nil_iff, or_false, forall_eq, forall_eq_or_imp] at hSw); go_simp; try with_reducible rfl
      clear hU; intro hU
      (try simp only [Act.put, List.setIfInBounds_toArray, List.set_cons_zero, List.set_cons_succ])
      refine take_L [] (i := 22) (v := ?_) (by simp only [List.getElem?_toArray, List.getElem?_cons_succ, List.getElem?_cons_zero]; rfl) (by kernel_rfl) (by kernel_rfl) (by kernel_rfl) (by simp) (by kernel_rfl) (by kernel_rfl) (fun _ _ _ h => h) (Or.inl ⟨by rfl, ?_⟩) hU ?_
      rotate_left
      · intro wz hSw; (try simp only [AllOf, List.mem_cons, List.mem_nil_iff, or_false, forall_eq, forall_eq_or_imp] at hSw); go_simp; try with_reducible rfl
      clear hU; intro hU
      (try simp only [Act.put, List.setIfInBounds_toArray, List.set_cons_zero, List.set_cons_succ])
      refine take_L [] (i := 23) (v := ?_) (by simp only [List.getElem?_toArray, List.getElem?_cons_succ, List.getElem?_cons_zero]; rfl) (by kernel_rfl) (by kernel_rfl) (by kernel_rfl) (by simp) (by kernel_rfl) (by kernel_rfl) (fun _ _ _ h => h) (Or.inl ⟨by rfl, ?_⟩) hU ?_
      rotate_left
      · intro wz hSw; (try simp only [AllOf, List.mem_cons, List.mem_nil_iff, or_false, forall_eq, forall_eq_or_imp] at hSw); go_simp; try with_reducible rfl
      clear hU; intro hU
      (try simp only [Act.put, List.setIfInBounds_toArray, List.set_cons_zero, List.set_cons_succ])
      refine ready_L (rs := [25]) (by kernel_rfl) (by simp) ?_
      refine (AllReadyL.cons (by simp only [List.getElem?_toArray, List.getElem?_cons_succ, List.getElem?_cons_zero]; rfl) (fun KK hK => ?_) AllReadyL.nil)
      go_simp
      refine hK.out _ _ ?_ (fun hU => ?_)
      · intro x hx hl; simp only [List.mem_cons, List.mem_nil_iff, or_false] at hx; rcases hx with rfl | rfl; exact Bool.noConfusion (Eq.trans (by kernel_rfl) hl : true = false); exact Bool.noConfusion (Eq.trans (by kernel_rfl) hl : true = false)
      clear hK KK
      (try simp only [Act.put, List.setIfInBounds_toArray, List.set_cons_zero, List.set_cons_succ])
      refine take_L [] (i := 26) (v := ?_) (by simp only [List.getElem?_toArray, List.getElem?_cons_succ, List.getElem?_cons_zero]; rfl) (by kernel_rfl) (by kernel_rfl) (by kernel_rfl) (by simp) (by kernel_rfl) (by kernel_rfl) (fun _ _ _ h => h) (Or.inl ⟨by rfl, ?_⟩) hU ?_
      rotate_left
      · intro wz hSw; (try simp only [AllOf, List.mem_cons, List.mem_nil_iff, or_false, forall_eq, forall_eq_or_imp] at hSw); go_simp; try with_reducible rfl
      clear hU; intro hU
      (try simp only [Act.put, List.setIfInBounds_toArray, List.set_cons_zero, List.set_cons_succ])
      refine done_L (by kernel_rfl) ?_ _
      refine NoPanic.normal ?_
      have HF := Lib.hid (fun W (k : Kept (fun b => b = w.heap.size) W1 W) => hcw.kept k (fun b e => ⟨by omega, by rw [e]; exact hnC⟩))
      clear hcw hU
      go_wp2
      go_ret2
      exact ⟨n, p1, rfl, hn1, hn2, hTn, HF.out _ (Kept.setCell_.trans Kept.setCell_ (fun _ _ x => x))⟩
end Go.Proofs.Ytdakohbfibcjeaa
