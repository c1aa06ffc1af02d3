/- tree.Put's closure: a key that is not there comes into a leaf. (Printed by gen_pc.py.) No condition. -/
import Derived.Test.YtdakohbfibcjeaaPl
import Derived.Test.YtdakohbfibcjeaaLastL
import Derived.Deep.RegionHeld3
namespace Go.Proofs.Ytdakohbfibcjeaa
open Go.RowKit Go.Maps
set_option linter.unusedSimpArgs false
set_option linter.unusedVariables false

/-- a node with a key more -/
def insN (s : Nd) (at_ : Nat) (key val : ByteArray) : Nd := { s with keys := s.keys.take at_ ++ key :: s.keys.drop at_, vals := s.vals.take at_ ++ val :: s.vals.drop at_ }
theorem sl_ins (l : List ByteArray) (at_ : Nat) (v : ByteArray) : (sl l).take at_ ++ .string v :: (sl l).drop at_ = sl (l.take at_ ++ v :: l.drop at_) := by simp [sl, List.map_take, List.map_drop]
def PcTo (w0 : World) (base : Nat) (p0 p : TrS) (N : Nat) (T : Nodes) (gn : Nat) (s : Nd) (e : Ending) (w' : World) : Prop :=
  e = .returned (.bool true) ∧ TCh w0 w' base p0 p N T ∧ NdB w0 w' p gn (fun _ => False) s
set_option maxRecDepth 100000 in
set_option maxHeartbeats 8000000 in
theorem putc_any {w0 w : World} {base N gn at_ kx vx : Nat} {p0 p : TrS} {T : Nodes} {s : Nd} {key val : ByteArray} (h0 : TCh w0 w base p0 p N T)
    (hn : NdB w0 w p gn (fun b => b = kx ∨ b = vx) s) (hk : Blk w kx 9 [.string key]) (hv : Blk w vx 9 [.string val]) (hgk : kx ≠ gn) (hgv : vx ≠ gn) (hlf : s.leaf = true) (hl : s.vals.length = s.keys.length) (hk2 : s.keys.length ≤ 240)
    (hat : at_ ≤ s.keys.length) (hne : at_ < s.keys.length → kAt s at_ ≠ key) :
    Calls Try.prog 17 #[.pointer (some ⟨gn, 0, none⟩), .int .i64 (at_ : Int), .pointer (some ⟨kx, 0, none⟩), .pointer (some ⟨vx, 0, none⟩)] w (PcTo w0 base p0 p N T gn (insN s at_ key val)) := by
  obtain ⟨K, nk, ck, V, nv, cv, D, nd, cd, hb, ho, hgw, hgf, hX⟩ := hn
  have hnk := ho.nk_eq
  obtain rfl : nv = nk := by have := ho.nv_eq; omega
  have hkx : kx < w.heap.size := hk.lt
  have hvx : vx < w.heap.size := hv.lt
  have c1 : w.cell? ⟨gn, 1, none⟩ = some (.slice K nv ck) := hb.cell 1
  have d0 : w.cell? ⟨kx, 0, none⟩ = some (.string key) := hk.cell 0
  have HB := Lib.hid hb
  have HO := Lib.hid ho
  have H0 := Lib.hid h0
  have HKx := Lib.hid hk
  have HVx := Lib.hid hv
  have HX := Lib.hid hX
  have HGf := Lib.hid hgf
  have HLf := Lib.hid hlf
  clear hb ho h0 hk hv hX hgf hlf
  go_enter Try.func17, Try.ntmps17
  go_upto_region 1 with fail
  go_cut [24] (fun s24 wx => s24 = .bool false ∧ ∃ q, wx = w.drewN q)
  case first =>
    by_cases hlt : at_ < nv
    · have hnk2 : kAt s at_ ≠ key := hne (by omega)
      obtain ⟨b, hKe, hb1, hb2⟩ := HO.out.keys.head (by omega)
      subst hKe
      have ck0 : w.cell? ⟨b, at_, none⟩ = some (.string (kAt s at_)) := by
        have := sl_cell (own_ls HO.out.keys) at_ hlt
        rwa [Nat.zero_add] at this
      obtain ⟨kk, hkk⟩ : ∃ z, z = kAt s at_ := ⟨_, rfl⟩
      rw [← hkk] at ck0 hnk2
      clear hkk
      have h1 : decide ((at_ : Int) < (nv : Int)) = true := decide_eq_true (by omega)
      have h2 : (0 : Int) ≤ (at_ : Int) ∧ (at_ : Int) < (nv : Int) := by omega
      have h3 : (kk.toList == key.toList) = false := by rw [toList_inj]; exact decide_eq_false hnk2
      go_quiet (fail)
      go_wp2
      go_meet
      exact ⟨rfl, _, rfl⟩
    · have h1 : decide ((at_ : Int) < (nv : Int)) = false := decide_eq_false (by omega)
      have h2 : ¬ (at_ : Int) < (nv : Int) := by omega
      go_quiet (fail)
      go_wp2
      go_meet
      exact ⟨rfl, _, rfl⟩
  case rest =>
    obtain ⟨rfl, q, rfl⟩ := hcut
    go_upto_region 4 with fail
    refine wp_world (fun U => TCh w0 U base p0 p N T ∧ Blk U gn 59 [.bool s.leaf, .slice K nv ck, .slice V nv cv, .slice D nd cd] ∧ NdO U w0.heap.size s K nv ck V nv cv D nd cd ∧ Blk U kx 9 [.string key] ∧ Blk U vx 9 [.string val])
      ⟨H0.out.kept (F := fun _ => False) (kept_drewN (Kept.refl _ _) _) (fun _ x => x.elim), HB.out.drewN _, HO.out.kept (F := fun _ => False) (kept_drewN (Kept.refl _ _) _) (fun _ _ x => x), HKx.out.drewN _, HVx.out.drewN _⟩ ?_
    clear H0 HB HO HKx HVx c1 d0 hkx hvx
    rintro U ⟨hC, hb, ho, hk, hv⟩
    have hgnU : gn < U.heap.size := hb.lt
    have hkxU : kx < U.heap.size := hk.lt
    have hvxU : vx < U.heap.size := hv.lt
    have hft : ∀ b, p.foot b → b < U.heap.size := fun b e => (hC.tr.foot_base b e).2
    have hbs : w0.heap.size ≤ U.heap.size := hC.K.size
    have hX := HX.out
    have hKX : ∀ b, ablk K = some b → b ≠ gn ∧ b ≠ kx ∧ b ≠ vx := fun b e => ⟨(hX b (.inl e)).2.1, fun x => (hX b (.inl e)).2.2 (.inl x), fun x => (hX b (.inl e)).2.2 (.inr x)⟩
    have hVX : ∀ b, ablk V = some b → b ≠ gn ∧ b ≠ kx ∧ b ≠ vx := fun b e => ⟨(hX b (.inr (.inl e))).2.1, fun x => (hX b (.inr (.inl e))).2.2 (.inl x), fun x => (hX b (.inr (.inl e))).2.2 (.inr x)⟩
    -- what holds in a world that has only more
    have cells : ∀ W, Kept (fun b => ablk K = some b) U W → W.cell? ⟨gn, 1, none⟩ = some (.slice K nv ck) ∧ W.cell? ⟨gn, 2, none⟩ = some (.slice V nv cv) ∧ W.cell? ⟨kx, 0, none⟩ = some (.string key) ∧ W.cell? ⟨vx, 0, none⟩ = some (.string val) := fun W k =>
      have b1 := k.blk hb (fun e => (hKX _ e).1 rfl)
      ⟨b1.cell 1, b1.cell 2, (k.blk hk (fun e => (hKX _ e).2.1 rfl)).cell 0, (k.blk hv (fun e => (hKX _ e).2.2 rfl)).cell 0⟩
    have call1 : ∀ W vb, Below U.heap.size U W → Blk W vb 9 [.string key] → U.heap.size ≤ vb → Calls Try.prog 18 #[.slice K nv ck, .int .i64 (at_ : Int), .slice (some ⟨vb, 0, none⟩) 1 1] W (InsTo W w0.heap.size K nv 9 (sl (s.keys.take at_ ++ key :: s.keys.drop at_))) := fun W vb hW hvb hle => by
      rw [← sl_ins]
      exact ins_s_any (ho.keys.below hW (Nat.le_refl _)) (sl_oneCell _) hvb rfl (fun e => by have := (ho.keys.blk e).2; omega) (by omega) (by omega) (Nat.le_trans hbs hW.size)
    have call2 : ∀ W vb, Kept (fun b => ablk K = some b) U W → Blk W vb 9 [.string val] → U.heap.size ≤ vb → Calls Try.prog 18 #[.slice V nv cv, .int .i64 (at_ : Int), .slice (some ⟨vb, 0, none⟩) 1 1] W (InsTo W w0.heap.size V nv 9 (sl (s.vals.take at_ ++ val :: s.vals.drop at_))) := fun W vb hW hvb hle => by
      rw [← sl_ins]
      exact ins_s_any (own_kept ho.vals hW (fun b e e2 => ho.kv b e2 e)) (sl_oneCell _) hvb rfl (fun e => by have := (ho.vals.blk e).2; omega) (by omega) (by omega) (Nat.le_trans hbs hW.size)
    have last : ∀ W1 W2 W3 K' ck' V' cv', Own W1 w0.heap.size 9 1 K' (nv + 1) ck' (sl (s.keys.take at_ ++ key :: s.keys.drop at_)) → (ablk K' = ablk K ∨ ∃ g, ablk K' = some g ∧ U.heap.size ≤ g) → Kept (fun b => ablk K = some b) U W1 → Kept (fun _ => False) W1 W2 →
        Own W3 w0.heap.size 9 1 V' (nv + 1) cv' (sl (s.vals.take at_ ++ val :: s.vals.drop at_)) → (ablk V' = ablk V ∨ ∃ g, ablk V' = some g ∧ W2.heap.size ≤ g) → Kept (fun b => ablk V = some b) W2 W3 →
        (W3.cell? ⟨gn, 1, none⟩ = some (.slice K nv ck) ∧ W3.frozen? ⟨gn, 1, none⟩ = false) ∧ (Blk W3 gn 59 [.bool s.leaf, .slice K nv ck, .slice V nv cv, .slice D nd cd]) ∧ PcTo w0 base p0 p N T gn (insN s at_ key val) (.returned (.bool true)) ((W3.setCell ⟨gn, 1, none⟩ (.slice K' (nv + 1) ck')).setCell ⟨gn, 2, none⟩ (.slice V' (nv + 1) cv')) := by
      intro W1 W2 W3 K' ck' V' cv' o1 hA1 k1 k12 o3 hA3 k23
      have hK1 : ∀ b, ablk K' = some b → ablk K = some b ∨ U.heap.size ≤ b := fun b e => by
        rcases hA1 with e2 | ⟨g, e2, e3⟩
        · exact .inl (by rw [← e2]; exact e)
        · rw [e2] at e; injection e with e; exact .inr (by omega)
      have h12 := Nat.le_trans k1.size k12.size
      have hV1 : ∀ b, ablk V' = some b → ablk V = some b ∨ W2.heap.size ≤ b := fun b e => by
        rcases hA3 with e2 | ⟨g, e2, e3⟩
        · exact .inl (by rw [← e2]; exact e)
        · rw [e2] at e; injection e with e; exact .inr (by omega)
      have hkv : ∀ b, ablk K' = some b → ablk V ≠ some b := fun b e e2 => by
        rcases hK1 b e with e3 | e3
        · exact ho.kv b e3 e2
        · have := (ho.vals.blk e2).2; omega
      have hkv' : ∀ b, ablk K' = some b → ablk V' ≠ some b := fun b e e2 => by
        rcases hV1 b e2 with e3 | e3
        · exact hkv b e e3
        · have := (o1.blk e).2; have := k12.size; omega
      have kk : Kept (fun b => ablk K = some b ∨ ablk V = some b) U W3 := ((k1.trans k12 (fun _ _ x => x.elim)).mono (F' := fun b => ablk K = some b ∨ ablk V = some b) (fun _ _ e => .inl e)).trans k23 (fun _ _ e => .inr e)
      have o1' : Own W3 w0.heap.size 9 1 K' (nv + 1) ck' (sl (s.keys.take at_ ++ key :: s.keys.drop at_)) := own_kept (own_kept o1 k12 (fun _ _ x => x)) k23 (fun b e e2 => hkv b e e2)
      have r := NdB.set2 (X := fun _ => False) hb ho hgw HGf.out (fun b e => ⟨(hX b e).1, (hX b e).2.1, fun x => x⟩) o1' o3 kk hK1 (fun b e => by
        rcases hV1 b e with e3 | e3
        · exact .inl e3
        · exact .inr (by omega)) hkv' hft (fun _ x => x.elim)
      refine ⟨⟨r.1.cell 1, r.1.frozen 1⟩, r.1, rfl, ?_, r.2⟩
      refine (hC.kept kk (fun b e => ?_)).kept (Kept.setCell_.trans Kept.setCell_ (fun _ _ x => x)) (fun b e => by rw [e]; exact ⟨hgw, HGf.out⟩)
      rcases e with e | e
      · exact ⟨(ho.keys.blk e).1, (hX b (.inl e)).1⟩
      · exact ⟨(ho.vals.blk e).1, (hX b (.inr (.inl e))).1⟩
    have hKnew : ∀ b, U.heap.size ≤ b → ablk K ≠ some b := fun b e e2 => by have := (ho.keys.blk e2).2; omega
    have HCells := Lib.hid cells
    have HCall1 := Lib.hid call1
    have HCall2 := Lib.hid call2
    have HLast := Lib.hid last
    clear hC hb ho hk hv hft hX hKX hVX cells call1 call2 last HX HGf HLf
    have s0 := HCells.out U.drew (kept_drew (Kept.refl _ _))
    refine wp_region_noPanic ?_
    refine begin_L [(9, fun w' => w'.cell? ⟨gn, 1, none⟩ = some (.slice K nv ck)), (17, fun w' => w'.cell? ⟨gn, 2, none⟩ = some (.slice V nv cv)), (8, fun w' => w'.cell? ⟨kx, 0, none⟩ = some (.string key)), (16, fun w' => w'.cell? ⟨vx, 0, none⟩ = some (.string val))] (by kernel_rfl) ?_ ?_
    · intro x hx; simp only [List.mem_cons, List.mem_nil_iff, or_false] at hx; rcases hx with rfl | rfl | rfl | rfl; exact s0.1; exact s0.2.1; exact s0.2.2.1; exact s0.2.2.2
    intro hU
    try simp only [List.size_toArray, List.length_cons, List.length_nil]
    refine take_L [] (i := 0) (v := ?_) (by simp only [List.getElem?_toArray, List.getElem?_cons_succ, List.getElem?_cons_zero]; rfl) (by kernel_rfl) (by kernel_rfl) (by kernel_rfl) (by simp) (by kernel_rfl) (by kernel_rfl) (fun _ _ _ h => h) (Or.inl ⟨by rfl, ?_⟩) hU ?_
    rotate_left
    · intro wz hSw; (try simp only [AllOf, List.mem_cons, List.mem_nil_iff, or_false, forall_eq, forall_eq_or_imp] at hSw); go_simp; try with_reducible rfl
    clear hU; intro hU
    (try simp only [Act.put, List.setIfInBounds_toArray, List.set_cons_zero, List.set_cons_succ])
    refine take_L [] (i := 1) (v := ?_) (by simp only [List.getElem?_toArray, List.getElem?_cons_succ, List.getElem?_cons_zero]; rfl) (by kernel_rfl) (by kernel_rfl) (by kernel_rfl) (by simp) (by kernel_rfl) (by kernel_rfl) (fun _ _ _ h => h) (Or.inl ⟨by rfl, ?_⟩) hU ?_
    rotate_left
    · intro wz hSw; (try simp only [AllOf, List.mem_cons, List.mem_nil_iff, or_false, forall_eq, forall_eq_or_imp] at hSw); go_simp; try with_reducible rfl
    clear hU; intro hU
    (try simp only [Act.put, List.setIfInBounds_toArray, List.set_cons_zero, List.set_cons_succ])
    refine take_L [] (i := 2) (v := ?_) (by simp only [List.getElem?_toArray, List.getElem?_cons_succ, List.getElem?_cons_zero]; rfl) (by kernel_rfl) (by kernel_rfl) (by kernel_rfl) (by simp) (by kernel_rfl) (by kernel_rfl) (fun _ _ _ h => h) (Or.inl ⟨by rfl, ?_⟩) hU ?_
    rotate_left
    · intro wz hSw; (try simp only [AllOf, List.mem_cons, List.mem_nil_iff, or_false, forall_eq, forall_eq_or_imp] at hSw); go_simp; try with_reducible rfl
    clear hU; intro hU
    (try simp only [Act.put, List.setIfInBounds_toArray, List.set_cons_zero, List.set_cons_succ])
    refine take_L [] (i := 3) (v := ?_) (by simp only [List.getElem?_toArray, List.getElem?_cons_succ, List.getElem?_cons_zero]; rfl) (by kernel_rfl) (by kernel_rfl) (by kernel_rfl) (by simp) (by kernel_rfl) (by kernel_rfl) (fun _ _ _ h => h) (Or.inl ⟨by rfl, ?_⟩) hU ?_
    rotate_left
    · intro wz hSw; (try simp only [AllOf, List.mem_cons, List.mem_nil_iff, or_false, forall_eq, forall_eq_or_imp] at hSw); go_simp; try with_reducible rfl
    clear hU; intro hU
    (try simp only [Act.put, List.setIfInBounds_toArray, List.set_cons_zero, List.set_cons_succ])
    refine take_L [] (i := 4) (v := ?_) (by simp only [List.getElem?_toArray, List.getElem?_cons_succ, List.getElem?_cons_zero]; rfl) (by kernel_rfl) (by kernel_rfl) (by kernel_rfl) (by simp) (by kernel_rfl) (by kernel_rfl) (fun _ _ _ h => h) (Or.inl ⟨by rfl, ?_⟩) hU ?_
    rotate_left
    · intro wz hSw; (try simp only [AllOf, List.mem_cons, List.mem_nil_iff, or_false, forall_eq, forall_eq_or_imp] at hSw); go_simp; try with_reducible rfl
    clear hU; intro hU
    (try simp only [Act.put, List.setIfInBounds_toArray, List.set_cons_zero, List.set_cons_succ])
    refine take_L [(9, fun w' => w'.cell? ⟨gn, 1, none⟩ = some (.slice K nv ck))] (i := 5) (v := ?_) (by simp only [List.getElem?_toArray, List.getElem?_cons_succ, List.getElem?_cons_zero]; rfl) (by kernel_rfl) (by kernel_rfl) (by kernel_rfl) (by simp) (by kernel_rfl) (by kernel_rfl) (fun _ _ _ h => h) (Or.inl ⟨by rfl, ?_⟩) hU ?_
    rotate_left
    · intro wz hSw; (try simp only [AllOf, List.mem_cons, List.mem_nil_iff, or_false, forall_eq, forall_eq_or_imp] at hSw); go_simp; try with_reducible rfl
    clear hU; intro hU
    (try simp only [Act.put, List.setIfInBounds_toArray, List.set_cons_zero, List.set_cons_succ])
    refine take_L [] (i := 6) (v := ?_) (by simp only [List.getElem?_toArray, List.getElem?_cons_succ, List.getElem?_cons_zero]; rfl) (by kernel_rfl) (by kernel_rfl) (by kernel_rfl) (by simp) (by kernel_rfl) (by kernel_rfl) (fun _ _ _ h => h) (Or.inl ⟨by rfl, ?_⟩) hU ?_
    rotate_left
    · intro wz hSw; (try simp only [AllOf, List.mem_cons, List.mem_nil_iff, or_false, forall_eq, forall_eq_or_imp] at hSw); go_simp; try with_reducible rfl
    clear hU; intro hU
    (try simp only [Act.put, List.setIfInBounds_toArray, List.set_cons_zero, List.set_cons_succ])
    refine take_L [(8, fun w' => w'.cell? ⟨kx, 0, none⟩ = some (.string key))] (i := 7) (v := ?_) (by simp only [List.getElem?_toArray, List.getElem?_cons_succ, List.getElem?_cons_zero]; rfl) (by kernel_rfl) (by kernel_rfl) (by kernel_rfl) (by simp) (by kernel_rfl) (by kernel_rfl) (fun _ _ _ h => h) (Or.inl ⟨by rfl, ?_⟩) hU ?_
    rotate_left
    · intro wz hSw; (try simp only [AllOf, List.mem_cons, List.mem_nil_iff, or_false, forall_eq, forall_eq_or_imp] at hSw); go_simp; try with_reducible rfl
    clear hU; intro hU
    (try simp only [Act.put, List.setIfInBounds_toArray, List.set_cons_zero, List.set_cons_succ])
    refine take_L [] (i := 10) (v := ?_) (by simp only [List.getElem?_toArray, List.getElem?_cons_succ, List.getElem?_cons_zero]; rfl) (by kernel_rfl) (by kernel_rfl) (by kernel_rfl) (by simp) (by kernel_rfl) (by kernel_rfl) (fun _ _ _ h => h) (Or.inl ⟨by rfl, ?_⟩) hU ?_
    rotate_left
    · intro wz hSw; (try simp only [AllOf, List.mem_cons, List.mem_nil_iff, or_false, forall_eq, forall_eq_or_imp] at hSw); go_simp; try with_reducible rfl
    clear hU; intro hU
    (try simp only [Act.put, List.setIfInBounds_toArray, List.set_cons_zero, List.set_cons_succ])
    refine take_L [] (i := 11) (v := ?_) (by simp only [List.getElem?_toArray, List.getElem?_cons_succ, List.getElem?_cons_zero]; rfl) (by kernel_rfl) (by kernel_rfl) (by kernel_rfl) (by simp) (by kernel_rfl) (by kernel_rfl) (fun _ _ _ h => h) (Or.inl ⟨by rfl, ?_⟩) hU ?_
    rotate_left
    · intro wz hSw; (try simp only [AllOf, List.mem_cons, List.mem_nil_iff, or_false, forall_eq, forall_eq_or_imp] at hSw); go_simp; try with_reducible rfl
    clear hU; intro hU
    (try simp only [Act.put, List.setIfInBounds_toArray, List.set_cons_zero, List.set_cons_succ])
    refine take_L [] (i := 12) (v := ?_) (by simp only [List.getElem?_toArray, List.getElem?_cons_succ, List.getElem?_cons_zero]; rfl) (by kernel_rfl) (by kernel_rfl) (by kernel_rfl) (by simp) (by kernel_rfl) (by kernel_rfl) (fun _ _ _ h => h) (Or.inl ⟨by rfl, ?_⟩) hU ?_
    rotate_left
    · intro wz hSw; (try simp only [AllOf, List.mem_cons, List.mem_nil_iff, or_false, forall_eq, forall_eq_or_imp] at hSw); go_simp; try with_reducible rfl
    clear hU; intro hU
    (try simp only [Act.put, List.setIfInBounds_toArray, List.set_cons_zero, List.set_cons_succ])
    refine take_L [(17, fun w' => w'.cell? ⟨gn, 2, none⟩ = some (.slice V nv cv))] (i := 13) (v := ?_) (by simp only [List.getElem?_toArray, List.getElem?_cons_succ, List.getElem?_cons_zero]; rfl) (by kernel_rfl) (by kernel_rfl) (by kernel_rfl) (by simp) (by kernel_rfl) (by kernel_rfl) (fun _ _ _ h => h) (Or.inl ⟨by rfl, ?_⟩) hU ?_
    rotate_left
    · intro wz hSw; (try simp only [AllOf, List.mem_cons, List.mem_nil_iff, or_false, forall_eq, forall_eq_or_imp] at hSw); go_simp; try with_reducible rfl
    clear hU; intro hU
    (try simp only [Act.put, List.setIfInBounds_toArray, List.set_cons_zero, List.set_cons_succ])
    refine take_L [] (i := 14) (v := ?_) (by simp only [List.getElem?_toArray, List.getElem?_cons_succ, List.getElem?_cons_zero]; rfl) (by kernel_rfl) (by kernel_rfl) (by kernel_rfl) (by simp) (by kernel_rfl) (by kernel_rfl) (fun _ _ _ h => h) (Or.inl ⟨by rfl, ?_⟩) hU ?_
    rotate_left
    · intro wz hSw; (try simp only [AllOf, List.mem_cons, List.mem_nil_iff, or_false, forall_eq, forall_eq_or_imp] at hSw); go_simp; try with_reducible rfl
    clear hU; intro hU
    (try simp only [Act.put, List.setIfInBounds_toArray, List.set_cons_zero, List.set_cons_succ])
    refine take_L [(16, fun w' => w'.cell? ⟨vx, 0, none⟩ = some (.string val))] (i := 15) (v := ?_) (by simp only [List.getElem?_toArray, List.getElem?_cons_succ, List.getElem?_cons_zero]; rfl) (by kernel_rfl) (by kernel_rfl) (by kernel_rfl) (by simp) (by kernel_rfl) (by kernel_rfl) (fun _ _ _ h => h) (Or.inl ⟨by rfl, ?_⟩) hU ?_
    rotate_left
    · intro wz hSw; (try simp only [AllOf, List.mem_cons, List.mem_nil_iff, or_false, forall_eq, forall_eq_or_imp] at hSw); go_simp; try with_reducible rfl
    clear hU; intro hU
    (try simp only [Act.put, List.setIfInBounds_toArray, List.set_cons_zero, List.set_cons_succ])
    refine ready_L (rs := [8, 16]) (by kernel_rfl) (by simp) ?_
    refine AllReadyL.cons (by simp only [List.getElem?_toArray, List.getElem?_cons_succ, List.getElem?_cons_zero]; rfl) (fun KK hK => ?_) (AllReadyL.cons (by simp only [List.getElem?_toArray, List.getElem?_cons_succ, List.getElem?_cons_zero]; rfl) (fun KK hK => ?_) AllReadyL.nil)
    · go_simp
      have s8 := HCells.out (U.alloc (.cells #[.string key] 9)).drew (Kept.of_below ((((Below.refl U.heap.size U).alloc (Nat.le_refl _) (.cells #[.string key] 9))).drew) (Nat.le_refl _))
      refine hK.out _ _ ?_ (fun hU => ?_)
      · intro x hx hl; simp only [List.mem_cons, List.mem_nil_iff, or_false] at hx; rcases hx with rfl | rfl | rfl | rfl; exact s8.1; exact s8.2.1; exact s8.2.2.1; exact s8.2.2.2
      clear hK KK
      (try simp only [Act.put, List.setIfInBounds_toArray, List.set_cons_zero, List.set_cons_succ])
      refine ready_L (rs := [9, 16]) (by kernel_rfl) (by simp) ?_
      refine AllReadyL.cons (by simp only [List.getElem?_toArray, List.getElem?_cons_succ, List.getElem?_cons_zero]; rfl) (fun KK hK => ?_) (AllReadyL.cons (by simp only [List.getElem?_toArray, List.getElem?_cons_succ, List.getElem?_cons_zero]; rfl) (fun KK hK => ?_) AllReadyL.nil)
      · have q1 := HCall1.out (U.alloc (.cells #[.string key] 9)).drew U.heap.size ((((Below.refl U.heap.size U).alloc (Nat.le_refl _) (.cells #[.string key] 9))).drew) (Blk.new U 9 [.string key]).drew (Nat.le_refl _)
        have Q1 := Lib.hid q1
        clear q1
        go_simp; ((with_reducible refine Calls.mono Q1.out ?_); rintro e W1 ⟨K', ck', rfl, hoK, hAK, hK1⟩); go_wp2_with fail
        have k1 : Kept (fun b => ablk K = some b) U W1 := (Kept.of_below (F := fun b => ablk K = some b) ((((Below.refl U.heap.size U).alloc (Nat.le_refl _) (.cells #[.string key] 9))).drew) (Nat.le_refl _)).trans hK1 (fun _ _ x => x)
        have hAK1 : ablk K' = ablk K ∨ ∃ g, ablk K' = some g ∧ U.heap.size ≤ g := by
          rcases hAK with e | ⟨g, e, h⟩
          · exact .inl e
          · exact .inr ⟨g, e, Nat.le_trans (((((Below.refl U.heap.size U).alloc (Nat.le_refl _) (.cells #[.string key] 9))).drew)).size h⟩
        have s1 := HCells.out W1 k1
        refine hK.out _ _ ?_ (fun hU => ?_)
        · intro x hx hl; simp only [List.mem_cons, List.mem_nil_iff, or_false] at hx; rcases hx with rfl | rfl | rfl | rfl; exact s1.1; exact s1.2.1; exact s1.2.2.1; exact s1.2.2.2
        clear hK KK
        (try simp only [Act.put, List.setIfInBounds_toArray, List.set_cons_zero, List.set_cons_succ])
        refine ready_L (rs := [16]) (by kernel_rfl) (by simp) ?_
        refine AllReadyL.cons (by simp only [List.getElem?_toArray, List.getElem?_cons_succ, List.getElem?_cons_zero]; rfl) (fun KK hK => ?_) AllReadyL.nil
        go_simp
        have k12 : Kept (fun _ => False) W1 (W1.alloc (.cells #[.string val] 9)) := kept_alloc
        have s2 := HCells.out (W1.alloc (.cells #[.string val] 9)) (k1.trans k12 (fun _ _ x => x.elim))
        refine hK.out _ _ ?_ (fun hU => ?_)
        · intro x hx hl; simp only [List.mem_cons, List.mem_nil_iff, or_false] at hx; rcases hx with rfl | rfl | rfl | rfl; exact s2.1; exact s2.2.1; exact s2.2.2.1; exact s2.2.2.2
        clear hK KK
        (try simp only [Act.put, List.setIfInBounds_toArray, List.set_cons_zero, List.set_cons_succ])
        refine ready_L (rs := [17]) (by kernel_rfl) (by simp) ?_
        refine AllReadyL.cons (by simp only [List.getElem?_toArray, List.getElem?_cons_succ, List.getElem?_cons_zero]; rfl) (fun KK hK => ?_) AllReadyL.nil
        have q2 := HCall2.out (W1.alloc (.cells #[.string val] 9)) W1.heap.size (k1.trans k12 (fun _ _ x => x.elim)) (Blk.new W1 9 [.string val]) k1.size
        have Q2 := Lib.hid q2
        clear q2
        go_simp; ((with_reducible refine Calls.mono Q2.out ?_); rintro e W3 ⟨V', cv', rfl, hoV, hAV, hK3⟩); go_wp2_with fail
        have hL := HLast.out W1 (W1.alloc (.cells #[.string val] 9)) W3 K' ck' V' cv' hoK hAK1 k1 k12 hoV hAV hK3
        refine hK.out _ _ ?_ (fun hU => ?_)
        · intro x hx hl; simp only [List.mem_cons, List.mem_nil_iff, or_false] at hx; rcases hx with rfl | rfl | rfl | rfl; exact Bool.noConfusion (Eq.trans (by kernel_rfl) hl : true = false); exact Bool.noConfusion (Eq.trans (by kernel_rfl) hl : true = false); exact Bool.noConfusion (Eq.trans (by kernel_rfl) hl : true = false); exact Bool.noConfusion (Eq.trans (by kernel_rfl) hl : true = false)
        clear hK KK
        (try simp only [Act.put, List.setIfInBounds_toArray, List.set_cons_zero, List.set_cons_succ])
        refine take_L [] (i := 18) (v := ?_) (by simp only [List.getElem?_toArray, List.getElem?_cons_succ, List.getElem?_cons_zero]; rfl) (by kernel_rfl) (by kernel_rfl) (by kernel_rfl) (by simp) (by kernel_rfl) (by kernel_rfl) (fun _ _ _ h => h) (Or.inl ⟨by rfl, ?_⟩) hU ?_
        rotate_left
        · intro wz hSw; (try simp only [AllOf, List.mem_cons, List.mem_nil_iff, or_false, forall_eq, forall_eq_or_imp] at hSw); go_simp; try with_reducible rfl
        clear hU; intro hU
        (try simp only [Act.put, List.setIfInBounds_toArray, List.set_cons_zero, List.set_cons_succ])
        refine take_L [] (i := 19) (v := ?_) (by simp only [List.getElem?_toArray, List.getElem?_cons_succ, List.getElem?_cons_zero]; rfl) (by kernel_rfl) (by kernel_rfl) (by kernel_rfl) (by simp) (by kernel_rfl) (by kernel_rfl) (fun _ _ _ h => h) (Or.inl ⟨by rfl, ?_⟩) hU ?_
        rotate_left
        · intro wz hSw; (try simp only [AllOf, List.mem_cons, List.mem_nil_iff, or_false, forall_eq, forall_eq_or_imp] at hSw); go_simp; try with_reducible rfl
        clear hU; intro hU
        (try simp only [Act.put, List.setIfInBounds_toArray, List.set_cons_zero, List.set_cons_succ])
        have r1 := hL.1.1
        have r2 := hL.1.2
        have r3 := hL.2.1.set_ 1 (.slice K' (nv + 1) ck')
        have r3c := r3.cells
        have r3f := r3.frees
        refine ready_L (rs := [20]) (by kernel_rfl) (by simp) ?_
        refine AllReadyL.cons (by simp only [List.getElem?_toArray, List.getElem?_cons_succ, List.getElem?_cons_zero]; rfl) (fun KK hK => ?_) AllReadyL.nil
        go_simp
        refine hK.out _ _ ?_ (fun hU => ?_)
        · intro x hx hl; simp only [List.mem_cons, List.mem_nil_iff, or_false] at hx; rcases hx with rfl | rfl | rfl | rfl; exact Bool.noConfusion (Eq.trans (by kernel_rfl) hl : true = false); exact Bool.noConfusion (Eq.trans (by kernel_rfl) hl : true = false); exact Bool.noConfusion (Eq.trans (by kernel_rfl) hl : true = false); exact Bool.noConfusion (Eq.trans (by kernel_rfl) hl : true = false)
        clear hK KK
        (try simp only [Act.put, List.setIfInBounds_toArray, List.set_cons_zero, List.set_cons_succ])
        refine take_L [] (i := 21) (v := ?_) (by simp only [List.getElem?_toArray, List.getElem?_cons_succ, List.getElem?_cons_zero]; rfl) (by kernel_rfl) (by kernel_rfl) (by kernel_rfl) (by simp) (by kernel_rfl) (by kernel_rfl) (fun _ _ _ h => h) (Or.inl ⟨by rfl, ?_⟩) hU ?_
        rotate_left
        · intro wz hSw; (try simp only [AllOf, List.mem_cons, List.mem_nil_iff, or_false, forall_eq, forall_eq_or_imp] at hSw); go_simp; try with_reducible rfl
        clear hU; intro hU
        (try simp only [Act.put, List.setIfInBounds_toArray, List.set_cons_zero, List.set_cons_succ])
        refine take_L [] (i := 22) (v := ?_) (by simp only [List.getElem?_toArray, List.getElem?_cons_succ, List.getElem?_cons_zero]; rfl) (by kernel_rfl) (by kernel_rfl) (by kernel_rfl) (by simp) (by kernel_rfl) (by kernel_rfl) (fun _ _ _ h => h) (Or.inl ⟨by rfl, ?_⟩) hU ?_
        rotate_left
        · intro wz hSw; (try simp only [AllOf, List.mem_cons, List.mem_nil_iff, or_false, forall_eq, forall_eq_or_imp] at hSw); go_simp; try with_reducible rfl
        clear hU; intro hU
        (try simp only [Act.put, List.setIfInBounds_toArray, List.set_cons_zero, List.set_cons_succ])
        refine ready_L (rs := [23]) (by kernel_rfl) (by simp) ?_
        refine AllReadyL.cons (by simp only [List.getElem?_toArray, List.getElem?_cons_succ, List.getElem?_cons_zero]; rfl) (fun KK hK => ?_) AllReadyL.nil
        go_simp
        refine hK.out _ _ ?_ (fun hU => ?_)
        · intro x hx hl; simp only [List.mem_cons, List.mem_nil_iff, or_false] at hx; rcases hx with rfl | rfl | rfl | rfl; exact Bool.noConfusion (Eq.trans (by kernel_rfl) hl : true = false); exact Bool.noConfusion (Eq.trans (by kernel_rfl) hl : true = false); exact Bool.noConfusion (Eq.trans (by kernel_rfl) hl : true = false); exact Bool.noConfusion (Eq.trans (by kernel_rfl) hl : true = false)
        clear hK KK
        (try simp only [Act.put, List.setIfInBounds_toArray, List.set_cons_zero, List.set_cons_succ])
        have HFin := Lib.hid hL.2.2
        clear r1 r2 r3 r3c r3f hL hU
        refine done_L (by kernel_rfl) ?_ _
        refine NoPanic.normal ?_
        go_wp2
        go_ret
        exact HFin.out
      · go_simp
        have s8 := HCells.out ((U.alloc (.cells #[.string key] 9)).alloc (.cells #[.string val] 9)).drew (Kept.of_below ((((Below.refl U.heap.size U).alloc (Nat.le_refl _) (.cells #[.string key] 9)).alloc (by simp) (.cells #[.string val] 9)).drew) (Nat.le_refl _))
        refine hK.out _ _ ?_ (fun hU => ?_)
        · intro x hx hl; simp only [List.mem_cons, List.mem_nil_iff, or_false] at hx; rcases hx with rfl | rfl | rfl | rfl; exact s8.1; exact s8.2.1; exact s8.2.2.1; exact s8.2.2.2
        clear hK KK
        (try simp only [Act.put, List.setIfInBounds_toArray, List.set_cons_zero, List.set_cons_succ])
        refine ready_L (rs := [9]) (by kernel_rfl) (by simp) ?_
        refine AllReadyL.cons (by simp only [List.getElem?_toArray, List.getElem?_cons_succ, List.getElem?_cons_zero]; rfl) (fun KK hK => ?_) AllReadyL.nil
        have q1 := HCall1.out ((U.alloc (.cells #[.string key] 9)).alloc (.cells #[.string val] 9)).drew U.heap.size ((((Below.refl U.heap.size U).alloc (Nat.le_refl _) (.cells #[.string key] 9)).alloc (by simp) (.cells #[.string val] 9)).drew) ((Blk.new U 9 [.string key]).alloc _).drew (Nat.le_refl _)
        have Q1 := Lib.hid q1
        clear q1
        go_simp; ((with_reducible refine Calls.mono Q1.out ?_); rintro e W1 ⟨K', ck', rfl, hoK, hAK, hK1⟩); go_wp2_with fail
        have k1 : Kept (fun b => ablk K = some b) U W1 := (Kept.of_below (F := fun b => ablk K = some b) ((((Below.refl U.heap.size U).alloc (Nat.le_refl _) (.cells #[.string key] 9)).alloc (by simp) (.cells #[.string val] 9)).drew) (Nat.le_refl _)).trans hK1 (fun _ _ x => x)
        have hAK1 : ablk K' = ablk K ∨ ∃ g, ablk K' = some g ∧ U.heap.size ≤ g := by
          rcases hAK with e | ⟨g, e, h⟩
          · exact .inl e
          · exact .inr ⟨g, e, Nat.le_trans (((((Below.refl U.heap.size U).alloc (Nat.le_refl _) (.cells #[.string key] 9)).alloc (by simp) (.cells #[.string val] 9)).drew)).size h⟩
        have s1 := HCells.out W1 k1
        refine hK.out _ _ ?_ (fun hU => ?_)
        · intro x hx hl; simp only [List.mem_cons, List.mem_nil_iff, or_false] at hx; rcases hx with rfl | rfl | rfl | rfl; exact s1.1; exact s1.2.1; exact s1.2.2.1; exact s1.2.2.2
        clear hK KK
        (try simp only [Act.put, List.setIfInBounds_toArray, List.set_cons_zero, List.set_cons_succ])
        have bv0 : Blk ((U.alloc (.cells #[.string key] 9)).alloc (.cells #[.string val] 9)).drew (U.heap.size + 1) 9 [.string val] := by have h := (Blk.new (U.alloc (.cells #[.string key] 9)) 9 [.string val]).drew; rwa [show (U.alloc (.cells #[.string key] 9)).heap.size = U.heap.size + 1 from by simp] at h
        have bv : Blk W1 (U.heap.size + 1) 9 [.string val] := hK1.blk bv0 (fun e => hKnew _ (by omega) e)
        refine ready_L (rs := [17]) (by kernel_rfl) (by simp) ?_
        refine AllReadyL.cons (by simp only [List.getElem?_toArray, List.getElem?_cons_succ, List.getElem?_cons_zero]; rfl) (fun KK hK => ?_) AllReadyL.nil
        have q2 := HCall2.out W1 (U.heap.size + 1) k1 bv (by omega)
        have Q2 := Lib.hid q2
        clear q2
        go_simp; ((with_reducible refine Calls.mono Q2.out ?_); rintro e W3 ⟨V', cv', rfl, hoV, hAV, hK3⟩); go_wp2_with fail
        have hL := HLast.out W1 W1 W3 K' ck' V' cv' hoK hAK1 k1 (Kept.refl _ _) hoV hAV hK3
        refine hK.out _ _ ?_ (fun hU => ?_)
        · intro x hx hl; simp only [List.mem_cons, List.mem_nil_iff, or_false] at hx; rcases hx with rfl | rfl | rfl | rfl; exact Bool.noConfusion (Eq.trans (by kernel_rfl) hl : true = false); exact Bool.noConfusion (Eq.trans (by kernel_rfl) hl : true = false); exact Bool.noConfusion (Eq.trans (by kernel_rfl) hl : true = false); exact Bool.noConfusion (Eq.trans (by kernel_rfl) hl : true = false)
        clear hK KK
        (try simp only [Act.put, List.setIfInBounds_toArray, List.set_cons_zero, List.set_cons_succ])
        refine take_L [] (i := 18) (v := ?_) (by simp only [List.getElem?_toArray, List.getElem?_cons_succ, List.getElem?_cons_zero]; rfl) (by kernel_rfl) (by kernel_rfl) (by kernel_rfl) (by simp) (by kernel_rfl) (by kernel_rfl) (fun _ _ _ h => h) (Or.inl ⟨by rfl, ?_⟩) hU ?_
        rotate_left
        · intro wz hSw; (try simp only [AllOf, List.mem_cons, List.mem_nil_iff, or_false, forall_eq, forall_eq_or_imp] at hSw); go_simp; try with_reducible rfl
        clear hU; intro hU
        (try simp only [Act.put, List.setIfInBounds_toArray, List.set_cons_zero, List.set_cons_succ])
        refine take_L [] (i := 19) (v := ?_) (by simp only [List.getElem?_toArray, List.getElem?_cons_succ, List.getElem?_cons_zero]; rfl) (by kernel_rfl) (by kernel_rfl) (by kernel_rfl) (by simp) (by kernel_rfl) (by kernel_rfl) (fun _ _ _ h => h) (Or.inl ⟨by rfl, ?_⟩) hU ?_
        rotate_left
        · intro wz hSw; (try simp only [AllOf, List.mem_cons, List.mem_nil_iff, or_false, forall_eq, forall_eq_or_imp] at hSw); go_simp; try with_reducible rfl
        clear hU; intro hU
        (try simp only [Act.put, List.setIfInBounds_toArray, List.set_cons_zero, List.set_cons_succ])
        have r1 := hL.1.1
        have r2 := hL.1.2
        have r3 := hL.2.1.set_ 1 (.slice K' (nv + 1) ck')
        have r3c := r3.cells
        have r3f := r3.frees
        refine ready_L (rs := [20]) (by kernel_rfl) (by simp) ?_
        refine AllReadyL.cons (by simp only [List.getElem?_toArray, List.getElem?_cons_succ, List.getElem?_cons_zero]; rfl) (fun KK hK => ?_) AllReadyL.nil
        go_simp
        refine hK.out _ _ ?_ (fun hU => ?_)
        · intro x hx hl; simp only [List.mem_cons, List.mem_nil_iff, or_false] at hx; rcases hx with rfl | rfl | rfl | rfl; exact Bool.noConfusion (Eq.trans (by kernel_rfl) hl : true = false); exact Bool.noConfusion (Eq.trans (by kernel_rfl) hl : true = false); exact Bool.noConfusion (Eq.trans (by kernel_rfl) hl : true = false); exact Bool.noConfusion (Eq.trans (by kernel_rfl) hl : true = false)
        clear hK KK
        (try simp only [Act.put, List.setIfInBounds_toArray, List.set_cons_zero, List.set_cons_succ])
        refine take_L [] (i := 21) (v := ?_) (by simp only [List.getElem?_toArray, List.getElem?_cons_succ, List.getElem?_cons_zero]; rfl) (by kernel_rfl) (by kernel_rfl) (by kernel_rfl) (by simp) (by kernel_rfl) (by kernel_rfl) (fun _ _ _ h => h) (Or.inl ⟨by rfl, ?_⟩) hU ?_
        rotate_left
        · intro wz hSw; (try simp only [AllOf, List.mem_cons, List.mem_nil_iff, or_false, forall_eq, forall_eq_or_imp] at hSw); go_simp; try with_reducible rfl
        clear hU; intro hU
        (try simp only [Act.put, List.setIfInBounds_toArray, List.set_cons_zero, List.set_cons_succ])
        refine take_L [] (i := 22) (v := ?_) (by simp only [List.getElem?_toArray, List.getElem?_cons_succ, List.getElem?_cons_zero]; rfl) (by kernel_rfl) (by kernel_rfl) (by kernel_rfl) (by simp) (by kernel_rfl) (by kernel_rfl) (fun _ _ _ h => h) (Or.inl ⟨by rfl, ?_⟩) hU ?_
        rotate_left
        · intro wz hSw; (try simp only [AllOf, List.mem_cons, List.mem_nil_iff, or_false, forall_eq, forall_eq_or_imp] at hSw); go_simp; try with_reducible rfl
        clear hU; intro hU
        (try simp only [Act.put, List.setIfInBounds_toArray, List.set_cons_zero, List.set_cons_succ])
        refine ready_L (rs := [23]) (by kernel_rfl) (by simp) ?_
        refine AllReadyL.cons (by simp only [List.getElem?_toArray, List.getElem?_cons_succ, List.getElem?_cons_zero]; rfl) (fun KK hK => ?_) AllReadyL.nil
        go_simp
        refine hK.out _ _ ?_ (fun hU => ?_)
        · intro x hx hl; simp only [List.mem_cons, List.mem_nil_iff, or_false] at hx; rcases hx with rfl | rfl | rfl | rfl; exact Bool.noConfusion (Eq.trans (by kernel_rfl) hl : true = false); exact Bool.noConfusion (Eq.trans (by kernel_rfl) hl : true = false); exact Bool.noConfusion (Eq.trans (by kernel_rfl) hl : true = false); exact Bool.noConfusion (Eq.trans (by kernel_rfl) hl : true = false)
        clear hK KK
        (try simp only [Act.put, List.setIfInBounds_toArray, List.set_cons_zero, List.set_cons_succ])
        have HFin := Lib.hid hL.2.2
        clear r1 r2 r3 r3c r3f hL hU
        refine done_L (by kernel_rfl) ?_ _
        refine NoPanic.normal ?_
        go_wp2
        go_ret
        exact HFin.out
    · go_simp
      have s8 := HCells.out (U.alloc (.cells #[.string val] 9)).drew (Kept.of_below ((((Below.refl U.heap.size U).alloc (Nat.le_refl _) (.cells #[.string val] 9))).drew) (Nat.le_refl _))
      refine hK.out _ _ ?_ (fun hU => ?_)
      · intro x hx hl; simp only [List.mem_cons, List.mem_nil_iff, or_false] at hx; rcases hx with rfl | rfl | rfl | rfl; exact s8.1; exact s8.2.1; exact s8.2.2.1; exact s8.2.2.2
      clear hK KK
      (try simp only [Act.put, List.setIfInBounds_toArray, List.set_cons_zero, List.set_cons_succ])
      refine ready_L (rs := [8]) (by kernel_rfl) (by simp) ?_
      refine AllReadyL.cons (by simp only [List.getElem?_toArray, List.getElem?_cons_succ, List.getElem?_cons_zero]; rfl) (fun KK hK => ?_) AllReadyL.nil
      go_simp
      have s9 := HCells.out ((U.alloc (.cells #[.string val] 9)).alloc (.cells #[.string key] 9)).drew (Kept.of_below ((((Below.refl U.heap.size U).alloc (Nat.le_refl _) (.cells #[.string val] 9)).alloc (by simp) (.cells #[.string key] 9)).drew) (Nat.le_refl _))
      refine hK.out _ _ ?_ (fun hU => ?_)
      · intro x hx hl; simp only [List.mem_cons, List.mem_nil_iff, or_false] at hx; rcases hx with rfl | rfl | rfl | rfl; exact s9.1; exact s9.2.1; exact s9.2.2.1; exact s9.2.2.2
      clear hK KK
      (try simp only [Act.put, List.setIfInBounds_toArray, List.set_cons_zero, List.set_cons_succ])
      refine ready_L (rs := [9]) (by kernel_rfl) (by simp) ?_
      refine AllReadyL.cons (by simp only [List.getElem?_toArray, List.getElem?_cons_succ, List.getElem?_cons_zero]; rfl) (fun KK hK => ?_) AllReadyL.nil
      have bk0 : Blk ((U.alloc (.cells #[.string val] 9)).alloc (.cells #[.string key] 9)).drew (U.heap.size + 1) 9 [.string key] := by have h := (Blk.new (U.alloc (.cells #[.string val] 9)) 9 [.string key]).drew; rwa [show (U.alloc (.cells #[.string val] 9)).heap.size = U.heap.size + 1 from by simp] at h
      have q1 := HCall1.out ((U.alloc (.cells #[.string val] 9)).alloc (.cells #[.string key] 9)).drew (U.heap.size + 1) ((((Below.refl U.heap.size U).alloc (Nat.le_refl _) (.cells #[.string val] 9)).alloc (by simp) (.cells #[.string key] 9)).drew) bk0 (by omega)
      have Q1 := Lib.hid q1
      clear q1
      go_simp; ((with_reducible refine Calls.mono Q1.out ?_); rintro e W1 ⟨K', ck', rfl, hoK, hAK, hK1⟩); go_wp2_with fail
      have k1 : Kept (fun b => ablk K = some b) U W1 := (Kept.of_below (F := fun b => ablk K = some b) ((((Below.refl U.heap.size U).alloc (Nat.le_refl _) (.cells #[.string val] 9)).alloc (by simp) (.cells #[.string key] 9)).drew) (Nat.le_refl _)).trans hK1 (fun _ _ x => x)
      have hAK1 : ablk K' = ablk K ∨ ∃ g, ablk K' = some g ∧ U.heap.size ≤ g := by
        rcases hAK with e | ⟨g, e, h⟩
        · exact .inl e
        · exact .inr ⟨g, e, Nat.le_trans (((((Below.refl U.heap.size U).alloc (Nat.le_refl _) (.cells #[.string val] 9)).alloc (by simp) (.cells #[.string key] 9)).drew)).size h⟩
      have s1 := HCells.out W1 k1
      refine hK.out _ _ ?_ (fun hU => ?_)
      · intro x hx hl; simp only [List.mem_cons, List.mem_nil_iff, or_false] at hx; rcases hx with rfl | rfl | rfl | rfl; exact s1.1; exact s1.2.1; exact s1.2.2.1; exact s1.2.2.2
      clear hK KK
      (try simp only [Act.put, List.setIfInBounds_toArray, List.set_cons_zero, List.set_cons_succ])
      have bv : Blk W1 U.heap.size 9 [.string val] := hK1.blk ((Blk.new U 9 [.string val]).alloc _).drew (fun e => hKnew _ (Nat.le_refl _) e)
      refine ready_L (rs := [17]) (by kernel_rfl) (by simp) ?_
      refine AllReadyL.cons (by simp only [List.getElem?_toArray, List.getElem?_cons_succ, List.getElem?_cons_zero]; rfl) (fun KK hK => ?_) AllReadyL.nil
      have q2 := HCall2.out W1 U.heap.size k1 bv (Nat.le_refl _)
      have Q2 := Lib.hid q2
      clear q2
      go_simp; ((with_reducible refine Calls.mono Q2.out ?_); rintro e W3 ⟨V', cv', rfl, hoV, hAV, hK3⟩); go_wp2_with fail
      have hL := HLast.out W1 W1 W3 K' ck' V' cv' hoK hAK1 k1 (Kept.refl _ _) hoV hAV hK3
      refine hK.out _ _ ?_ (fun hU => ?_)
      · intro x hx hl; simp only [List.mem_cons, List.mem_nil_iff, or_false] at hx; rcases hx with rfl | rfl | rfl | rfl; exact Bool.noConfusion (Eq.trans (by kernel_rfl) hl : true = false); exact Bool.noConfusion (Eq.trans (by kernel_rfl) hl : true = false); exact Bool.noConfusion (Eq.trans (by kernel_rfl) hl : true = false); exact Bool.noConfusion (Eq.trans (by kernel_rfl) hl : true = false)
      clear hK KK
      (try simp only [Act.put, List.setIfInBounds_toArray, List.set_cons_zero, List.set_cons_succ])
      refine take_L [] (i := 18) (v := ?_) (by simp only [List.getElem?_toArray, List.getElem?_cons_succ, List.getElem?_cons_zero]; rfl) (by kernel_rfl) (by kernel_rfl) (by kernel_rfl) (by simp) (by kernel_rfl) (by kernel_rfl) (fun _ _ _ h => h) (Or.inl ⟨by rfl, ?_⟩) hU ?_
      rotate_left
      · intro wz hSw; (try simp only [AllOf, List.mem_cons, List.mem_nil_iff, or_false, forall_eq, forall_eq_or_imp] at hSw); go_simp; try with_reducible rfl
      clear hU; intro hU
      (try simp only [Act.put, List.setIfInBounds_toArray, List.set_cons_zero, List.set_cons_succ])
      refine take_L [] (i := 19) (v := ?_) (by simp only [List.getElem?_toArray, List.getElem?_cons_succ, List.getElem?_cons_zero]; rfl) (by kernel_rfl) (by kernel_rfl) (by kernel_rfl) (by simp) (by kernel_rfl) (by kernel_rfl) (fun _ _ _ h => h) (Or.inl ⟨by rfl, ?_⟩) hU ?_
      rotate_left
      · intro wz hSw; (try simp only [AllOf, List.mem_cons, List.mem_nil_iff, or_false, forall_eq, forall_eq_or_imp] at hSw); go_simp; try with_reducible rfl
      clear hU; intro hU
      (try simp only [Act.put, List.setIfInBounds_toArray, List.set_cons_zero, List.set_cons_succ])
      have r1 := hL.1.1
      have r2 := hL.1.2
      have r3 := hL.2.1.set_ 1 (.slice K' (nv + 1) ck')
      have r3c := r3.cells
      have r3f := r3.frees
      refine ready_L (rs := [20]) (by kernel_rfl) (by simp) ?_
      refine AllReadyL.cons (by simp only [List.getElem?_toArray, List.getElem?_cons_succ, List.getElem?_cons_zero]; rfl) (fun KK hK => ?_) AllReadyL.nil
      go_simp
      refine hK.out _ _ ?_ (fun hU => ?_)
      · intro x hx hl; simp only [List.mem_cons, List.mem_nil_iff, or_false] at hx; rcases hx with rfl | rfl | rfl | rfl; exact Bool.noConfusion (Eq.trans (by kernel_rfl) hl : true = false); exact Bool.noConfusion (Eq.trans (by kernel_rfl) hl : true = false); exact Bool.noConfusion (Eq.trans (by kernel_rfl) hl : true = false); exact Bool.noConfusion (Eq.trans (by kernel_rfl) hl : true = false)
      clear hK KK
      (try simp only [Act.put, List.setIfInBounds_toArray, List.set_cons_zero, List.set_cons_succ])
      refine take_L [] (i := 21) (v := ?_) (by simp only [List.getElem?_toArray, List.getElem?_cons_succ, List.getElem?_cons_zero]; rfl) (by kernel_rfl) (by kernel_rfl) (by kernel_rfl) (by simp) (by kernel_rfl) (by kernel_rfl) (fun _ _ _ h => h) (Or.inl ⟨by rfl, ?_⟩) hU ?_
      rotate_left
      · intro wz hSw; (try simp only [AllOf, List.mem_cons, List.mem_nil_iff, or_false, forall_eq, forall_eq_or_imp] at hSw); go_simp; try with_reducible rfl
      clear hU; intro hU
      (try simp only [Act.put, List.setIfInBounds_toArray, List.set_cons_zero, List.set_cons_succ])
      refine take_L [] (i := 22) (v := ?_) (by simp only [List.getElem?_toArray, List.getElem?_cons_succ, List.getElem?_cons_zero]; rfl) (by kernel_rfl) (by kernel_rfl) (by kernel_rfl) (by simp) (by kernel_rfl) (by kernel_rfl) (fun _ _ _ h => h) (Or.inl ⟨by rfl, ?_⟩) hU ?_
      rotate_left
      · intro wz hSw; (try simp only [AllOf, List.mem_cons, List.mem_nil_iff, or_false, forall_eq, forall_eq_or_imp] at hSw); go_simp; try with_reducible rfl
      clear hU; intro hU
      (try simp only [Act.put, List.setIfInBounds_toArray, List.set_cons_zero, List.set_cons_succ])
      refine ready_L (rs := [23]) (by kernel_rfl) (by simp) ?_
      refine AllReadyL.cons (by simp only [List.getElem?_toArray, List.getElem?_cons_succ, List.getElem?_cons_zero]; rfl) (fun KK hK => ?_) AllReadyL.nil
      go_simp
      refine hK.out _ _ ?_ (fun hU => ?_)
      · intro x hx hl; simp only [List.mem_cons, List.mem_nil_iff, or_false] at hx; rcases hx with rfl | rfl | rfl | rfl; exact Bool.noConfusion (Eq.trans (by kernel_rfl) hl : true = false); exact Bool.noConfusion (Eq.trans (by kernel_rfl) hl : true = false); exact Bool.noConfusion (Eq.trans (by kernel_rfl) hl : true = false); exact Bool.noConfusion (Eq.trans (by kernel_rfl) hl : true = false)
      clear hK KK
      (try simp only [Act.put, List.setIfInBounds_toArray, List.set_cons_zero, List.set_cons_succ])
      have HFin := Lib.hid hL.2.2
      clear r1 r2 r3 r3c r3f hL hU
      refine done_L (by kernel_rfl) ?_ _
      refine NoPanic.normal ?_
      go_wp2
      go_ret
      exact HFin.out
end Go.Proofs.Ytdakohbfibcjeaa
