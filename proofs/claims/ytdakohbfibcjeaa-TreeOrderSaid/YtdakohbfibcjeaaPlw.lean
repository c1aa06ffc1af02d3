/- A tree's place, where nothing is joined: its walk. No condition. -/
import Derived.Test.YtdakohbfibcjeaaPl
namespace Go.Proofs.Ytdakohbfibcjeaa
open Go.RowKit Go.Maps
set_option linter.unusedSimpArgs false
set_option linter.unusedVariables false

set_option maxRecDepth 100000 in
set_option maxHeartbeats 8000000 in
theorem place_any {w0 w : World} {base N gn at_ gl : Nat} {p0 p : TrS} {T : Nodes} {s : Nd} {l : List (ByteArray × Nat)} (h0 : TCh w0 w base p0 p N T)
    (hn : NdB w0 w p gn (fun b => b = gl) s) (hat : at_ < s.keys.length) (hkl : s.kids.length = s.keys.length) (hk2 : s.keys.length ≤ 240) (hgl : Blk w gl 53 (ptC l)) (hgn : gn ≠ gl) (hll : l.length ≤ 2)
    (hl1 : 1 ≤ l.length) (hk1 : 2 ≤ s.keys.length) (hnj : l.length = 1 → NoJoin T (placeN s at_ l)) :
    Calls Try.prog 28 #[.pointer (some ⟨p.g, 0, none⟩), .pointer (some ⟨gn, 0, none⟩), .int .i64 (at_ : Int), .slice (some ⟨gl, 0, none⟩) l.length l.length] w (PlTo w0 base p0 N T gn (placeN s at_ l)) := by
  obtain ⟨K, nk', ck, V, nv, cv, D, nd', cd, hb, ho, hgw, hgf, hne⟩ := hn
  have hnk := ho.nk_eq
  have hnd := ho.nd_eq
  obtain ⟨nk, rfl⟩ : ∃ n, nk' = n + 1 := ⟨nk' - 1, by omega⟩
  obtain rfl : nd' = nk + 1 := by omega
  obtain ⟨kb, rfl, hkb1, hkb2⟩ := ho.keys.head (by omega)
  obtain ⟨db, rfl, hdb1, hdb2⟩ := ho.kids.head (by omega)
  have hkd : kb ≠ db := fun e => absurd (own_typ2 (b := kb) ho.keys ho.kids rfl (by rw [e]; rfl)) (by decide)
  have hkv : ∀ b, ablk V = some b → b ≠ kb ∧ b ≠ db := fun b e => ⟨fun e2 => ho.kv kb rfl (by rw [e, e2]), fun e2 => absurd (own_typ2 (b := b) ho.vals ho.kids e (by rw [e2]; rfl)) (by decide)⟩
  have hkn := hne kb (.inl rfl)
  have hdn := hne db (.inr (.inr rfl))
  have hvn := fun b e => hne b (.inr (.inl e))
  have c1 : w.cell? ⟨gn, 1, none⟩ = some (.slice (some ⟨kb, 0, none⟩) (nk + 1) ck) := hb.cell 1
  have c3 : w.cell? ⟨gn, 3, none⟩ = some (.slice (some ⟨db, 0, none⟩) (nk + 1) cd) := hb.cell 3
  have ck0 : w.cell? ⟨kb, at_, none⟩ = some (.string (kAt s at_)) := by
    have := sl_cell (own_ls ho.keys) at_ (by omega)
    rwa [Nat.zero_add] at this
  have h4 : (0 : Int) ≤ (at_ : Int) ∧ (at_ : Int) < ((nk + 1 : Nat) : Int) := by omega
  have hn6 : nk ≤ 240 := by omega
  have hati : (at_ : Int) ≤ 1000000 := by omega
  have hw1 : IntKind.i64.wrap ((at_ : Int) + 1) = (at_ : Int) + 1 := by rw [IntKind.wrap_i64]; omega
  have D1 := Lib.hid (del_s_any ho.keys.drew (show at_ < nk + 1 by omega))
  have hat' : at_ < nk + 1 := by omega
  have HO := Lib.hid ho
  have HB := Lib.hid hb
  have H0 := Lib.hid h0
  have HGl := Lib.hid hgl
  have HNj := Lib.hid hnj
  obtain ⟨ll, hl2⟩ : ∃ z, z = l.length := ⟨_, rfl⟩
  obtain ⟨gp, hgp⟩ : ∃ z, z = p.g := ⟨_, rfl⟩
  have HL2 := Lib.hid hl2
  have HGp := Lib.hid hgp
  have HVn := Lib.hid hvn
  have HKv := Lib.hid hkv
  have HKn := Lib.hid hkn
  have HDn := Lib.hid hdn
  have HGf := Lib.hid hgf
  rw [← hl2] at hll hl1
  rw [← hl2, ← hgp]
  have hkng : kb ≠ gn := hkn.2.1
  have hdng : db ≠ gn := hdn.2.1
  have hkngl : kb ≠ gl := hkn.2.2
  have hdngl : db ≠ gl := hdn.2.2
  clear ho hb hne h0 hl2 hgp hgl hvn hkv hkn hdn hgf hnj
  go_enter Try.func28, Try.ntmps28
  go_upto_region 2 with fail
  go_cut [] (fun wx => PlI w0 w wx base p0 p N T gn gl s at_ 0 l)
  case first =>
    go_region_with (first
      | ((with_reducible refine Calls.mono D1.out ?_); rintro e w1 ⟨rfl, hk1, hK1⟩
         have c1' := (hK1.blk HB.out.drew (fun e => hkng (by injection e))).cells
         have f1' := (hK1.blk HB.out.drew (fun e => hkng (by injection e))).frees
         have D2 := Lib.hid (del_i_any (own_kept HO.out.kids.drew hK1 (fun b e e2 => hkd (by injection e with e; injection e2 with e2; have e : db = b := e; have e2 : kb = b := e2; omega))) hat'))
      | ((with_reducible refine Calls.mono D2.out ?_); rintro e w2 ⟨rfl, hd2, hK2⟩
         have hB2 := (hK2.blk (hK1.blk HB.out.drew (fun e => hkng (by injection e))) (fun e => hdng (by injection e)))
         have c2' := hB2.cells
         have f2' := hB2.frees))
    all_goals
      go_wp2
      go_meet
      have KF : Kept (fun b => b = kb ∨ b = db) w w2 := by
        have k1 : Kept (fun b => b = kb ∨ b = db) w w1 := ⟨hK1.os, hK1.tape, hK1.output, hK1.size, fun b hb hn => hK1.block b hb (fun e => hn (.inl (by injection e with e; exact e.symm)))⟩
        exact k1.trans hK2 (fun b _ e => .inr (by injection e with e; exact e.symm))
      have K3 : Kept (fun b => b = gn) w2 ((w2.setCell ⟨gn, 1, none⟩ (.slice (some ⟨kb, 0, none⟩) nk ck)).setCell ⟨gn, 3, none⟩ (.slice (some ⟨db, 0, none⟩) nk cd)) := Kept.setCell_.trans Kept.setCell_ (fun _ _ x => x)
      have hB3 := (hB2.set_ 1 (.slice (some ⟨kb, 0, none⟩) nk ck)).set_ 3 (.slice (some ⟨db, 0, none⟩) nk cd)
      have hs0 : placeN s at_ (l.take 0) = ⟨s.leaf, s.keys.eraseIdx at_, s.vals, s.kids.eraseIdx at_⟩ := by
        unfold placeN; rw [← erase_split, ← erase_split]; simp
      refine ⟨(H0.out.kept KF (fun b e => ⟨by omega, by rcases e with e | e; (rw [e]; exact HKn.out.1); (rw [e]; exact HDn.out.1)⟩)).kept K3 (fun b e => ⟨by omega, by rw [e]; exact HGf.out⟩), ?_, ?_, Nat.le_trans KF.size K3.size⟩
      · rw [hs0]
        refine ⟨some ⟨kb, 0, none⟩, nk, ck, V, nv, cv, some ⟨db, 0, none⟩, nk, cd, hB3, ⟨own_kept (own_kept hk1 hK2 (fun b e e2 => hkd (by injection e with e; injection e2 with e2; have e : kb = b := e; have e2 : db = b := e2; omega))) K3 (fun b e e2 => hkng (by injection e with e; have e : kb = b := e; omega)), own_kept (own_kept HO.out.vals KF (fun b e e2 => by have := HKv.out b e; omega)) K3 (fun b e e2 => (HVn.out b e).2.1 e2), own_kept hd2 K3 (fun b e e2 => hdng (by injection e with e; have e : db = b := e; omega)), HO.out.kv⟩, hgw, HGf.out, ?_⟩
        rintro b (e | e | e)
        · injection e with e; have e : kb = b := e; subst e; exact HKn.out
        · exact HVn.out b e
        · injection e with e; have e : db = b := e; subst e; exact HDn.out
      · exact K3.blk (KF.blk HGl.out (by omega)) (by omega)
  case rest =>
    have HI := Lib.hid hcut
    clear hcut c1 c3 ck0 D1 HO HB H0 HGl HVn HKv HKn HDn hw1 hat' HGf
    go_wp2
    go_loopw [49] (fun s49 wr => ∃ i : Nat, i ≤ ll ∧ s49 = .int .i64 (i : Int) ∧ PlI w0 w wr base p0 p N T gn gl s at_ i l) (fun s49 _ => ll - (intOf s49).toNat)
    case atStart => exact ⟨0, Nat.zero_le _, rfl, HI.out⟩
    case round =>
      clear HI
      obtain ⟨i, hi, rfl, hI⟩ := hrel
      by_cases hlt : i < ll
      · have hil : i < l.length := by have := HL2.out; omega
        obtain ⟨hC, hNb, hG, hsz⟩ := hI
        have hlti : (i : Int) < (ll : Int) := by omega
        have hi0 : (0 : Int) ≤ (i : Int) := by omega
        obtain ⟨x, hx⟩ : ∃ x, x = l[i] := ⟨_, rfl⟩
        have g0 : wr.cell? ⟨gl, i * 2, none⟩ = some (.string x.1) := by rw [hG.cell, (ptC_get l i hil).1, hx]
        have g1 : wr.cell? ⟨gl, i * 2 + 1, none⟩ = some (.int .i64 (x.2 : Int)) := by rw [hG.cell, (ptC_get l i hil).2, hx]
        have HNb := Lib.hid hNb
        have HG := Lib.hid hG
        have HC := Lib.hid hC
        have HX := Lib.hid hx
        clear hNb hG hC hx
        have hzp := zeroPart
        go_upto_region 6 with fail
        obtain ⟨g11, hg11⟩ : ∃ z, z = wr.heap.size := ⟨_, rfl⟩
        rw [← hg11]
        have hal : Below wr.heap.size wr (wr.alloc (.cells #[.string x.1, .int .i64 (x.2 : Int)] 53)) := (Below.refl _ _).alloc (Nat.le_refl _) _
        refine wp_world (fun U => TCh w0 U base p0 p N T ∧ NdB w0 U p gn (fun b => b = gl ∨ b = g11) (placeN s at_ (l.take i)) ∧ Blk U gl 53 (ptC l) ∧ Blk U g11 53 [.string x.1, .int .i64 (x.2 : Int)] ∧ w.heap.size ≤ U.heap.size)
          ⟨HC.out.below hal (Nat.le_refl _), (HNb.out.mono (Y := fun b => b = gl ∨ b = g11) (fun b hb e => by rcases e with e | e; exact e; omega)).below hal (Nat.le_refl _), HG.out.alloc _, Blk.new_at (cs := [.string x.1, .int .i64 (x.2 : Int)]) hg11, Nat.le_trans hsz hal.size⟩ ?_
        have hg11w : wr.heap.size ≤ g11 := by omega
        have hgnw : gn < wr.heap.size := HNb.out.lt
        have hgn11 : g11 ≠ gn := by omega
        clear hal HC HNb HG hg11 g0 g1 hzp hsz
        rintro U ⟨hC, hNb, hG, hP, hsz⟩
        obtain ⟨K1, n1, ck1, V1, nv1, cv1, D1, nd1, cd1, hb, ho, _, hgf, hne0⟩ := hNb
        have hne : ∀ b, ablk K1 = some b ∨ ablk V1 = some b ∨ ablk D1 = some b → ¬ p.foot b ∧ b ≠ gn ∧ ¬ (b = gl ∨ b = g11) := hne0
        have hK11 : ¬ (ablk K1 = some g11 ∨ ablk V1 = some g11 ∨ ablk D1 = some g11) := fun e => (hne0 g11 e).2.2 (.inr rfl)
        clear hne0
        have hm1 : ((l.take i).map (·.1)).length = i := by rw [List.length_map, List.length_take]; omega
        have hm2 : ((l.take i).map (fun x => (x.2 : Int))).length = i := by rw [List.length_map, List.length_take]; omega
        have hn1 : n1 = nk + i := by
          have := ho.nk_eq
          rw [← this]; unfold placeN
          rw [List.length_append, List.length_append, hm1, List.length_take, List.length_drop]; omega
        have hd1 : nd1 = nk + i := by
          have := ho.nd_eq
          rw [← this]; unfold placeN
          rw [List.length_append, List.length_append, hm2, List.length_take, List.length_drop]; omega
        subst hn1 hd1
        have hvb : Below U.heap.size U (U.alloc (.cells #[.string x.1] 9)).drew := ((Below.refl _ _).alloc (Nat.le_refl _) _).drew
        have hft : ∀ b, p.foot b → b < U.heap.size := fun b e => (hC.tr.foot_base b e).2
        have hbU := hC.tr.bases.2
        have hgpU := hC.tr.blk.lt
        have I0 := ins_s_any (base := w0.heap.size) (at_ := at_ + i) (vb := U.heap.size) (v := .string x.1) (ho.keys.below hvb (Nat.le_refl _)) (sl_oneCell _) (Blk.new U 9 [.string x.1]).drew rfl (fun e => by have := (ho.keys.blk e).2; omega) (by omega) (by omega) (Nat.le_trans hC.K.size hvb.size)
        rw [show ((at_ + i : Nat) : Int) = (at_ : Int) + (i : Int) from by omega] at I0
        have hkx2 := place_keys (s := s) (at_ := at_) hil (by omega)
        rw [← HX.out] at hkx2
        rw [hkx2] at I0
        have I := Lib.hid I0
        have hw2 : IntKind.i64.wrap ((at_ : Int) + (i : Int)) = (at_ : Int) + (i : Int) := by rw [IntKind.wrap_i64]; omega
        have c1 : U.cell? ⟨gn, 1, none⟩ = some (.slice K1 (nk + i) ck1) := hb.cell 1
        have d0 : U.cell? ⟨g11, 0, none⟩ = some (.string x.1) := hP.cell 0
        have d1 : U.cell? ⟨g11, 1, none⟩ = some (.int .i64 (x.2 : Int)) := hP.cell 1
        have hX : ∀ b, (fun b => b = gl ∨ b = g11) b → b < U.heap.size := fun b e => by rcases e with e | e; (rw [e]; exact hG.lt); (rw [e]; exact hP.lt)
        clear hkx2 I0
        have c1w : (U.alloc (.cells #[.string x.1] 9)).drew.cell? ⟨gn, 1, none⟩ = some (.slice K1 (nk + i) ck1) := (hb.below hvb hb.lt).cell 1
        have d0w : (U.alloc (.cells #[.string x.1] 9)).drew.cell? ⟨g11, 0, none⟩ = some (.string x.1) := (hP.below hvb hP.lt).cell 0
        have HO11 : Hid (∀ b, ablk K1 = some b → b ≠ g11) := Lib.hid fun b e e2 => by subst e2; exact hK11 (.inl e)
        have HO12 : Hid (∀ b, ablk D1 = some b → b ≠ g11) := Lib.hid fun b e e2 => by subst e2; exact hK11 (.inr (.inr e))
        have hne11 : ∀ b, b ≠ g11 → g11 = b → False := fun b e e2 => e e2.symm
        have HC := Lib.hid hC
        have HG := Lib.hid hG
        have HB := Lib.hid hb
        have HO := Lib.hid ho
        have HNe := Lib.hid hne
        have HGf := Lib.hid hgf
        have HFt := Lib.hid hft
        have HXx := Lib.hid hX
        have HP := Lib.hid hP
        have HVb := Lib.hid hvb
        have hgnU : gn < U.heap.size := hb.lt
        have hg11U : g11 < U.heap.size := hP.lt
        clear hC hG hb ho hne hgf hft hX hP hvb hK11
        refine wp_region_last (S := fun w' => w'.cell? ⟨gn, 1, none⟩ = some (.slice K1 (nk + i) ck1) ∧ w'.cell? ⟨g11, 0, none⟩ = some (.string x.1)) 14 (by kernel_rfl) rfl (by kernel_rfl) ?_ ?_
        · exact ⟨c1, d0⟩
        intro hHeld
        simp only [List.take_succ_cons, List.take_zero]
        refine wpAnyH_take (i := 0) (v := ?_) (by simp only [List.getElem?_toArray, List.getElem?_cons_succ, List.getElem?_cons_zero]; rfl) (by kernel_rfl) (by kernel_rfl) (by kernel_rfl) (fun _ _ _ h => h) (Or.inl ⟨by rfl, ?_⟩) hHeld ?_
        rotate_left
        · intro wz hSw; (try dsimp only at hSw); go_simp; try with_reducible rfl
        (try simp only [Act.put, List.setIfInBounds_toArray, List.set_cons_zero, List.set_cons_succ])
        refine wpAnyH_take (i := 1) (v := ?_) (by simp only [List.getElem?_toArray, List.getElem?_cons_succ, List.getElem?_cons_zero]; rfl) (by kernel_rfl) (by kernel_rfl) (by kernel_rfl) (fun _ _ _ h => h) (Or.inl ⟨by rfl, ?_⟩) hHeld ?_
        rotate_left
        · intro wz hSw; (try dsimp only at hSw); go_simp; try with_reducible rfl
        (try simp only [Act.put, List.setIfInBounds_toArray, List.set_cons_zero, List.set_cons_succ])
        refine wpAnyH_take (i := 2) (v := ?_) (by simp only [List.getElem?_toArray, List.getElem?_cons_succ, List.getElem?_cons_zero]; rfl) (by kernel_rfl) (by kernel_rfl) (by kernel_rfl) (fun _ _ _ h => h) (Or.inl ⟨by rfl, ?_⟩) hHeld ?_
        rotate_left
        · intro wz hSw; (try dsimp only at hSw); go_simp; try with_reducible rfl
        (try simp only [Act.put, List.setIfInBounds_toArray, List.set_cons_zero, List.set_cons_succ])
        refine wpAnyH_take (i := 3) (v := ?_) (by simp only [List.getElem?_toArray, List.getElem?_cons_succ, List.getElem?_cons_zero]; rfl) (by kernel_rfl) (by kernel_rfl) (by kernel_rfl) (fun _ _ _ h => h) (Or.inl ⟨by rfl, ?_⟩) hHeld ?_
        rotate_left
        · intro wz hSw; (try dsimp only at hSw); go_simp; try with_reducible rfl
        (try simp only [Act.put, List.setIfInBounds_toArray, List.set_cons_zero, List.set_cons_succ])
        refine wpAnyH_take (i := 4) (v := ?_) (by simp only [List.getElem?_toArray, List.getElem?_cons_succ, List.getElem?_cons_zero]; rfl) (by kernel_rfl) (by kernel_rfl) (by kernel_rfl) (fun _ _ _ h => h) (Or.inl ⟨by rfl, ?_⟩) hHeld ?_
        rotate_left
        · intro wz hSw; (try dsimp only at hSw); go_simp; try with_reducible rfl
        (try simp only [Act.put, List.setIfInBounds_toArray, List.set_cons_zero, List.set_cons_succ])
        refine wpAnyH_take (i := 5) (v := ?_) (by simp only [List.getElem?_toArray, List.getElem?_cons_succ, List.getElem?_cons_zero]; rfl) (by kernel_rfl) (by kernel_rfl) (by kernel_rfl) (fun _ _ _ h => h) (Or.inl ⟨by rfl, ?_⟩) hHeld ?_
        rotate_left
        · intro wz hSw; (try dsimp only at hSw); go_simp; try with_reducible rfl
        (try simp only [Act.put, List.setIfInBounds_toArray, List.set_cons_zero, List.set_cons_succ])
        refine wpAnyH_take (i := 6) (v := ?_) (by simp only [List.getElem?_toArray, List.getElem?_cons_succ, List.getElem?_cons_zero]; rfl) (by kernel_rfl) (by kernel_rfl) (by kernel_rfl) (fun _ _ _ h => h) (Or.inl ⟨by rfl, ?_⟩) hHeld ?_
        rotate_left
        · intro wz hSw; (try dsimp only at hSw); go_simp; try with_reducible rfl
        (try simp only [Act.put, List.setIfInBounds_toArray, List.set_cons_zero, List.set_cons_succ])
        refine wpAnyH_take (i := 7) (v := ?_) (by simp only [List.getElem?_toArray, List.getElem?_cons_succ, List.getElem?_cons_zero]; rfl) (by kernel_rfl) (by kernel_rfl) (by kernel_rfl) (fun _ _ _ h => h) (Or.inl ⟨by rfl, ?_⟩) hHeld ?_
        rotate_left
        · intro wz hSw; (try dsimp only at hSw); go_simp; try with_reducible rfl
        (try simp only [Act.put, List.setIfInBounds_toArray, List.set_cons_zero, List.set_cons_succ])
        refine wpAnyH_take (i := 8) (v := ?_) (by simp only [List.getElem?_toArray, List.getElem?_cons_succ, List.getElem?_cons_zero]; rfl) (by kernel_rfl) (by kernel_rfl) (by kernel_rfl) (fun _ _ _ h => h) (Or.inl ⟨by rfl, ?_⟩) hHeld ?_
        rotate_left
        · intro wz hSw; (try dsimp only at hSw); go_simp; try with_reducible rfl
        (try simp only [Act.put, List.setIfInBounds_toArray, List.set_cons_zero, List.set_cons_succ])
        refine wpAnyH_take (i := 9) (v := ?_) (by simp only [List.getElem?_toArray, List.getElem?_cons_succ, List.getElem?_cons_zero]; rfl) (by kernel_rfl) (by kernel_rfl) (by kernel_rfl) (fun _ _ _ h => h) (Or.inl ⟨by rfl, ?_⟩) hHeld ?_
        rotate_left
        · intro wz hSw; (try dsimp only at hSw); go_simp; try with_reducible rfl
        (try simp only [Act.put, List.setIfInBounds_toArray, List.set_cons_zero, List.set_cons_succ])
        refine wpAnyH_ready (rs := [10]) (by kernel_rfl) (by simp) ?_
        refine AllReadyH.cons (by simp only [List.getElem?_toArray, List.getElem?_cons_succ, List.getElem?_cons_zero]; rfl) (fun KK hK => ?_) AllReadyH.nil
        go_simp
        refine hK.out _ _ ?_ (fun hHeld => ?_)
        · exact ⟨c1w, d0w⟩
        clear hK KK
        (try simp only [Act.put, List.setIfInBounds_toArray, List.set_cons_zero, List.set_cons_succ])
        refine wpAnyH_ready (rs := [11]) (by kernel_rfl) (by simp) ?_
        refine AllReadyH.cons (by simp only [List.getElem?_toArray, List.getElem?_cons_succ, List.getElem?_cons_zero]; rfl) (fun KK hK => ?_) AllReadyH.nil
        go_simp; ((with_reducible refine Calls.mono I.out ?_); rintro e W ⟨A', c', rfl, hoA, hA, hKA⟩); go_wp2_with fail
        have hS := NdB.setK (X := fun b => b = gl ∨ b = g11) (HB.out.below HVb.out hgnU) (HO.out.below HVb.out (Nat.le_refl _)) (by omega) HGf.out HNe.out hoA hKA hA (fun b e => Nat.lt_of_lt_of_le (HFt.out b e) HVb.out.size) (fun b e => Nat.lt_of_lt_of_le (HXx.out b e) HVb.out.size)
        have hPW := hKA.blk (HP.out.below HVb.out hg11U) (fun e => hne11 _ (HO11.out _ e) rfl)
        refine hK.out _ _ ?_ (fun hHeld => ?_)
        · exact ⟨hS.1.cell 1, hPW.cell 0⟩
        clear hK KK
        (try simp only [Act.put, List.setIfInBounds_toArray, List.set_cons_zero, List.set_cons_succ])
        refine wpAnyH_take (i := 12) (v := ?_) (by simp only [List.getElem?_toArray, List.getElem?_cons_succ, List.getElem?_cons_zero]; rfl) (by kernel_rfl) (by kernel_rfl) (by kernel_rfl) (fun _ _ _ h => h) (Or.inl ⟨by rfl, ?_⟩) hHeld ?_
        rotate_left
        · intro wz hSw; (try dsimp only at hSw); go_simp; try with_reducible rfl
        (try simp only [Act.put, List.setIfInBounds_toArray, List.set_cons_zero, List.set_cons_succ])
        refine wpAnyH_take (i := 13) (v := ?_) (by simp only [List.getElem?_toArray, List.getElem?_cons_succ, List.getElem?_cons_zero]; rfl) (by kernel_rfl) (by kernel_rfl) (by kernel_rfl) (fun _ _ _ h => h) (Or.inl ⟨by rfl, ?_⟩) hHeld ?_
        rotate_left
        · intro wz hSw; (try dsimp only at hSw); go_simp; try with_reducible rfl
        (try simp only [Act.put, List.setIfInBounds_toArray, List.set_cons_zero, List.set_cons_succ])
        have hc2 := hS.1.cells
        have hf2 := hS.1.frees
        refine wpAnyH_done (by kernel_rfl) ?_ _
        simp only [lastQ]
        go_simp
        have HSt := Lib.hid hS.2
        have HTk := Lib.hid (turn_kept (o := 1) (v := .slice A' (nk + i + 1) c') HC.out HVb.out hKA (fun b e => ⟨(HO.out.blks b (.inl e)).1, (HNe.out b (.inl e)).1⟩) ⟨by omega, HGf.out⟩)
        have HGlK : Hid (ablk K1 ≠ some gl) := Lib.hid fun e => (HNe.out gl (.inl e)).2.2 (.inl rfl)
        have HK11 : Hid (ablk K1 ≠ some g11) := Lib.hid fun e => HO11.out _ e rfl
        clear hc2 hf2 hHeld hPW hS hKA hA hoA c1 c1w d0 d0w d1 I
        go_upto_region 7 with fail
        refine wp_world (fun U2 => TCh w0 U2 base p0 p N T ∧ NdB w0 U2 p gn (fun b => b = gl ∨ b = g11) ⟨s.leaf, (placeN s at_ (l.take (i + 1))).keys, s.vals, (placeN s at_ (l.take i)).kids⟩ ∧ Blk U2 gl 53 (ptC l) ∧ Blk U2 g11 53 [.string x.1, .int .i64 (x.2 : Int)] ∧ w.heap.size ≤ U2.heap.size)
          ⟨HTk.out.1, HSt.out, HTk.out.2.1 _ _ _ HG.out HGlK.out hgn.symm, HTk.out.2.1 _ _ _ HP.out HK11.out (by omega), Nat.le_trans hsz HTk.out.2.2⟩ ?_
        clear HSt HTk HGlK HK11 HC HG HB HO HNe HGf HFt HXx HP HVb HO11 HO12 hgnU hg11U hbU hgpU hsz
        rintro U ⟨hC, hNb, hG, hP, hsz⟩
        obtain ⟨K1, n1, ck1, V1, nv1, cv1, D1, nd1, cd1, hb, ho, _, hgf, hne0⟩ := hNb
        have hne : ∀ b, ablk K1 = some b ∨ ablk V1 = some b ∨ ablk D1 = some b → ¬ p.foot b ∧ b ≠ gn ∧ ¬ (b = gl) := fun b e => ⟨(hne0 b e).1, (hne0 b e).2.1, fun x => (hne0 b e).2.2 (.inl x)⟩
        have hK11 : ¬ (ablk K1 = some g11 ∨ ablk V1 = some g11 ∨ ablk D1 = some g11) := fun e => (hne0 g11 e).2.2 (.inr rfl)
        clear hne0
        have hd1 : nd1 = nk + i := by
          have := ho.nd_eq
          rw [← this]; unfold placeN
          show (s.kids.take at_ ++ (l.take i).map (fun x => (x.2 : Int)) ++ s.kids.drop (at_ + 1)).length = _
          rw [List.length_append, List.length_append, hm2, List.length_take, List.length_drop]; omega
        subst hd1
        have hvb : Below U.heap.size U (U.alloc (.cells #[.int .i64 (x.2 : Int)] 3)).drew := ((Below.refl _ _).alloc (Nat.le_refl _) _).drew
        have hft : ∀ b, p.foot b → b < U.heap.size := fun b e => (hC.tr.foot_base b e).2
        have hbU := hC.tr.bases.2
        have hgpU := hC.tr.blk.lt
        have I0 := ins_i_any (base := w0.heap.size) (at_ := at_ + i) (vb := U.heap.size) (v := .int .i64 (x.2 : Int)) (ho.kids.below hvb (Nat.le_refl _)) (il_oneCell _) (Blk.new U 3 [.int .i64 (x.2 : Int)]).drew rfl (fun e => by have := (ho.kids.blk e).2; omega) (by omega) (by omega) (Nat.le_trans hC.K.size hvb.size)
        rw [show ((at_ + i : Nat) : Int) = (at_ : Int) + (i : Int) from by omega] at I0
        have hkx2 := place_kids (s := s) (at_ := at_) hil (by omega)
        rw [← HX.out] at hkx2
        simp only at I0
        rw [hkx2] at I0
        have I := Lib.hid I0
        have c1 : U.cell? ⟨gn, 3, none⟩ = some (.slice D1 (nk + i) cd1) := hb.cell 3
        have d0 : U.cell? ⟨g11, 1, none⟩ = some (.int .i64 (x.2 : Int)) := hP.cell 1
        have hX : ∀ b, (fun b => b = gl) b → b < U.heap.size := fun b e => by rw [e]; exact hG.lt
        clear hkx2 I0
        have c1w : (U.alloc (.cells #[.int .i64 (x.2 : Int)] 3)).drew.cell? ⟨gn, 3, none⟩ = some (.slice D1 (nk + i) cd1) := (hb.below hvb hb.lt).cell 3
        have d0w : (U.alloc (.cells #[.int .i64 (x.2 : Int)] 3)).drew.cell? ⟨g11, 1, none⟩ = some (.int .i64 (x.2 : Int)) := (hP.below hvb hP.lt).cell 1
        have HO11 : Hid (∀ b, ablk D1 = some b → b ≠ g11) := Lib.hid fun b e e2 => by subst e2; exact hK11 (.inr (.inr e))
        have HC := Lib.hid hC
        have HG := Lib.hid hG
        have HB := Lib.hid hb
        have HO := Lib.hid ho
        have HNe := Lib.hid hne
        have HGf := Lib.hid hgf
        have HFt := Lib.hid hft
        have HXx := Lib.hid hX
        have HP := Lib.hid hP
        have HVb := Lib.hid hvb
        have hgnU : gn < U.heap.size := hb.lt
        have hg11U : g11 < U.heap.size := hP.lt
        clear hC hG hb ho hne hgf hft hX hP hvb hK11
        refine wp_region_last (S := fun w' => w'.cell? ⟨gn, 3, none⟩ = some (.slice D1 (nk + i) cd1) ∧ w'.cell? ⟨g11, 1, none⟩ = some (.int .i64 (x.2 : Int))) 14 (by kernel_rfl) rfl (by kernel_rfl) ?_ ?_
        · exact ⟨c1, d0⟩
        intro hHeld
        simp only [List.take_succ_cons, List.take_zero]
        refine wpAnyH_take (i := 0) (v := ?_) (by simp only [List.getElem?_toArray, List.getElem?_cons_succ, List.getElem?_cons_zero]; rfl) (by kernel_rfl) (by kernel_rfl) (by kernel_rfl) (fun _ _ _ h => h) (Or.inl ⟨by rfl, ?_⟩) hHeld ?_
        rotate_left
        · intro wz hSw; (try dsimp only at hSw); go_simp; try with_reducible rfl
        (try simp only [Act.put, List.setIfInBounds_toArray, List.set_cons_zero, List.set_cons_succ])
        refine wpAnyH_take (i := 1) (v := ?_) (by simp only [List.getElem?_toArray, List.getElem?_cons_succ, List.getElem?_cons_zero]; rfl) (by kernel_rfl) (by kernel_rfl) (by kernel_rfl) (fun _ _ _ h => h) (Or.inl ⟨by rfl, ?_⟩) hHeld ?_
        rotate_left
        · intro wz hSw; (try dsimp only at hSw); go_simp; try with_reducible rfl
        (try simp only [Act.put, List.setIfInBounds_toArray, List.set_cons_zero, List.set_cons_succ])
        refine wpAnyH_take (i := 2) (v := ?_) (by simp only [List.getElem?_toArray, List.getElem?_cons_succ, List.getElem?_cons_zero]; rfl) (by kernel_rfl) (by kernel_rfl) (by kernel_rfl) (fun _ _ _ h => h) (Or.inl ⟨by rfl, ?_⟩) hHeld ?_
        rotate_left
        · intro wz hSw; (try dsimp only at hSw); go_simp; try with_reducible rfl
        (try simp only [Act.put, List.setIfInBounds_toArray, List.set_cons_zero, List.set_cons_succ])
        refine wpAnyH_take (i := 3) (v := ?_) (by simp only [List.getElem?_toArray, List.getElem?_cons_succ, List.getElem?_cons_zero]; rfl) (by kernel_rfl) (by kernel_rfl) (by kernel_rfl) (fun _ _ _ h => h) (Or.inl ⟨by rfl, ?_⟩) hHeld ?_
        rotate_left
        · intro wz hSw; (try dsimp only at hSw); go_simp; try with_reducible rfl
        (try simp only [Act.put, List.setIfInBounds_toArray, List.set_cons_zero, List.set_cons_succ])
        refine wpAnyH_take (i := 4) (v := ?_) (by simp only [List.getElem?_toArray, List.getElem?_cons_succ, List.getElem?_cons_zero]; rfl) (by kernel_rfl) (by kernel_rfl) (by kernel_rfl) (fun _ _ _ h => h) (Or.inl ⟨by rfl, ?_⟩) hHeld ?_
        rotate_left
        · intro wz hSw; (try dsimp only at hSw); go_simp; try with_reducible rfl
        (try simp only [Act.put, List.setIfInBounds_toArray, List.set_cons_zero, List.set_cons_succ])
        refine wpAnyH_take (i := 5) (v := ?_) (by simp only [List.getElem?_toArray, List.getElem?_cons_succ, List.getElem?_cons_zero]; rfl) (by kernel_rfl) (by kernel_rfl) (by kernel_rfl) (fun _ _ _ h => h) (Or.inl ⟨by rfl, ?_⟩) hHeld ?_
        rotate_left
        · intro wz hSw; (try dsimp only at hSw); go_simp; try with_reducible rfl
        (try simp only [Act.put, List.setIfInBounds_toArray, List.set_cons_zero, List.set_cons_succ])
        refine wpAnyH_take (i := 6) (v := ?_) (by simp only [List.getElem?_toArray, List.getElem?_cons_succ, List.getElem?_cons_zero]; rfl) (by kernel_rfl) (by kernel_rfl) (by kernel_rfl) (fun _ _ _ h => h) (Or.inl ⟨by rfl, ?_⟩) hHeld ?_
        rotate_left
        · intro wz hSw; (try dsimp only at hSw); go_simp; try with_reducible rfl
        (try simp only [Act.put, List.setIfInBounds_toArray, List.set_cons_zero, List.set_cons_succ])
        refine wpAnyH_take (i := 7) (v := ?_) (by simp only [List.getElem?_toArray, List.getElem?_cons_succ, List.getElem?_cons_zero]; rfl) (by kernel_rfl) (by kernel_rfl) (by kernel_rfl) (fun _ _ _ h => h) (Or.inl ⟨by rfl, ?_⟩) hHeld ?_
        rotate_left
        · intro wz hSw; (try dsimp only at hSw); go_simp; try with_reducible rfl
        (try simp only [Act.put, List.setIfInBounds_toArray, List.set_cons_zero, List.set_cons_succ])
        refine wpAnyH_take (i := 8) (v := ?_) (by simp only [List.getElem?_toArray, List.getElem?_cons_succ, List.getElem?_cons_zero]; rfl) (by kernel_rfl) (by kernel_rfl) (by kernel_rfl) (fun _ _ _ h => h) (Or.inl ⟨by rfl, ?_⟩) hHeld ?_
        rotate_left
        · intro wz hSw; (try dsimp only at hSw); go_simp; try with_reducible rfl
        (try simp only [Act.put, List.setIfInBounds_toArray, List.set_cons_zero, List.set_cons_succ])
        refine wpAnyH_take (i := 9) (v := ?_) (by simp only [List.getElem?_toArray, List.getElem?_cons_succ, List.getElem?_cons_zero]; rfl) (by kernel_rfl) (by kernel_rfl) (by kernel_rfl) (fun _ _ _ h => h) (Or.inl ⟨by rfl, ?_⟩) hHeld ?_
        rotate_left
        · intro wz hSw; (try dsimp only at hSw); go_simp; try with_reducible rfl
        (try simp only [Act.put, List.setIfInBounds_toArray, List.set_cons_zero, List.set_cons_succ])
        refine wpAnyH_ready (rs := [10]) (by kernel_rfl) (by simp) ?_
        refine AllReadyH.cons (by simp only [List.getElem?_toArray, List.getElem?_cons_succ, List.getElem?_cons_zero]; rfl) (fun KK hK => ?_) AllReadyH.nil
        go_simp
        refine hK.out _ _ ?_ (fun hHeld => ?_)
        · exact ⟨c1w, d0w⟩
        clear hK KK
        (try simp only [Act.put, List.setIfInBounds_toArray, List.set_cons_zero, List.set_cons_succ])
        refine wpAnyH_ready (rs := [11]) (by kernel_rfl) (by simp) ?_
        refine AllReadyH.cons (by simp only [List.getElem?_toArray, List.getElem?_cons_succ, List.getElem?_cons_zero]; rfl) (fun KK hK => ?_) AllReadyH.nil
        go_simp; ((with_reducible refine Calls.mono I.out ?_); rintro e W ⟨A', c', rfl, hoA, hA, hKA⟩); go_wp2_with fail
        have hS := NdB.setD (X := fun b => b = gl) (s := ⟨s.leaf, (placeN s at_ (l.take (i + 1))).keys, s.vals, (placeN s at_ (l.take i)).kids⟩) (HB.out.below HVb.out hgnU) (HO.out.below HVb.out (Nat.le_refl _)) (by omega) HGf.out HNe.out hoA hKA hA (fun b e => Nat.lt_of_lt_of_le (HFt.out b e) HVb.out.size) (fun b e => Nat.lt_of_lt_of_le (HXx.out b e) HVb.out.size)
        have hPW := hKA.blk (HP.out.below HVb.out hg11U) (fun e => hne11 _ (HO11.out _ e) rfl)
        refine hK.out _ _ ?_ (fun hHeld => ?_)
        · exact ⟨hS.1.cell 3, hPW.cell 1⟩
        clear hK KK
        (try simp only [Act.put, List.setIfInBounds_toArray, List.set_cons_zero, List.set_cons_succ])
        refine wpAnyH_take (i := 12) (v := ?_) (by simp only [List.getElem?_toArray, List.getElem?_cons_succ, List.getElem?_cons_zero]; rfl) (by kernel_rfl) (by kernel_rfl) (by kernel_rfl) (fun _ _ _ h => h) (Or.inl ⟨by rfl, ?_⟩) hHeld ?_
        rotate_left
        · intro wz hSw; (try dsimp only at hSw); go_simp; try with_reducible rfl
        (try simp only [Act.put, List.setIfInBounds_toArray, List.set_cons_zero, List.set_cons_succ])
        refine wpAnyH_take (i := 13) (v := ?_) (by simp only [List.getElem?_toArray, List.getElem?_cons_succ, List.getElem?_cons_zero]; rfl) (by kernel_rfl) (by kernel_rfl) (by kernel_rfl) (fun _ _ _ h => h) (Or.inl ⟨by rfl, ?_⟩) hHeld ?_
        rotate_left
        · intro wz hSw; (try dsimp only at hSw); go_simp; try with_reducible rfl
        (try simp only [Act.put, List.setIfInBounds_toArray, List.set_cons_zero, List.set_cons_succ])
        have hc2 := hS.1.cells
        have hf2 := hS.1.frees
        refine wpAnyH_done (by kernel_rfl) ?_ _
        simp only [lastQ]
        go_simp
        have HSt := Lib.hid hS.2
        have HTk := Lib.hid (turn_kept (o := 3) (v := .slice A' (nk + i + 1) c') HC.out HVb.out hKA (fun b e => ⟨(HO.out.blks b (.inr (.inr e))).1, (HNe.out b (.inr (.inr e))).1⟩) ⟨by omega, HGf.out⟩)
        have HGlK : Hid (ablk D1 ≠ some gl) := Lib.hid fun e => (HNe.out gl (.inr (.inr e))).2.2 rfl
        have hfin : PlI w0 w (W.setCell ⟨gn, 3, none⟩ (.slice A' (nk + i + 1) c')) base p0 p N T gn gl s at_ (i + 1) l :=
          ⟨HTk.out.1, HSt.out, HTk.out.2.1 _ _ _ HG.out HGlK.out hgn.symm, Nat.le_trans hsz HTk.out.2.2⟩
        have HFin := Lib.hid hfin
        clear hc2 hf2 hHeld hPW hS hKA hA hoA c1 c1w d0 d0w I HSt HTk HGlK hfin HC HG HB HO HNe HGf HFt HXx HP HVb HO11
        go_wp2
        go_roundw
        case rel => exact ⟨i + 1, by omega, by norm_cast, HFin.out⟩
        case measure => simp only [intOf]; omega
      · obtain rfl : i = ll := by omega
        have HI := Lib.hid hI
        have hge : ¬ (i : Int) < (i : Int) := by omega
        clear hI
        obtain ⟨hC, hNb, hG, hsz⟩ := HI.out
        rw [show l.take i = l from by rw [HL2.out]; exact List.take_length] at hNb
        clear hG HI
        have HC := Lib.hid hC
        have HNb := Lib.hid hNb
        obtain ⟨K1, n1, ck1, V1, nv1, cv1, D1, nd1, cd1, hb, ho, _, hgf, hne⟩ := hNb
        have hm1 : (l.map (·.1)).length = i := by rw [List.length_map, HL2.out]
        have hm2 : (l.map (fun x => (x.2 : Int))).length = i := by rw [List.length_map, HL2.out]
        have hn1 : n1 = nk + i := by
          have := ho.nk_eq
          rw [← this]; unfold placeN
          rw [List.length_append, List.length_append, hm1, List.length_take, List.length_drop]; omega
        have hd1 : nd1 = nk + i := by
          have := ho.nd_eq
          rw [← this]; unfold placeN
          rw [List.length_append, List.length_append, hm2, List.length_take, List.length_drop]; omega
        subst hn1 hd1
        have b1 := hb.cell 1
        have b3 := hb.cell 3
        simp only [List.getElem?_cons_zero, List.getElem?_cons_succ] at b1 b3
        by_cases hi2 : i = 2
        · subst hi2
          have hQ : PlTo w0 base p0 N T gn (placeN s at_ l) (.returned (.int .i64 0)) wr := ⟨rfl, p, HC.out, HNb.out.mono (fun _ _ x => x.elim)⟩
          have HQ := Lib.hid hQ
          clear hQ hb ho hgf hne hC HNb HC
          go_wp2
          go_ret
          exact HQ.out
        · obtain rfl : i = 1 := by omega
          obtain ⟨left, hleft⟩ : ∃ z, z = min at_ (nk - 1) := ⟨_, rfl⟩
          have hlk : left + 1 < nk + 1 := by omega
          have hmin : min (at_ : Int) ((nk : Int) + 1 - 2) = (left : Int) := by omega
          have hkl : (placeN s at_ l).kids.length = nk + 1 := ho.nd_eq
          obtain ⟨x1, x2, a, b, hx1, hx2, hTa, hTb, hab, hjs⟩ := HNj.out HL2.out.symm left (by omega)
          have d1 : D1 = D1 := rfl
          obtain ⟨db1, rfl, hdb11, hdb12⟩ := ho.kids.head (by omega)
          have k1 : wr.cell? ⟨db1, left, none⟩ = some (.int .i64 (x1 : Int)) := by
            have := il_cell (own_ls ho.kids) left (by omega)
            rwa [Nat.zero_add, hx1] at this
          have k2 : wr.cell? ⟨db1, left + 1, none⟩ = some (.int .i64 (x2 : Int)) := by
            have := il_cell (own_ls ho.kids) (left + 1) (by omega)
            rwa [Nat.zero_add, hx2] at this
          have L1 := load_any (lv := 1) hC.tr hTa (by omega)
          rw [← HGp.out] at L1
          have L1 := Lib.hid L1
          have hnk1 : 1 ≤ nk := by omega
          have hleft2 : (left : Int) + 1 < (nk : Int) + 1 := by omega
          have hleft0 : (0 : Int) ≤ (left : Int) ∧ (left : Int) < (nk : Int) + 1 := by omega
          have hnk2 : ¬ ((nk : Int) + 1 < 2) := by omega
          have HDb : Hid (¬ p.foot db1 ∧ db1 < wr.heap.size ∧ ¬ p.foot gn ∧ gn < wr.heap.size) := Lib.hid ⟨(hne db1 (.inr (.inr rfl))).1, hdb12, hgf, hb.lt⟩
          have HTb := Lib.hid hTb
          have HAB : Hid (a.leaf = b.leaf ∧ 120 < szV (sizeN (joinN a b))) := Lib.hid ⟨hab, hjs⟩
          have HTa := Lib.hid hTa
          have hzn := zero26_
          have hw0r : w0.heap.size ≤ wr.heap.size := hC.K.size
          clear hb ho hgf hne hC hleft hTb hTa hab hjs hx1 hx2 d1
          go_upto_region 15 with ((with_reducible refine Calls.mono L1.out ?_); rintro e w1 ⟨p1, lo1, Ka, nka, cka, Va, nva, cva, Da, nda, cda, rfl, hc1, hoa, hlo1, hf1⟩)
          have hC1 := HC.out.trans hc1
          have hsa := HC.out.tr.says _ _ HTa.out
          have hla := may_len3 hsa.2.2.1 hsa.2.2.2.1
          have ha1 := hoa.nk_eq
          have ha2 := hoa.nv_eq
          have ha3 := hoa.nd_eq
          have hna := hoa.ndr (may_sm hsa.2.2.1) (by omega) (by omega) (by omega)
          have b3' : w1.cell? ⟨gn, 3, none⟩ = some (.slice (some ⟨db1, 0, none⟩) (nk + 1) cd1) := (World.cell?_of_block (a := ⟨gn, 3, none⟩) (hc1.K.block gn HDb.out.2.2.2 HDb.out.2.2.1)).trans b3
          have k2' : w1.cell? ⟨db1, left + 1, none⟩ = some (.int .i64 (x2 : Int)) := (World.cell?_of_block (a := ⟨db1, left + 1, none⟩) (hc1.K.block db1 HDb.out.2.1 HDb.out.1)).trans k2
          obtain ⟨g13, hg13⟩ : ∃ z, z = w1.heap.size := ⟨_, rfl⟩
          rw [← hg13]
          have hal : Below w1.heap.size w1 (w1.alloc (.cells #[.bool a.leaf, .slice Ka nka cka, .slice Va nva cva, .slice Da nda cda] 59)) := (Below.refl _ _).alloc (Nat.le_refl _) _
          have hlo1' : lo1 ≤ g13 := by
            have h1 := hsa.2.2.1.1.1
            obtain ⟨_, _, h2, h3⟩ := hoa.keys.head (by omega)
            omega
          have hf1' : ∀ b, p1.foot b → b < g13 := fun b e => Nat.lt_of_lt_of_le (hf1 b e) hlo1'
          have hgdb := hC1.tr.foot_base
          have HDb1 : Hid (gn < w1.heap.size ∧ db1 < w1.heap.size) := Lib.hid ⟨Nat.lt_of_lt_of_le HDb.out.2.2.2 hc1.K.size, Nat.lt_of_lt_of_le HDb.out.2.1 hc1.K.size⟩
          have HF1 := Lib.hid hf1
          refine wp_world (fun U => TCh w0 U base p0 p1 N T ∧ NdB w0 U p1 gn (fun b => b = gl) (placeN s at_ l) ∧ Blk U g13 59 [.bool a.leaf, .slice Ka nka cka, .slice Va nva cva, .slice Da nda cda] ∧ NdR U lo1 a Ka nka cka Va nva cva Da nda cda ∧ U.cell? ⟨gn, 3, none⟩ = some (.slice (some ⟨db1, 0, none⟩) (nk + 1) cd1) ∧ U.cell? ⟨db1, left + 1, none⟩ = some (.int .i64 (x2 : Int)) ∧ p1.g = gp)
            ⟨hC1.below hal (Nat.le_refl _), (HNb.out.step hc1).below hal (Nat.le_refl _), Blk.new_at (cs := [.bool a.leaf, .slice Ka nka cka, .slice Va nva cva, .slice Da nda cda]) hg13, hna.below hal (Nat.le_refl _), (hal.cell (p := ⟨gn, 3, none⟩) HDb1.out.1).trans b3', (hal.cell (p := ⟨db1, left + 1, none⟩) HDb1.out.2).trans k2', hc1.g.trans HGp.out.symm⟩ ?_
          have HG13 : Hid (∀ b, p1.foot b → b < g13) := Lib.hid hf1'
          have HLa : Hid (nka ≤ 240 ∧ nva ≤ 240 ∧ nda ≤ 240) := Lib.hid ⟨by omega, by omega, by omega⟩
          clear hal hC1 hsa hla ha1 ha2 ha3 hna b3' k2' hg13 hf1' hgdb HDb1 hc1 hoa hlo1 hf1 hlo1' L1 HC HNb HDb b3 k1 k2 b1
          rintro U ⟨hC, hNb, hA, hna, b3, k2, hpg⟩
          have L2 := load_any (lv := 1) hC.tr HTb.out (by omega)
          rw [hpg] at L2
          have L2 := Lib.hid L2
          have HC := Lib.hid hC
          have HNb := Lib.hid hNb
          have HA := Lib.hid hA
          have HNa := Lib.hid hna
          have HPg := Lib.hid hpg
          clear hC hNb hA hna hpg
          go_upto_region 18 with ((with_reducible refine Calls.mono L2.out ?_); rintro e w2 ⟨p2, lo2, Kb, nkb, ckb, Vb, nvb, cvb, Db, ndb, cdb, rfl, hc2, hob, hlo2, hf2⟩)
          have hC2 := HC.out.trans hc2
          have hsb := HC.out.tr.says _ _ HTb.out
          have hlb := may_len3 hsb.2.2.1 hsb.2.2.2.1
          have hb1 := hob.nk_eq
          have hb2 := hob.nv_eq
          have hb3 := hob.nd_eq
          have hnb := hob.ndr (may_sm hsb.2.2.1) (by omega) (by omega) (by omega)
          have hna2 := HNa.out.kept_lo hc2.K (fun b e _ x => by have := HF1.out b x; omega)
          have hA2 := hc2.K.blk HA.out (fun x => by have := HG13.out _ x; omega)
          obtain ⟨g15, hg15⟩ : ∃ z, z = w2.heap.size := ⟨_, rfl⟩
          rw [← hg15]
          have hal : Below w2.heap.size w2 (w2.alloc (.cells #[.bool b.leaf, .slice Kb nkb ckb, .slice Vb nvb cvb, .slice Db ndb cdb] 59)) := (Below.refl _ _).alloc (Nat.le_refl _) _
          have HLb : Hid (nkb ≤ 240 ∧ nvb ≤ 240 ∧ ndb ≤ 240) := Lib.hid ⟨by omega, by omega, by omega⟩
          refine wp_world (fun U => TCh w0 U base p0 p2 N T ∧ NdB w0 U p2 gn (fun b => b = gl) (placeN s at_ l) ∧ Blk U g13 59 [.bool a.leaf, .slice Ka nka cka, .slice Va nva cva, .slice Da nda cda] ∧ NdR U lo1 a Ka nka cka Va nva cva Da nda cda ∧ Blk U g15 59 [.bool b.leaf, .slice Kb nkb ckb, .slice Vb nvb cvb, .slice Db ndb cdb] ∧ NdR U lo2 b Kb nkb ckb Vb nvb cvb Db ndb cdb)
            ⟨hC2.below hal (Nat.le_refl _), (HNb.out.step hc2).below hal (Nat.le_refl _), hA2.alloc _, hna2.below hal (Nat.le_refl _), Blk.new_at (cs := [.bool b.leaf, .slice Kb nkb ckb, .slice Vb nvb cvb, .slice Db ndb cdb]) hg15, hnb.below hal (Nat.le_refl _)⟩ ?_
          clear hal hC2 hsb hlb hb1 hb2 hb3 hnb hna2 hA2 hg15 hc2 hob hlo2 hf2 L2 HC HNb HA HNa b3 k2
          rintro U2 ⟨hC, hNb, hA, hna, hB, hnb⟩
          have J := Lib.hid (join_any a b hna hnb (by have := HLa.out; have := HLb.out; omega) (by have := HLa.out; have := HLb.out; omega) (by have := HLa.out; have := HLb.out; omega))
          have hAc := hA.cells
          have hBc := hB.cells
          have HC := Lib.hid hC
          have HNb := Lib.hid hNb
          have HA := Lib.hid hA
          have HB := Lib.hid hB
          clear hC hNb hA hna hB hnb
          go_upto_region 21 with ((with_reducible refine Calls.mono J.out ?_); rintro e w3 ⟨Kj, nkj, ckj, Vj, nvj, cvj, Dj, ndj, cdj, rfl, hnj, hb3⟩)
          clear hAc hBc J
          obtain ⟨g16, hg16⟩ : ∃ z, z = w3.heap.size := ⟨_, rfl⟩
          rw [← hg16]
          have hal : Below w3.heap.size w3 (w3.alloc (.cells #[.bool (joinN a b).leaf, .slice Kj nkj ckj, .slice Vj nvj cvj, .slice Dj ndj cdj] 59)) := (Below.refl _ _).alloc (Nat.le_refl _) _
          refine wp_world (fun U => TCh w0 U base p0 p2 N T ∧ NdB w0 U p2 gn (fun b => b = gl) (placeN s at_ l) ∧ Blk U g13 59 [.bool a.leaf, .slice Ka nka cka, .slice Va nva cva, .slice Da nda cda] ∧ Blk U g15 59 [.bool b.leaf, .slice Kb nkb ckb, .slice Vb nvb cvb, .slice Db ndb cdb] ∧ Blk U g16 59 [.bool (joinN a b).leaf, .slice Kj nkj ckj, .slice Vj nvj cvj, .slice Dj ndj cdj] ∧ NdR U U2.heap.size (joinN a b) Kj nkj ckj Vj nvj cvj Dj ndj cdj)
            ⟨(HC.out.below hb3 (Nat.le_refl _)).below hal (Nat.le_refl _), (HNb.out.below hb3 (Nat.le_refl _)).below hal (Nat.le_refl _), (HA.out.below hb3 HA.out.lt).alloc _, (HB.out.below hb3 HB.out.lt).alloc _, Blk.new_at (cs := [.bool (joinN a b).leaf, .slice Kj nkj ckj, .slice Vj nvj cvj, .slice Dj ndj cdj]) hg16, hnj.below hal (Nat.le_refl _)⟩ ?_
          clear hal hg16 hb3 hnj HC HNb HA HB
          rintro U3 ⟨hC, hNb, hA, hB, hJ, hnj⟩
          obtain ⟨Z, hZ⟩ : ∃ Z, Z = szV (sizeN (joinN a b)) := ⟨_, rfl⟩
          have hZb : -9223372036854775808 ≤ Z ∧ Z ≤ 9223372036854775807 := by rw [hZ]; exact szV_bd _
          have hZ2 : (120 : Int) < Z := by rw [hZ]; exact HAB.out.2
          have Sz0 := nsize_any (joinN a b) hnj
          rw [← hZ] at Sz0
          have Sz := Lib.hid Sz0
          have hA0 : U3.cell? ⟨g13, 0, none⟩ = some (.bool a.leaf) := hA.cell 0
          have hB0 : U3.cell? ⟨g15, 0, none⟩ = some (.bool a.leaf) := by have := hB.cell 0; rw [← HAB.out.1] at this; exact this
          have hJc := hJ.cells
          have HC := Lib.hid hC
          have HNb := Lib.hid hNb
          clear hC hNb hA hB hJ hnj hZ Sz0
          cases hlf : a.leaf
          all_goals
            rw [hlf] at hA0 hB0
            go_wp2_with ((with_reducible refine Calls.mono Sz.out ?_); rintro e w4 ⟨rfl, hb4⟩)
            have hQ : PlTo w0 base p0 N T gn (placeN s at_ l) (.returned (.int .i64 0)) w4 := ⟨rfl, p2, HC.out.below hb4 (Nat.le_refl _), (HNb.out.below hb4 (Nat.le_refl _)).mono (fun _ _ x => x.elim)⟩
            have HQ := Lib.hid hQ
            clear hQ hb4 HC HNb Sz
            go_ret
            exact HQ.out
end Go.Proofs.Ytdakohbfibcjeaa
