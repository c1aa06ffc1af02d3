/- tree.Scan's closure: its walk. (Printed by gen_scc.py.) No condition. -/
import Derived.Test.YtdakohbfibcjeaaSc
import Derived.Test.YtdakohbfibcjeaaTvD
import Derived.Deep.RegionHeld3
namespace Go.Proofs.Ytdakohbfibcjeaa
open Go.RowKit Go.Maps
set_option linter.unusedSimpArgs false
set_option linter.unusedVariables false

section
variable {P : Program} {ops : Array Oper} {o : Oper} {a : Act} {w : World} {K : Act → World → Prop} {Q : Exit → Act → World → Prop} {E : Prop}
theorem step_blt1 (hgd : o.guard = none) (t : TypeId) (x : Operand) (ho : o.op = .buildSlice t 1 #[(0, x)]) {u v : Value} {w' : World} (hx : a.eval x = u) (hr : (Instr.buildSlice t 1 #[(0, u)]).run P w = .ok v w') (h : K (a.put o.dst v) w') :
    if Region.wanted o (yielded ops a.tmps) = true then Oper.wp P o a w K Q else E := by
  have hw : Region.wanted o (yielded ops a.tmps) = true := by simp [Region.wanted, hgd]
  rw [if_pos hw]
  unfold Oper.wp execOp
  simp [ho, hx, hr]
  exact h
end
theorem two_cells (f : Nat → Value) (a b : Value) : ((Array.map f (Array.range 2)).setIfInBounds 0 a).setIfInBounds 1 b = #[a, b] := by
  have e : Array.range 2 = #[0, 1] := by decide
  rw [e]; simp
theorem run_bltE (k v : ByteArray) (w : World) : (Instr.buildSlice 22 1 #[(0, .agg #[.string k, .string v])]).run Try.prog w = .ok (.slice (some ⟨w.heap.size, 0, none⟩) 1 1) (w.alloc (.cells #[.string k, .string v] 27)) := by
  obtain ⟨i, hi, hz, hsz, _⟩ := info_parts infoEnt
  simp [Instr.buildSlice, run_underlying Try.underlying22, sizeOf, typeInfo, zeroValue, hi, hz, hsz, newRow, Instr.fill, Value.cells]
  rw [two_cells]
/-- what the closure comes to -/
def SccTo (w : World) (base : Nat) (p : TrS) (N : Nat) (T : Nodes) (a : ScA) (A : Option Addr) (es : List Ent) (S : Nat → Bool) (e : Ending) (w' : World) : Prop :=
  ∃ A' n' c', e = .returned (.bool true) ∧ ScC w w' base p p N T a A A' n' c' es S
theorem less_nil (k : ByteArray) : Op.bytesLess k.toList (⟨#[]⟩ : ByteArray).toList = false := by
  have := kye_nil k
  exact Bool.eq_false_iff.2 this
theorem nil_eq : ((⟨#[]⟩ : ByteArray).toList == (⟨#[]⟩ : ByteArray).toList) = true := beq_self_eq_true _
set_option maxRecDepth 100000 in
set_option maxHeartbeats 4000000 in
theorem scc_any {w : World} {base N n c lo : Nat} {p : TrS} {T : Nodes} {a : ScA} {A : Option Addr} {es es2 : List Ent} {S : Nat → Bool} {s : Nd} {K V D : Option Addr} {nk ck nv cv nd cd : Nat} {at_ : Int} (h : Sc w base p N T a A n c es S)
    (hN : NdO w lo s K nk ck V nv cv D nd cd) (hlo : ∀ b, ScF p A a b → b < lo) (hv : s.vals = es2.map (·.2)) (hk : es2 = [] ∨ s.keys = es2.map (·.1)) (hlen : es.length + es2.length ≤ 900) :
    Calls Try.prog 21 #[.agg #[.bool s.leaf, .slice K nk ck, .slice V nv cv, .slice D nd cd], .int .i64 at_, .pointer (some ⟨a.go, 0, none⟩), .pointer (some ⟨a.gm, 0, none⟩), .pointer (some ⟨a.gf, 0, none⟩), .pointer (some ⟨a.gt, 0, none⟩)] w
      (SccTo w base p N T a A (es ++ es2) S) := by
  obtain ⟨g6, hg6⟩ : ∃ z, z = w.heap.size := ⟨_, rfl⟩
  have hal : Below w.heap.size w (w.alloc (.cells #[.bool s.leaf, .slice K nk ck, .slice V nv cv, .slice D nd cd] 59)) := (Below.refl _ _).alloc (Nat.le_refl _) _
  have hB : Blk (w.alloc (.cells #[.bool s.leaf, .slice K nk ck, .slice V nv cv, .slice D nd cd] 59)) g6 59 [.bool s.leaf, .slice K nk ck, .slice V nv cv, .slice D nd cd] := Blk.new_at hg6
  have hn6 : ¬ ScF p A a g6 := fun x => by have := h.lt _ x; omega
  have hnv : nv = es2.length := by have := hN.nv_eq; rw [hv, List.length_map] at this; omega
  have hn := h.len
  have HN := Lib.hid (hN.below hal (Nat.le_refl _))
  have HC := Lib.hid ((ScC.init h).below hal (Nat.le_refl _))
  have HLo := Lib.hid hlo
  have HV := Lib.hid hv
  have HK := Lib.hid hk
  have HNv := Lib.hid hnv
  have HLen := Lib.hid hlen
  have HB := Lib.hid hB
  have HN6 := Lib.hid hn6
  have HBk : Hid (∀ b, ablk K = some b ∨ ablk V = some b ∨ ablk D = some b → lo ≤ b ∧ b < w.heap.size) := Lib.hid hN.blks
  have HL := Lib.hid h.lt
  have h0b := hB.cells
  clear h hN hlo hv hk hlen hal hB hn6 hnv hn
  go_enter Try.func21, Try.ntmps21
  go_upto_region 1 with fail
  rw [← hg6]
  obtain ⟨W, hW⟩ : ∃ z, z = w.alloc (.cells #[.bool s.leaf, .slice K nk ck, .slice V nv cv, .slice D nd cd] 59) := ⟨_, rfl⟩
  rw [← hW] at HN HC HB h0b
  rw [← hW]
  have HWs : Hid (w.heap.size < W.heap.size) := Lib.hid (by rw [hW]; simp)
  have HG6 := Lib.hid hg6
  clear hW hg6
  go_wp2
  go_loopw [14] (fun s14 wr => ∃ i : Nat, i ≤ nv ∧ s14 = .int .i64 i ∧ ∃ A' n' c', ScC w wr base p p N T a A A' n' c' (es ++ es2.take i) S ∧ Blk wr g6 59 [.bool s.leaf, .slice K nk ck, .slice V nv cv, .slice D nd cd] ∧ NdO wr lo s K nk ck V nv cv D nd cd ∧ ¬ ScF p A' a g6) (fun s14 _ => nv - (intOf s14).toNat)
  case atStart =>
    refine ⟨0, Nat.zero_le _, rfl, A, n, c, ?_, HB.out, HN.out, HN6.out⟩
    rw [List.take_zero, List.append_nil]; exact HC.out
  case round =>
    obtain ⟨i, hi, rfl, A', n', c', hC, hB, hN, hn6⟩ := hrel
    have hn' := hC.sc.len
    have hle : es2.length = nv := HNv.out.symm
    have hle2 := HLen.out
    have hlt' : (es ++ es2.take i).length = es.length + i := by rw [List.length_append, List.length_take]; omega
    rw [hlt'] at hn'
    have hmost : wr.cell? ⟨a.gm, 0, none⟩ = some (.int .i64 1000) := hC.sc.most.cell 0
    have hout : wr.cell? ⟨a.go, 0, none⟩ = some (.slice A' n' c') := hC.sc.out.cell 0
    have h1000 : (n' : Int) < 1000 := by omega
    have HHle := Lib.hid (And.intro hle hle2)
    have HHn := Lib.hid hn'
    clear hle hle2 hlt' hn'
    by_cases hlt : i < nv
    · have hke : s.keys = es2.map (·.1) := by
        rcases HK.out with x | x
        · have := HHle.out.1; rw [x, List.length_nil] at this; omega
        · exact x
      have hi2 : i < es2.length := by have := HHle.out.1; omega
      have hnk : nk = nv := by have := hN.nk_eq; rw [hke, List.length_map] at this; have := HHle.out.1; omega
      subst hnk
      obtain ⟨kb, hKe, _, _⟩ := hN.keys.head (by omega)
      obtain ⟨vb, hVe, _, _⟩ := hN.vals.head (by omega)
      subst hKe hVe
      have k0 : wr.cell? ⟨kb, i, none⟩ = some (.string (kAt s i)) := by
        have := sl_cell (own_ls hN.keys) i hlt
        rwa [Nat.zero_add] at this
      have v0 : wr.cell? ⟨vb, i, none⟩ = some (.string (vAt s i)) := by
        have := sl_cell (own_ls hN.vals) i hlt
        rwa [Nat.zero_add] at this
      have hks : (kAt s i, vAt s i) = es2[i] := by
        unfold kAt vAt
        rw [hke, HV.out, List.getD_eq_getElem?_getD, List.getD_eq_getElem?_getD, List.getElem?_map, List.getElem?_map, List.getElem?_eq_getElem hi2]
        rfl
      have htk : es ++ es2.take (i + 1) = (es ++ es2.take i) ++ [(kAt s i, vAt s i)] := by rw [List.take_succ_eq_append_getElem hi2, hks, List.append_assoc]
      generalize kAt s i = kk at *
      generalize vAt s i = vv at *
      have hb1 : wr.cell? ⟨g6, 1, none⟩ = some (.slice (some ⟨kb, 0, none⟩) nk ck) := hB.cell 1
      have hb2 : wr.cell? ⟨g6, 2, none⟩ = some (.slice (some ⟨vb, 0, none⟩) nk cv) := hB.cell 2
      have hfr : wr.cell? ⟨a.gf, 0, none⟩ = some (.string ⟨#[]⟩) := hC.sc.from_.cell 0
      have hto : wr.cell? ⟨a.gt, 0, none⟩ = some (.string ⟨#[]⟩) := hC.sc.to_.cell 0
      have hgof := hC.sc.out.frees
      have hln := less_nil kk
      have hne := nil_eq
      have hln2 := bytesLess_nil kk.toList
      have hib : (0 : Int) ≤ (i : Int) ∧ (i : Int) < (nk : Int) := by omega
      have hil : (i : Int) < (nk : Int) := by omega
      have HTk := Lib.hid htk
      have HC1 := Lib.hid hC
      have HB1 := Lib.hid hB
      have HN1 := Lib.hid hN
      have HN61 := Lib.hid hn6
      have HHi2 := Lib.hid hi2
      clear hks htk hke hC hB hN hn6 hi2
      go_upto_region 6 with fail
      obtain ⟨U0, hU0⟩ : ∃ U0, U0 = wr.drew := ⟨_, rfl⟩
      have hbel : Below wr.heap.size wr U0 := hU0 ▸ (Below.refl _ _).drew
      have hsz0 : U0.heap.size = wr.heap.size := by rw [hU0]; rfl
      have HC2 := Lib.hid (HC1.out.below hbel (Nat.le_refl _))
      have HB2 := Lib.hid (HB1.out.below hbel HB1.out.lt)
      have HN2 := Lib.hid (HN1.out.below hbel (Nat.le_refl _))
      have v1 : U0.cell? ⟨vb, i, none⟩ = some (.string vv) := hU0 ▸ v0
      have hnm : Hid (n' ≤ 900) := Lib.hid (by have h1 := HHn.out; have h2 := HHle.out; omega)
      have hvA : Hid (¬ ScF p A' a vb) := Lib.hid (HC1.out.away (fun x => by have h1 := HLo.out _ x; have h2 := (HBk.out vb (.inr (.inl rfl))).1; omega) (HBk.out vb (.inr (.inl rfl))).2)
      have hvl : Hid (vb < wr.heap.size) := Lib.hid (block_lt_of_cell v0)
      clear hmost hout h1000 hgof k0 v0 hfr hto hln hln2 hne hb1 hb2
      refine wp_region_last (S := fun w' => w'.cell? ⟨a.go, 0, none⟩ = some (.slice A' n' c') ∧ w'.cell? ⟨g6, 2, none⟩ = some (.slice (some ⟨vb, 0, none⟩) nk cv) ∧ w'.cell? ⟨vb, i, none⟩ = some (.string vv)) 10 (by kernel_rfl) rfl (by kernel_rfl) ?_ ?_
      · rw [← hU0]; exact ⟨HC2.out.sc.out.cell 0, HB2.out.cell 2, v1⟩
      intro hHeld
      simp only [List.take_succ_cons, List.take_zero]
      rw [← hU0] at hHeld
      rw [← hU0]
      refine wpAnyH_take (i := 0) (v := ?_) (by simp only [List.getElem?_toArray, List.getElem?_cons_succ, List.getElem?_cons_zero]; rfl) (by kernel_rfl) (by kernel_rfl) (by kernel_rfl) (fun _ _ _ h => h) (Or.inl ⟨by rfl, ?_⟩) hHeld ?_
      rotate_left
      · intro wz hSw; (try dsimp only at hSw); go_simp; try with_reducible rfl
      (try simp only [Act.put, List.setIfInBounds_toArray, List.set_cons_zero, List.set_cons_succ])
      refine wpAnyH_take (i := 1) (v := ?_) (by simp only [List.getElem?_toArray, List.getElem?_cons_succ, List.getElem?_cons_zero]; rfl) (by kernel_rfl) (by kernel_rfl) (by kernel_rfl) (fun _ _ _ h => h) (Or.inl ⟨by rfl, ?_⟩) hHeld ?_
      rotate_left
      · intro wz hSw; (try dsimp only at hSw); go_simp; try with_reducible rfl
      (try simp only [Act.put, List.setIfInBounds_toArray, List.set_cons_zero, List.set_cons_succ])
      refine wpAnyH_take (i := 2) (v := ?_) (by simp only [List.getElem?_toArray, List.getElem?_cons_succ, List.getElem?_cons_zero]; rfl) (by kernel_rfl) (by kernel_rfl) (by kernel_rfl) (fun _ _ _ h => h) (Or.inl ⟨by rfl, ?_⟩) hHeld ?_
      rotate_left
      · intro wz hSw; (try dsimp only at hSw); go_simp; try with_reducible rfl
      (try simp only [Act.put, List.setIfInBounds_toArray, List.set_cons_zero, List.set_cons_succ])
      refine wpAnyH_take (i := 3) (v := ?_) (by simp only [List.getElem?_toArray, List.getElem?_cons_succ, List.getElem?_cons_zero]; rfl) (by kernel_rfl) (by kernel_rfl) (by kernel_rfl) (fun _ _ _ h => h) (Or.inl ⟨by rfl, ?_⟩) hHeld ?_
      rotate_left
      · intro wz hSw; (try dsimp only at hSw); go_simp; try with_reducible rfl
      (try simp only [Act.put, List.setIfInBounds_toArray, List.set_cons_zero, List.set_cons_succ])
      refine wpAnyH_take (i := 4) (v := ?_) (by simp only [List.getElem?_toArray, List.getElem?_cons_succ, List.getElem?_cons_zero]; rfl) (by kernel_rfl) (by kernel_rfl) (by kernel_rfl) (fun _ _ _ h => h) (Or.inl ⟨by rfl, ?_⟩) hHeld ?_
      rotate_left
      · intro wz hSw; (try dsimp only at hSw); go_simp; try with_reducible rfl
      (try simp only [Act.put, List.setIfInBounds_toArray, List.set_cons_zero, List.set_cons_succ])
      refine wpAnyH_take (i := 5) (v := ?_) (by simp only [List.getElem?_toArray, List.getElem?_cons_succ, List.getElem?_cons_zero]; rfl) (by kernel_rfl) (by kernel_rfl) (by kernel_rfl) (fun _ _ _ h => h) (Or.inl ⟨by rfl, ?_⟩) hHeld ?_
      rotate_left
      · intro wz hSw; (try dsimp only at hSw); go_simp; try with_reducible rfl
      (try simp only [Act.put, List.setIfInBounds_toArray, List.set_cons_zero, List.set_cons_succ])
      refine wpAnyH_take (i := 6) (v := ?_) (by simp only [List.getElem?_toArray, List.getElem?_cons_succ, List.getElem?_cons_zero]; rfl) (by kernel_rfl) (by kernel_rfl) (by kernel_rfl) (fun _ _ _ h => h) (Or.inl ⟨by rfl, ?_⟩) hHeld ?_
      rotate_left
      · intro wz hSw; (try dsimp only at hSw); go_simp; try with_reducible rfl
      (try simp only [Act.put, List.setIfInBounds_toArray, List.set_cons_zero, List.set_cons_succ])
      refine wpAnyH_take (i := 7) (v := ?_) (by simp only [List.getElem?_toArray, List.getElem?_cons_succ, List.getElem?_cons_zero]; rfl) (by kernel_rfl) (by kernel_rfl) (by kernel_rfl) (fun _ _ _ h => h) (Or.inl ⟨by rfl, ?_⟩) hHeld ?_
      rotate_left
      · intro wz hSw; (try dsimp only at hSw); go_simp; try with_reducible rfl
      (try simp only [Act.put, List.setIfInBounds_toArray, List.set_cons_zero, List.set_cons_succ])
      have HC3 := Lib.hid (HC2.out.below ((Below.refl _ _).alloc (Nat.le_refl _) (.cells #[.string kk, .string vv] 27)) (Nat.le_refl _))
      have HB3 := Lib.hid (HB2.out.alloc (.cells #[.string kk, .string vv] 27))
      have HN3 := Lib.hid (HN2.out.below ((Below.refl _ _).alloc (Nat.le_refl _) (.cells #[.string kk, .string vv] 27)) (Nat.le_refl _))
      have v2 : (U0.alloc (.cells #[.string kk, .string vv] 27)).cell? ⟨vb, i, none⟩ = some (.string vv) := (((Below.refl U0.heap.size U0).alloc (Nat.le_refl _) _).cell (p := ⟨vb, i, none⟩) (by rw [hsz0]; exact hvl.out)).trans v1
      have hB1 : Blk (U0.alloc (.cells #[.string kk, .string vv] 27)) U0.heap.size 27 [.string kk, .string vv] := Blk.new U0 _ _
      refine wpAnyH_ready (rs := [8]) (by kernel_rfl) (by simp) ?_
      refine AllReadyH.cons (by simp only [List.getElem?_toArray, List.getElem?_cons_succ, List.getElem?_cons_zero]; rfl) (fun KK hK => ?_) AllReadyH.nil
      (refine step_blt1 rfl 22 (.tmp 47) rfl (u := .agg #[.string kk, .string vv]) rfl (run_bltE kk vv _) ?_)
      refine hK.out _ _ ?_ (fun hHeld => ?_)
      · exact ⟨HC3.out.sc.out.cell 0, HB3.out.cell 2, v2⟩
      clear hK KK
      (try simp only [Act.put, List.setIfInBounds_toArray, List.set_cons_zero, List.set_cons_succ])
      obtain ⟨W1, hW1⟩ : ∃ W1, W1 = U0.alloc (.cells #[.string kk, .string vv] 27) := ⟨_, rfl⟩
      have hs1 : wr.heap.size ≤ W1.heap.size := by rw [hW1, ← hsz0]; simp
      rw [← hW1] at HC3 HB3 HN3 v2 hB1 hHeld
      rw [← hW1]
      refine wpAnyH_ready (rs := [9]) (by kernel_rfl) (by simp) ?_
      refine AllReadyH.cons (by simp only [List.getElem?_toArray, List.getElem?_cons_succ, List.getElem?_cons_zero]; rfl) (fun KK hK => ?_) AllReadyH.nil
      (refine step_app rfl (.tmp 40) (.tmp 48) 22 rfl 27 2 Try.underlying22 infoEnt (by simp [Value.cells]) (by omega) rfl HC3.out.sc.own rfl (hB1.rd0 (Nat.le_refl _)) rfl (entC_one [(kk, vv)]) (by have := hnm.out; omega) (by have := hnm.out; omega) (Nat.zero_le _) ?_; intro A2 c2 w2 ho2 hg2 hf2; have K2 : Kept (fun j => ablk A' = some j) W1 w2 := Kept.of_grown hg2 (fun j e => e))
      refine hK.out _ _ ?_ (fun hHeld => ?_)
      · exact ⟨(K2.blk HC3.out.sc.out (fun x => HC3.out.sc.ap1.2.1 x)).cell 0, (K2.blk HB3.out (fun x => HN61.out (.inr (.inr (.inr x))))).cell 2, (World.cell?_of_block (a := ⟨vb, i, none⟩) (K2.block vb (Nat.lt_of_lt_of_le hvl.out hs1) (fun x => hvA.out (.inr (.inr (.inr x)))))).trans v2⟩
      clear hK KK
      (try simp only [Act.put, List.setIfInBounds_toArray, List.set_cons_zero, List.set_cons_succ])
      have ho3 : Own w2 0 27 2 A2 (n' + 1) c2 (entC (es ++ es2.take (i + 1))) := by rw [HTk.out, entC_app]; exact ho2
      have hQ := Sc.onO HC3.out.sc ho3 K2 (hf2.imp id (fun e => ⟨_, e, Nat.le_refl _⟩))
      have HQ := Lib.hid (HC3.out.trans hQ)
      have HBq := Lib.hid (hQ.K.blk HB3.out HN61.out)
      have HN6q := Lib.hid (hQ.away HN61.out HB3.out.lt)
      have HNq := Lib.hid (HN3.out.kept hQ.K (fun b e => HC1.out.away (fun x => by have h1 := HLo.out _ x; have h2 := (HBk.out b e).1; omega) (HBk.out b e).2))
      have hof := (K2.blk HC3.out.sc.out (fun x => HC3.out.sc.ap1.2.1 x)).frees
      refine wpAnyH_done (by kernel_rfl) ?_ _
      simp only [lastQ]
      go_simp
      clear hHeld ho2 hg2 hf2 K2 ho3 hQ hB1 hof
      have hb9 : nk ≤ 900 := by have := HHle.out; omega
      go_wp2
      go_roundw
      case rel => exact ⟨i + 1, by omega, by go_num, A2, n' + 1, c2, HQ.out, HBq.out, HNq.out, HN6q.out⟩
      case measure => simp [intOf]; omega
    · obtain rfl : i = nv := by omega
      have hle := HHle.out
      have HF : Hid (ScC w wr base p p N T a A A' n' c' (es ++ es2) S) := Lib.hid (by rw [← List.take_of_length_le (l := es2) (i := i) (by omega)]; exact hC)
      clear hle hC hB hN hn6
      go_wp2
      go_ret
      exact ⟨A', n', c', rfl, HF.out⟩
end Go.Proofs.Ytdakohbfibcjeaa
