/- A sector is written: disk.Write. (Printed by gen_dkwrite.py.) Conditions: fewer than 2^39 versions; the data lie outside the disk. -/
import Derived.Test.YtnclebnodkkgnaaDkWr
import Derived.Great.FillDense
namespace Go.Proofs.Ytnclebnodkkgnaa
open Go.RowKit Go.Maps
set_option linter.unusedSimpArgs false
set_option linter.unusedVariables false

theorem info93f : (Try.prog.info? 93).map (fun i => (i.zero, i.size, i.bytes)) = some (some (.agg (bvs (List.replicate 256 0)).toArray), 256, 256) := by kernel_rfl
def writeD (s : Dsk) (k : Nat) (x : List UInt8) : Dsk := if doneOk s then writeS (doneS s) k x else doneS s
theorem run_arrayAt93 (b o c : Nat) (w : World) : (Instr.arrayAt 93 (.slice (some ⟨b, o, none⟩) 256 c)).run Try.prog w = .ok (.pointer (some ⟨b, o, none⟩)) w := by
  simp [Instr.arrayAt, run_underlying Try.underlying93]
theorem fill93 (x : List UInt8) (hx : x.length = 256) (cells : Array Value) (hc : cells.size = 256) : Instr.fill (fun i => some (i * 256, 256)) cells [(0, .agg (bvs x).toArray)] = some (bvs x).toArray := by
  have h := Great.fill_whole (s := 256) (by omega) [.agg (bvs x).toArray] cells (by intro v hv; simp at hv; subst hv; simp [Value.cells, length_bvs, hx]) (by simp [hc])
  simpa [Value.cells] using h
theorem run_built93 (x : List UInt8) (hx : x.length = 256) (w : World) : (Instr.buildSlice 84 1 #[(0, .agg (bvs x).toArray)]).run Try.prog w = .ok (.slice (some ⟨w.heap.size, 0, none⟩) 1 1) (w.alloc (.cells (bvs x).toArray 93)) := by
  obtain ⟨i, hi, hz, hsz, _⟩ := info_parts info93f
  obtain ⟨zv, hzv⟩ : ∃ zv, zv = Value.agg (bvs (List.replicate 256 0)).toArray := ⟨_, rfl⟩
  rw [← hzv] at hz
  have hs : zv.cells.size = 256 := by rw [hzv]; show (bvs _).toArray.size = 256; rw [List.size_toArray, length_bvs, List.length_replicate]
  have h := fun cells hc => fill93 x hx cells hc
  clear hzv
  generalize (bvs x).toArray = X at *
  simp [Instr.buildSlice, run_underlying Try.underlying84, sizeOf, typeInfo, zeroValue, hi, hz, hsz, newRow]
  rw [h _ (by simp)]
  simp
section
variable {P : Program} {ops : Array Oper} {o : Oper} {a : Act} {w : World} {K : Act → World → Prop} {Q : Exit → Act → World → Prop} {E : Prop}
theorem step_built1 (hgd : o.guard = none) (t : TypeId) (x : Operand) (ho : o.op = .buildSlice t 1 #[(0, x)]) {u v : Value} {w' : World} (hx : a.eval x = u) (hr : (Instr.buildSlice t 1 #[(0, u)]).run P w = .ok v w') (h : K (a.put o.dst v) w') :
    if Region.wanted o (yielded ops a.tmps) = true then Oper.wp P o a w K Q else E := by
  have hw : Region.wanted o (yielded ops a.tmps) = true := by simp [Region.wanted, hgd]
  rw [if_pos hw]
  unfold Oper.wp execOp
  simp [ho, hx, hr]
  exact h
end
theorem doneS_n (s : Dsk) : (doneS s).n = s.n ∧ (doneS s).lies = s.lies ∧ (doneS s).vers = s.vers ∧ (doneS s).cut = s.cut := by unfold doneS; split <;> simp
theorem foot_g (d : Dw) : d.foot d.g := .inl rfl

set_option maxRecDepth 100000 in
set_option maxHeartbeats 4000000 in
theorem dwrite_ok {w : World} {base : Nat} {d : Dw} {s : Dsk} (h : Dk w base d s) {k : Nat} (hk : k < s.n) (hv : (s.vers k).length < 549755813887) {lo b o c : Nat} {x : List UInt8} (hx : Bs w lo (some ⟨b, o, none⟩) 256 c x) (hf : ¬ d.foot b) :
    Calls Try.prog 27 #[.pointer (some ⟨d.g, 0, none⟩), .int .i64 k, .slice (some ⟨b, o, none⟩) 256 c] w fun e w' => e = .returned (.int .i64 0) ∧ ∃ d', Dk w' base d' (writeD s k x) ∧ d'.g = d.g ∧ Kept d.foot w w' ∧ ∀ j, d'.foot j → d.foot j ∨ w.heap.size ≤ j := by
  have bc := h.blk.cells
  have hs := h.small
  have hkn : (k : Int) < (s.n : Int) := by omega
  have d1 : decide ((s.n : Int) ≤ (k : Int)) = false := decide_eq_false (by omega)
  have hc1 := hx.2.1
  have hc2 := hx.2.2.1
  have HD1 := Lib.hid (done_any h)
  have H0 := Lib.hid h
  have HX := Lib.hid hx
  have HF := Lib.hid hf
  have HV := Lib.hid hv
  have HN : Hid ((doneS s).n = s.n ∧ (doneS s).vers = s.vers) := ⟨(doneS_n s).1, (doneS_n s).2.2.1⟩
  have hbl : b < w.heap.size := by obtain ⟨b', o', e, _, h2⟩ := hx.at_ (by omega); injection e with e; injection e with e1 e2; omega
  clear h hx hf hv
  cases hok : doneOk s with
  | false =>
    have HW : Hid (writeD s k x = doneS s) := by show _ = _; unfold writeD; rw [hok]; rfl
    rw [hok] at HD1
    go_enter Try.func27, Try.ntmps27
    go_wp2_with ((with_reducible refine Calls.mono HD1.out ?_); rintro e w1 ⟨rfl, h1, K1⟩)
    go_ret
    exact ⟨rfl, d, by rw [HW.out]; exact h1, rfl, K1.mono (fun j _ e => .inl e), fun j hj => .inl hj⟩
  | true =>
    have HW : Hid (writeD s k x = writeS (doneS s) k x) := by show _ = _; unfold writeD; rw [hok]; rfl
    rw [hok] at HD1
    go_enter Try.func27, Try.ntmps27
    go_upto_region 6 with ((with_reducible refine Calls.mono HD1.out ?_); rintro e w1 ⟨rfl, h1, K1⟩)
    refine wp_world (fun U => Dk U base d (doneS s) ∧ Kept (fun j => j = d.g) w U) ⟨h1, K1⟩ ?_
    clear h1 K1 HD1 bc
    rintro U ⟨h1, K1⟩
    have hsz := K1.size
    have hxU : U.rangeAt b o (bvs x) := range_kept (rd_range HX.out.2.2.2) (K1.block b hbl (fun e => HF.out (.inl e)))
    have hxl : x.length = 256 := HX.out.1
    obtain ⟨s1, hs1⟩ : ∃ s1, s1 = doneS s := ⟨_, rfl⟩
    rw [← hs1] at h1 HW HN
    clear hs1
    have hk1 : k < s1.n := by rw [HN.out.1]; exact hk
    have hv1 : (s1.vers k).length < 549755813887 := by rw [HN.out.2]; exact HV.out
    obtain ⟨D, hD⟩ := h1.map
    have HDD := Lib.hid hD
    have HXU := Lib.hid hxU
    have HXL := Lib.hid hxl
    have HK1 := Lib.hid K1
    have hbU : b < U.heap.size := by omega
    have bl1 := h1.bases
    clear hxU hxl K1 hD
    obtain ⟨U0, hU0⟩ : ∃ U0, U0 = U.drew := ⟨_, rfl⟩
    have h0 : Dk U0 base d s1 := hU0 ▸ h1.below (w' := U.drew) (B := U.heap.size) (Below.refl _ _).drew (Nat.le_refl _)
    have hxU0 : U0.rangeAt b o (bvs x) := hU0 ▸ (World.rangeAt_drew U b o (bvs x)).2 HXU.out
    have hKU : Kept (fun j => j = d.g) w U0 := hU0 ▸ HK1.out.trans (Kept.of_below (F := fun _ => False) (Below.refl _ _).drew (Nat.le_refl _)) (fun _ _ e => e.elim)
    have hbU0 : b < U0.heap.size := by rw [hU0]; exact hbU
    have hDU : MapD U0 d s1 D := hU0 ▸ HDD.out
    have harr := fun w => run_arrayAt93 b o c w
    refine wp_region_last (S := fun w' => w'.cell? ⟨d.g, 1, none⟩ = some (.map (some d.M)) ∧ (Instr.lookup 85 (.map (some d.M)) (.int .i64 (k : Int)) false).run Try.prog w' = .ok (.slice (d.v k).A (s1.vers k).length (d.v k).c) w' ∧ w'.rangeAt b o (bvs x)) 16 (by kernel_rfl) rfl (by kernel_rfl) ?_ ?_
    · rw [← hU0]; exact ⟨h0.blk.cell 1, h0.look hk1 rfl, hxU0⟩
    intro hHeld
    simp only [List.take_succ_cons, List.take_zero]
    rw [← hU0] at hHeld
    rw [← hU0]
    refine wpAnyH_take (i := 0) (v := ?_) (by simp only [List.getElem?_toArray, List.getElem?_cons_succ, List.getElem?_cons_zero]; rfl) (by kernel_rfl) (by kernel_rfl) (by kernel_rfl) (fun _ _ _ h => h) (Or.inl ⟨by rfl, ?_⟩) hHeld ?_
    rotate_left
    · intro wz hSw; (try dsimp only at hSw); go_simp; try with_reducible rfl
    (try simp only [Act.put, List.setIfInBounds_toArray, List.set_cons_zero, List.set_cons_succ])
    refine wpAnyH_take (i := 1) (v := ?_) (by simp only [List.getElem?_toArray, List.getElem?_cons_succ, List.getElem?_cons_zero]; rfl) (by kernel_rfl) (by kernel_rfl) (by kernel_rfl) (fun _ _ _ h => h) (Or.inl ⟨by rfl, ?_⟩) hHeld ?_
    rotate_left
    · intro wz hSw; (try dsimp only at hSw); go_simp; try with_reducible rfl
    (try simp only [Act.put, List.setIfInBounds_toArray, List.set_cons_zero, List.set_cons_succ])
    refine wpAnyH_take (i := 2) (v := ?_) (by simp only [List.getElem?_toArray, List.getElem?_cons_succ, List.getElem?_cons_zero]; rfl) (by kernel_rfl) (by kernel_rfl) (by kernel_rfl) (fun _ _ _ h => h) (Or.inl ⟨by rfl, ?_⟩) hHeld ?_
    rotate_left
    · intro wz hSw; (try dsimp only at hSw); go_simp; try with_reducible rfl
    (try simp only [Act.put, List.setIfInBounds_toArray, List.set_cons_zero, List.set_cons_succ])
    refine wpAnyH_take (i := 3) (v := ?_) (by simp only [List.getElem?_toArray, List.getElem?_cons_succ, List.getElem?_cons_zero]; rfl) (by kernel_rfl) (by kernel_rfl) (by kernel_rfl) (fun _ _ _ h => h) (Or.inl ⟨by rfl, ?_⟩) hHeld ?_
    rotate_left
    · intro wz hSw; (try dsimp only at hSw); go_simp; try with_reducible rfl
    (try simp only [Act.put, List.setIfInBounds_toArray, List.set_cons_zero, List.set_cons_succ])
    refine wpAnyH_take (i := 4) (v := ?_) (by simp only [List.getElem?_toArray, List.getElem?_cons_succ, List.getElem?_cons_zero]; rfl) (by kernel_rfl) (by kernel_rfl) (by kernel_rfl) (fun _ _ _ h => h) (Or.inl ⟨by rfl, ?_⟩) hHeld ?_
    rotate_left
    · intro wz hSw; (try dsimp only at hSw); go_simp; try with_reducible rfl
    (try simp only [Act.put, List.setIfInBounds_toArray, List.set_cons_zero, List.set_cons_succ])
    refine wpAnyH_take (i := 5) (v := ?_) (by simp only [List.getElem?_toArray, List.getElem?_cons_succ, List.getElem?_cons_zero]; rfl) (by kernel_rfl) (by kernel_rfl) (by kernel_rfl) (fun _ _ _ h => h) (Or.inl ⟨by rfl, ?_⟩) hHeld ?_
    rotate_left
    · intro wz hSw; (try dsimp only at hSw); go_simp; try with_reducible rfl
    (try simp only [Act.put, List.setIfInBounds_toArray, List.set_cons_zero, List.set_cons_succ])
    refine wpAnyH_take (i := 6) (v := ?_) (by simp only [List.getElem?_toArray, List.getElem?_cons_succ, List.getElem?_cons_zero]; rfl) (by kernel_rfl) (by kernel_rfl) (by kernel_rfl) (fun _ _ _ h => h) (Or.inl ⟨by rfl, ?_⟩) hHeld ?_
    rotate_left
    · intro wz hSw; (try dsimp only at hSw); go_simp; try with_reducible rfl
    (try simp only [Act.put, List.setIfInBounds_toArray, List.set_cons_zero, List.set_cons_succ])
    refine wpAnyH_take (i := 7) (v := ?_) (by simp only [List.getElem?_toArray, List.getElem?_cons_succ, List.getElem?_cons_zero]; rfl) (by kernel_rfl) (by kernel_rfl) (by kernel_rfl) (fun _ _ _ h => h) (Or.inl ⟨by rfl, ?_⟩) hHeld ?_
    rotate_left
    · intro wz hSw; (try dsimp only at hSw); go_simp; try with_reducible rfl
    (try simp only [Act.put, List.setIfInBounds_toArray, List.set_cons_zero, List.set_cons_succ])
    refine wpAnyH_take (i := 8) (v := ?_) (by simp only [List.getElem?_toArray, List.getElem?_cons_succ, List.getElem?_cons_zero]; rfl) (by kernel_rfl) (by kernel_rfl) (by kernel_rfl) (fun _ _ _ h => h) (Or.inl ⟨by rfl, ?_⟩) hHeld ?_
    rotate_left
    · intro wz hSw; (try dsimp only at hSw); go_simp; try with_reducible rfl
    (try simp only [Act.put, List.setIfInBounds_toArray, List.set_cons_zero, List.set_cons_succ])
    refine wpAnyH_take (i := 9) (v := ?_) (by simp only [List.getElem?_toArray, List.getElem?_cons_succ, List.getElem?_cons_zero]; rfl) (by kernel_rfl) (by kernel_rfl) (by kernel_rfl) (fun _ _ _ h => h) (Or.inl ⟨by rfl, ?_⟩) hHeld ?_
    rotate_left
    · intro wz hSw; (try dsimp only at hSw); go_simp; try with_reducible rfl
    (try simp only [Act.put, List.setIfInBounds_toArray, List.set_cons_zero, List.set_cons_succ])
    refine wpAnyH_take (i := 10) (v := ?_) (by simp only [List.getElem?_toArray, List.getElem?_cons_succ, List.getElem?_cons_zero]; rfl) (by kernel_rfl) (by kernel_rfl) (by kernel_rfl) (fun _ _ _ h => h) (Or.inl ⟨by rfl, ?_⟩) hHeld ?_
    rotate_left
    · intro wz hSw; (try dsimp only at hSw); go_simp; try with_reducible rfl
    (try simp only [Act.put, List.setIfInBounds_toArray, List.set_cons_zero, List.set_cons_succ])
    refine wpAnyH_take (i := 11) (v := ?_) (by simp only [List.getElem?_toArray, List.getElem?_cons_succ, List.getElem?_cons_zero]; rfl) (by kernel_rfl) (by kernel_rfl) (by kernel_rfl) (fun _ _ _ h => h) (Or.inl ⟨by rfl, ?_⟩) hHeld ?_
    rotate_left
    · intro wz hSw; (try dsimp only at hSw); go_simp; try with_reducible rfl
    (try simp only [Act.put, List.setIfInBounds_toArray, List.set_cons_zero, List.set_cons_succ])
    refine wpAnyH_take (i := 12) (v := ?_) (by simp only [List.getElem?_toArray, List.getElem?_cons_succ, List.getElem?_cons_zero]; rfl) (by kernel_rfl) (by kernel_rfl) (by kernel_rfl) (fun _ _ _ h => h) (Or.inl ⟨by rfl, ?_⟩) hHeld ?_
    rotate_left
    · intro wz hSw; (try dsimp only at hSw); go_simp; try with_reducible rfl
    (try simp only [Act.put, List.setIfInBounds_toArray, List.set_cons_zero, List.set_cons_succ])
    refine wpAnyH_take (i := 13) (v := .agg (bvs x).toArray) (by simp only [List.getElem?_toArray, List.getElem?_cons_succ, List.getElem?_cons_zero]; rfl) (by kernel_rfl) (by kernel_rfl) (by kernel_rfl) (fun _ _ _ h => h) (yieldsIf_load_mid (by rfl) 93 (.tmp 37) rfl b o (by rfl) (bvs x) _ (fun _ hS => hS.2.2) Try.underlying93 rfl (by rw [info93]; simp [length_bvs, HXL.out])) hHeld ?_
    (try simp only [Act.put, List.setIfInBounds_toArray, List.set_cons_zero, List.set_cons_succ])
    have h1a := h0.alloc (.cells (bvs x).toArray 93)
    have hB1 : Blk (U0.alloc (.cells (bvs x).toArray 93)) U0.heap.size 93 (bvs x) := Blk.new U0 _ _
    have hxa := World.rangeAt_alloc hxU0 (.cells (bvs x).toArray 93)
    clear harr
    refine wpAnyH_ready (rs := [14]) (by kernel_rfl) (by simp) ?_
    refine AllReadyH.cons (by simp only [List.getElem?_toArray, List.getElem?_cons_succ, List.getElem?_cons_zero]; rfl) (fun KK hK => ?_) AllReadyH.nil
    (refine step_built1 rfl 84 (.tmp 38) rfl (u := .agg (bvs x).toArray) rfl (run_built93 x HXL.out _) ?_)
    refine hK.out _ _ ?_ (fun hHeld => ?_)
    · exact ⟨h1a.blk.cell 1, h1a.look hk1 rfl, hxa⟩
    clear hK KK
    (try simp only [Act.put, List.setIfInBounds_toArray, List.set_cons_zero, List.set_cons_succ])
    have hmx := h1a.small
    obtain ⟨W1, hW1⟩ : ∃ W1, W1 = U0.alloc (.cells (bvs x).toArray 93) := ⟨_, rfl⟩
    have hDW : MapD W1 d s1 D := by rw [hW1]; exact ⟨ownsMap_block hDU.1 (Below.heap_alloc U0 _ d.M h0.mlt), hDU.2⟩
    have hsW : U0.heap.size ≤ W1.heap.size := by rw [hW1]; simp
    have hKW : Kept (fun j => j = d.g) w W1 := by rw [hW1]; exact hKU.trans (Kept.of_below (F := fun _ => False) ((Below.refl U0.heap.size U0).alloc (Nat.le_refl _) _) (Nat.le_refl _)) (fun _ _ e => e.elim)
    rw [← hW1] at h1a hB1 hxa hHeld
    rw [← hW1]
    have hbase : base ≤ W1.heap.size := by have := h0.foot_base _ (foot_g d); omega
    refine wpAnyH_ready (rs := [15]) (by kernel_rfl) (by simp) ?_
    refine AllReadyH.cons (by simp only [List.getElem?_toArray, List.getElem?_cons_succ, List.getElem?_cons_zero]; rfl) (fun KK hK => ?_) AllReadyH.nil
    (refine step_app rfl (.tmp 35) (.tmp 39) 84 rfl 93 256 Try.underlying84 info93f (by simp [Value.cells]) (by omega) rfl ((h1a.vers k hk1)) rfl (hB1.rd0 (Nat.le_refl _)) (by simp [length_bvs, HXL.out]) (bvs_oneCell _) (by omega) (by omega) hbase ?_; intro A2 c2 w2 ho2 hg2 hf2; have K2 : Kept (fun j => ablk (d.v k).A = some j) W1 w2 := Kept.of_grown hg2 (fun j e => e))
    refine hK.out _ _ ?_ (fun hHeld => ?_)
    · exact ⟨(K2.blk h1a.blk (h1a.apG k)).cell 1, h1a.look hk1 (K2.block d.M h1a.mlt (h1a.apM k)), range_kept hxa (K2.block b (by omega) (fun e => HF.out (.inr (.inr (.inr ⟨k, e⟩)))))⟩
    clear hK KK
    (try simp only [Act.put, List.setIfInBounds_toArray, List.set_cons_zero, List.set_cons_succ])
    obtain ⟨w3, hrun, hm3, hg3⟩ := (ownsMap_block hDW.1 (K2.block d.M h1a.mlt (h1a.apM k))).update law3 Try.underlying85 (by unfold maxLen; omega) (key_kl k (by omega)) (val := .slice A2 ((s1.vers k).length + 1) c2) (d := .held (.slice A2 ((s1.vers k).length + 1) c2)) (ps := []) rfl
    refine wpAnyH_done (by kernel_rfl) ?_ _
    simp only [lastQ]
    go_simp
    clear hHeld hrun
    obtain ⟨r1, r2, r3⟩ := h1a.write hk1 HXL.out ho2 hg2 (hf2.imp id (fun e => ⟨_, e, Nat.le_refl _⟩)) hDW hm3 hg3
    have R1 := Lib.hid r1
    have R2 := Lib.hid r2
    have R3 := Lib.hid r3
    clear r1 r2 r3 ho2 hg2 hf2 hm3 hg3 hDW hB1 hxa hDU h0 h1 HDD HXU K2 hxU0 h1a hW1 hKU hU0
    go_wp2
    go_ret
    exact ⟨rfl, d.put k ⟨A2, c2⟩, by rw [HW.out]; exact R1.out, rfl, (hKW.mono (fun j _ e => .inl e)).trans R2.out (fun _ _ e => e), fun j hj => (R3.out j hj).imp id (fun e => by have := hKW.size; omega)⟩
end Go.Proofs.Ytnclebnodkkgnaa
