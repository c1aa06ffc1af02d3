/- What is done to a disk: done, Write. Condition on Write's data: they lie outside the disk. -/
import Derived.Test.YtjndopmjlbhajaaDkRead
import Derived.Test.YtjndopmjlbhajaaLastOp
import Derived.Maps.OwnSet
import Derived.Great.FillDense
namespace Go.Proofs.Ytjndopmjlbhajaa
open Go.RowKit Go.Maps

def doneOk (s : Dsk) : Bool := !s.cut || decide (0 ≤ wrap64 (s.left - 1))
def doneS (s : Dsk) : Dsk := if s.cut then { s with left := wrap64 (s.left - 1) } else s
theorem wrap_bd (x : Int) : -9223372036854775808 ≤ wrap64 x ∧ wrap64 x ≤ 9223372036854775807 := by unfold wrap64; omega

theorem Dk.reblk {w w' : World} {base : Nat} {d : Dw} {s : Dsk} (h : Dk w base d s) (K : Kept (fun b => b = d.g) w w') {ct : Bool} {lf : Int} (hl : -9223372036854775808 ≤ lf ∧ lf ≤ 9223372036854775807)
    (hb : Blk w' d.g 64 [.slice (some ⟨d.L, 0, none⟩) s.n d.lc, .map (some d.M), .bool ct, .int .i64 lf]) : Dk w' base d { s with cut := ct, left := lf } := by
  have hL := K.block d.L h.llt h.ne.1
  have hM := K.block d.M h.mlt h.ne.2.1
  refine ⟨hb, Nat.lt_of_lt_of_le h.llt K.size, fun k hk => range_kept (h.lies k hk) hL, there_kept h.there hL, ?_, fun k hk => own_kept (h.vers k hk) K (fun b hb e => ?_), h.out, h.apart, h.apL, h.len, h.small, hl, h.bases, h.ne, rowAt_block h.lty hL⟩
  · obtain ⟨D, h1, h2⟩ := h.map
    exact ⟨D, ownsMap_block h1 hM, h2⟩
  · subst e
    rcases (h.vers k hk).cases with ⟨h0, _⟩ | ⟨g', cur, hA, _, hh, _⟩
    · rw [h0] at hb; cases hb
    · rw [hA] at hb
      have hg : g' = d.g := by injection hb
      subst hg
      have h2 : w.heap[d.g]? = _ := h.blk
      rw [h2] at hh
      simp only [Option.some.injEq, Obj.cells.injEq] at hh
      exact absurd hh.2.1 (by decide)

set_option maxHeartbeats 1000000 in
theorem done_any {w : World} {base : Nat} {d : Dw} {s : Dsk} (h : Dk w base d s) :
    Calls Try.prog 55 #[.pointer (some ⟨d.g, 0, none⟩)] w fun e w' => e = .returned (.bool (doneOk s)) ∧ Dk w' base d (doneS s) ∧ Kept (fun b => b = d.g) w w' := by
  have bc := h.blk.cells
  have bf := h.blk.frees
  have HD := Lib.hid h
  have hl := h.left
  clear h
  cases hc : s.cut with
  | false =>
    have HO : Hid (doneOk s = true ∧ doneS s = s) := by show _ ∧ _; unfold doneOk doneS; rw [hc]; simp
    rw [hc] at bc
    go_enter Try.func55, Try.ntmps55
    go_wp2
    go_ret
    exact ⟨by rw [HO.out.1]; rfl, by rw [HO.out.2]; exact HD.out, Kept.refl _ _⟩
  | true =>
    have HO : Hid (doneOk s = decide (0 ≤ wrap64 (s.left - 1)) ∧ doneS s = { s with left := wrap64 (s.left - 1) }) := by show _ ∧ _; unfold doneOk doneS; rw [hc]; simp
    have HC := Lib.hid hc
    rw [hc] at bc
    go_enter Try.func55, Try.ntmps55
    go_wp2
    go_ret
    have hB := HD.out.blk.set_ 3 (.int .i64 (wrap64 (s.left - 1)))
    have K : Kept (fun b => b = d.g) w (w.setCell ⟨d.g, 3, none⟩ (.int .i64 (wrap64 (s.left - 1)))) := ⟨rfl, rfl, rfl, by simp, fun b _ hn => Below.heap_setCell w _ _ b hn⟩
    refine ⟨?_, ?_, K⟩
    · rw [HO.out.1]; rfl
    · rw [HO.out.2]
      exact HD.out.reblk K (wrap_bd _) hB
end Go.Proofs.Ytjndopmjlbhajaa
namespace Go.Proofs.Ytjndopmjlbhajaa
open Go.RowKit Go.Maps

theorem keys_le {H : Type} : ∀ (n : Nat) (es : List (Lit × DataW H)), n ≤ 9223372036854775807 → es.Pairwise (fun p q => p.1 ≠ q.1) → (∀ p ∈ es, ∃ j, j < n ∧ p.1 = kl j) → es.length ≤ n
  | 0, es, _, _, h => by
    cases es with
    | nil => exact Nat.le_refl _
    | cons p l => obtain ⟨j, hj, _⟩ := h p (by simp); omega
  | n + 1, es, hn, hp, h => by
    have h1 := length_strike (k := kl n) es hp
    have h2 := keys_le n (es.filter fun p => !p.1.sameKey (kl n)) (by omega) (hp.filter _) (fun p hm => by
      obtain ⟨hm1, hm2⟩ := List.mem_filter.1 hm
      obtain ⟨j, hj, e⟩ := h p hm1
      refine ⟨j, ?_, e⟩
      by_cases hjn : j = n
      · subst hjn
        rw [e, WideAt.sameKey_self (law3.key (key_kl j (by omega)))] at hm2
        simp at hm2
      · omega)
    split at h1 <;> omega
theorem owns_tight {w : World} {b m n : Nat} {D : DataW Value} (h : w.ownsMap Try.prog 3 RV b m D) (hn : n ≤ 9223372036854775807) (hk : ∀ x, has D x = true → ∃ j, j < n ∧ x = kl j) : w.ownsMap Try.prog 3 RV b n D := by
  obtain ⟨es0, he, hp, hkey⟩ := h.entries law3
  have hle : es0.length ≤ n := keys_le n es0 hn hp (fun p hm => by
    obtain ⟨j, hj, e⟩ := hk p.1 (by
      rw [he]
      exact List.any_eq_true.2 ⟨p, hm, WideAt.sameKey_self (hkey p hm)⟩)
    exact ⟨j, hj, e⟩)
  obtain ⟨es, clock, h1, h2, _, h4⟩ := h
  refine ⟨es, clock, h1, h2, ?_, h4⟩
  rw [h4] at he
  injection he with he
  have : es.size = es0.length := by rw [← he, length_sorted]; simp
  omega

def writeS (s : Dsk) (k : Nat) (x : List UInt8) : Dsk := { s with vers := fun j => if j = k then s.vers k ++ [x] else s.vers j }
def Dw.put (d : Dw) (k : Nat) (a : Sv) : Dw := { d with v := fun j => if j = k then a else d.v j }

section
variable {w w1 w2 : World} {base : Nat} {d : Dw} {s : Dsk}
theorem Dk.apG (h : Dk w base d s) (k : Nat) : ablk (d.v k).A ≠ some d.g := fun e => by
  by_cases hk : k < s.n
  · rcases (h.vers k hk).cases with ⟨h0, _⟩ | ⟨g', cur, hA, _, hh, _⟩
    · rw [h0] at e; cases e
    · rw [hA] at e
      have hg : g' = d.g := by injection e
      subst hg
      have h2 : w.heap[d.g]? = _ := h.blk
      rw [h2] at hh
      simp only [Option.some.injEq, Obj.cells.injEq] at hh
      exact absurd hh.2.1 (by decide)
  · rw [h.out k (by omega)] at e; cases e
theorem Dk.apM (h : Dk w base d s) (k : Nat) : ablk (d.v k).A ≠ some d.M := fun e => by
  by_cases hk : k < s.n
  · rcases (h.vers k hk).cases with ⟨h0, _⟩ | ⟨g', cur, hA, _, hh, _⟩
    · rw [h0] at e; cases e
    · rw [hA] at e
      have hg : g' = d.M := by injection e
      subst hg
      obtain ⟨D, ⟨es, clock, h1, _⟩, _⟩ := h.map
      rw [h1] at hh
      cases hh
  · rw [h.out k (by omega)] at e; cases e
theorem Dk.vlt (h : Dk w base d s) {k b : Nat} (e : ablk (d.v k).A = some b) : b < w.heap.size := (h.foot_base b (.inr (.inr (.inr ⟨k, e⟩)))).2

theorem Dk.write (h : Dk w base d s) {k : Nat} (hk : k < s.n) {x : List UInt8} (hx : x.length = 256) {A' : Option Addr} {c' m : Nat} {D : DataW Value}
    (ho : Own w1 base 100 256 A' ((s.vers k).length + 1) c' (bvs (s.vers k).flatten ++ bvs x)) (hg : w.grownBy w1 (ablk (d.v k).A)) (hf : ablk A' = ablk (d.v k).A ∨ ∃ b, ablk A' = some b ∧ w.heap.size ≤ b)
    (hD : MapD w d s D) (hm : w2.ownsMap Try.prog 3 RV d.M m (D.put (kl k) (.held (.slice A' ((s.vers k).length + 1) c')))) (hg2 : w1.grownBy w2 (some d.M)) :
    Dk w2 base (d.put k ⟨A', c'⟩) (writeS s k x) ∧ Kept d.foot w w2 ∧ ∀ b, (d.put k ⟨A', c'⟩).foot b → d.foot b ∨ w.heap.size ≤ b := by
  have hsm := h.small
  have K1 : Kept (fun b => ablk (d.v k).A = some b) w w1 := Kept.of_grown hg (fun b e => e)
  have K2 : Kept (fun b => b = d.M) w1 w2 := Kept.of_grown hg2 (fun b e => (Option.some.inj e).symm)
  have K : Kept (fun b => ablk (d.v k).A = some b ∨ b = d.M) w w2 := (K1.mono (fun b _ e => .inl e)).trans K2 (fun b _ e => .inr e)
  have hkk : ∀ j, j ≠ k → (d.put k ⟨A', c'⟩).v j = d.v j := fun j hj => by show (if j = k then _ else _) = _; rw [if_neg hj]
  have hks : (d.put k ⟨A', c'⟩).v k = ⟨A', c'⟩ := by show (if k = k then _ else _) = _; rw [if_pos rfl]
  have hvk : ∀ j, j ≠ k → (writeS s k x).vers j = s.vers j := fun j hj => by show (if j = k then _ else _) = _; rw [if_neg hj]
  have hvs : (writeS s k x).vers k = s.vers k ++ [x] := by show (if k = k then _ else _) = _; rw [if_pos rfl]
  have hAM : ablk A' ≠ some d.M := fun e => by
    rcases hf with h1 | ⟨b, h1, h2⟩
    · exact h.apM k (h1 ▸ e)
    · rw [h1] at e; have := Option.some.inj e; have := h.mlt; omega
  have hAo : ∀ j b, j ≠ k → ablk (d.v j).A = some b → ablk A' ≠ some b := fun j b hj hb e => by
    rcases hf with h1 | ⟨b', h1, h2⟩
    · rcases h.apart j k hj with h3 | h3
      · rw [h3] at hb; cases hb
      · exact h3 (by rw [hb, ← h1, e])
    · rw [h1] at e; have := Option.some.inj e; have := h.vlt hb; omega
  refine ⟨⟨K.blk h.blk ?_, Nat.lt_of_lt_of_le h.llt K.size, fun j hj => range_kept (h.lies j hj) (K.block d.L h.llt ?_), there_kept h.there (K.block d.L h.llt ?_), ?_, fun j hj => ?_, fun j hj => ?_, fun i j hij => ?_, fun j => ?_, fun j hj => ?_, h.small, h.left, h.bases, h.ne, rowAt_block h.lty (K.block d.L h.llt (fun e => e.elim (h.apL k) (fun e => h.ne.2.2 e.symm)))⟩, K.mono (fun b _ e => ?_), fun b hb => ?_⟩
  · rintro (e | e)
    · exact h.apG k e
    · exact h.ne.2.1 e.symm
  · rintro (e | e)
    · exact h.apL k e
    · exact h.ne.2.2 e.symm
  · rintro (e | e)
    · exact h.apL k e
    · exact h.ne.2.2 e.symm
  · have hkeys : ∀ y, has (D.put (kl k) (.held (.slice A' ((s.vers k).length + 1) c'))) y = true → ∃ j, j < s.n ∧ y = kl j ∧ (writeS s k x).vers j ≠ [] := fun y hy => by
      by_cases e : y = kl k
      · exact ⟨k, hk, e, by rw [hvs]; simp⟩
      · rw [has_put_other e] at hy
        obtain ⟨j, hj, e2, h2⟩ := hD.2.2 y hy
        have hjk : j ≠ k := fun e3 => e (by rw [e2, e3])
        exact ⟨j, hj, e2, by rw [hvk j hjk]; exact h2⟩
    refine ⟨_, owns_tight hm (show s.n ≤ 9223372036854775807 by omega) (fun y hy => by obtain ⟨j, h1, h2, _⟩ := hkeys y hy; exact ⟨j, h1, h2⟩), fun j hj => ?_, hkeys⟩
    by_cases e : j = k
    · subst e
      rw [atKey_put_same (hD.1.tidy law3).isMap (law3.key (key_kl j (by omega)))]
      rw [hks, hvs, List.length_append]
      rfl
    · rw [atKey_put_other (kl_ne e), hD.2.1 j hj, hkk j e, hvk j e]
  · by_cases e : j = k
    · subst e
      rw [hks, hvs, List.length_append, List.flatten_append]
      have := ho.keep hg2 (.inr hAM)
      simpa [bvs] using this
    · rw [hkk j e, hvk j e]
      refine own_kept (h.vers j hj) K (fun b hb => ?_)
      rintro (e2 | e2)
      · rcases h.apart j k e with h3 | h3
        · rw [h3] at hb; cases hb
        · exact h3 (by rw [hb, e2])
      · subst e2; exact h.apM j hb
  · have e : j ≠ k := fun e => by have : s.n ≤ j := hj; omega
    rw [hkk j e]
    exact h.out j hj
  · by_cases e1 : i = k
    · subst e1
      rw [hks, hkk j (Ne.symm hij)]
      cases hb : ablk (d.v j).A with
      | none => cases hA : ablk A' with
        | none => exact .inl rfl
        | some a => exact .inr (by simp)
      | some b => exact .inr (hAo j b (Ne.symm hij) hb)
    · by_cases e2 : j = k
      · subst e2
        rw [hks, hkk i e1]
        cases hb : ablk (d.v i).A with
        | none => exact .inl rfl
        | some b => exact .inr (fun e => hAo i b e1 hb e.symm)
      · rw [hkk i e1, hkk j e2]
        exact h.apart i j hij
  · by_cases e : j = k
    · subst e
      rw [hks]
      show ablk A' ≠ some d.L
      intro e2
      rcases hf with h1 | ⟨b, h1, h2⟩
      · exact h.apL j (h1 ▸ e2)
      · rw [h1] at e2; have := Option.some.inj e2; have := h.llt; omega
    · rw [hkk j e]; exact h.apL j
  · refine ⟨(h.len j hj).1, fun y hy => ?_⟩
    by_cases e : j = k
    · subst e
      rw [hvs] at hy
      rcases List.mem_append.1 hy with h1 | h1
      · exact (h.len j hj).2 y h1
      · simp at h1; rw [h1]; exact hx
    · rw [hvk j e] at hy; exact (h.len j hj).2 y hy
  · rcases e with e | e
    · exact .inr (.inr (.inr ⟨k, e⟩))
    · exact .inr (.inr (.inl e))
  · rcases hb with hb | hb | hb | ⟨j, hb⟩
    · exact .inl (.inl hb)
    · exact .inl (.inr (.inl hb))
    · exact .inl (.inr (.inr (.inl hb)))
    · by_cases e : j = k
      · subst e
        rw [hks] at hb
        rcases hf with h1 | ⟨b', h1, h2⟩
        · exact .inl (.inr (.inr (.inr ⟨j, h1 ▸ hb⟩)))
        · rw [show ablk A' = some b' from h1] at hb
          exact .inr (by have := Option.some.inj hb; omega)
      · rw [hkk j e] at hb
        exact .inl (.inr (.inr (.inr ⟨j, hb⟩)))
end
end Go.Proofs.Ytjndopmjlbhajaa
namespace Go.Proofs.Ytjndopmjlbhajaa
open Go.RowKit Go.Maps
set_option linter.unusedSimpArgs false
set_option linter.unusedVariables false

theorem info93f : (Try.prog.info? 100).map (fun i => (i.zero, i.size, i.bytes)) = some (some (.agg (bvs (List.replicate 256 0)).toArray), 256, 256) := by kernel_rfl
def writeD (s : Dsk) (k : Nat) (x : List UInt8) : Dsk := if doneOk s then writeS (doneS s) k x else doneS s
theorem writeD_n (s : Dsk) (k : Nat) (x : List UInt8) : (writeD s k x).n = s.n := by unfold writeD doneS writeS; split <;> split <;> rfl
theorem run_arrayAt93 (b o c : Nat) (w : World) : (Instr.arrayAt 100 (.slice (some ⟨b, o, none⟩) 256 c)).run Try.prog w = .ok (.pointer (some ⟨b, o, none⟩)) w := by
  simp [Instr.arrayAt, run_underlying Try.underlying100]
theorem fill93 (x : List UInt8) (hx : x.length = 256) (cells : Array Value) (hc : cells.size = 256) : Instr.fill (fun i => some (i * 256, 256)) cells [(0, .agg (bvs x).toArray)] = some (bvs x).toArray := by
  have h := Great.fill_whole (s := 256) (by omega) [.agg (bvs x).toArray] cells (by intro v hv; simp at hv; subst hv; simp [Value.cells, length_bvs, hx]) (by simp [hc])
  simpa [Value.cells] using h
theorem run_built93 (x : List UInt8) (hx : x.length = 256) (w : World) : (Instr.buildSlice 61 1 #[(0, .agg (bvs x).toArray)]).run Try.prog w = .ok (.slice (some ⟨w.heap.size, 0, none⟩) 1 1) (w.alloc (.cells (bvs x).toArray 100)) := by
  obtain ⟨i, hi, hz, hsz, _⟩ := info_parts info93f
  obtain ⟨zv, hzv⟩ : ∃ zv, zv = Value.agg (bvs (List.replicate 256 0)).toArray := ⟨_, rfl⟩
  rw [← hzv] at hz
  have hs : zv.cells.size = 256 := by rw [hzv]; show (bvs _).toArray.size = 256; rw [List.size_toArray, length_bvs, List.length_replicate]
  have h := fun cells hc => fill93 x hx cells hc
  clear hzv
  generalize (bvs x).toArray = X at *
  simp [Instr.buildSlice, run_underlying Try.underlying61, sizeOf, typeInfo, zeroValue, hi, hz, hsz, newRow]
  rw [h _ (by simp)]
  simp
section
variable {P : Program} {ops : Array Oper} {o : Oper} {a : Act} {w : World} {K : Act → World → Prop} {Q : Exit → Act → World → Prop} {E : Prop}
theorem step_built1 (hgd : o.guard = none) (t : TypeId) (x : Operand) (ho : o.op = .buildSlice t 1 #[(0, x)]) {u v : Value} {w' : World} (hx : a.eval x = u) (hr : (Instr.buildSlice t 1 #[(0, u)]).run P w = .ok v w') (h : K (a.put o.dst v) w') :
    if Region.wanted o (yielded ops a.tmps) = true then Oper.wp P o a w K Q else E := by
  have hw : Region.wanted o (yielded ops a.tmps) = true := by simp [Region.wanted, hgd]
  rw [if_pos hw]
  unfold Oper.wp execOp
  simp [ho, hx, hr]
  exact h
end
theorem doneS_n (s : Dsk) : (doneS s).n = s.n ∧ (doneS s).lies = s.lies ∧ (doneS s).vers = s.vers ∧ (doneS s).cut = s.cut := by unfold doneS; split <;> simp
theorem foot_g (d : Dw) : d.foot d.g := .inl rfl

set_option maxRecDepth 100000 in
set_option maxHeartbeats 4000000 in
theorem dwrite_ok {w : World} {base : Nat} {d : Dw} {s : Dsk} (h : Dk w base d s) {k : Nat} (hk : k < s.n) (hv : (s.vers k).length < 549755813887) {lo b o c : Nat} {x : List UInt8} (hx : Bs w lo (some ⟨b, o, none⟩) 256 c x) (hf : ¬ d.foot b) :
    Calls Try.prog 29 #[.pointer (some ⟨d.g, 0, none⟩), .int .i64 k, .slice (some ⟨b, o, none⟩) 256 c] w fun e w' => e = .returned (.int .i64 0) ∧ ∃ d', Dk w' base d' (writeD s k x) ∧ d'.g = d.g ∧ Kept d.foot w w' ∧ ∀ j, d'.foot j → d.foot j ∨ w.heap.size ≤ j := by
  have bc := h.blk.cells
  have hs := h.small
  have hkn : (k : Int) < (s.n : Int) := by omega
  have d1 : decide ((s.n : Int) ≤ (k : Int)) = false := decide_eq_false (by omega)
  have hc1 := hx.2.1
  have hc2 := hx.2.2.1
  have HD1 := Lib.hid (done_any h)
  have H0 := Lib.hid h
  have HX := Lib.hid hx
  have HF := Lib.hid hf
  have HV := Lib.hid hv
  have HN : Hid ((doneS s).n = s.n ∧ (doneS s).vers = s.vers) := ⟨(doneS_n s).1, (doneS_n s).2.2.1⟩
  have hbl : b < w.heap.size := by obtain ⟨b', o', e, _, h2⟩ := hx.at_ (by omega); injection e with e; injection e with e1 e2; omega
  clear h hx hf hv
  cases hok : doneOk s with
  | false =>
    have HW : Hid (writeD s k x = doneS s) := by show _ = _; unfold writeD; rw [hok]; rfl
    rw [hok] at HD1
    go_enter Try.func29, Try.ntmps29
    go_wp2_with ((with_reducible refine Calls.mono HD1.out ?_); rintro e w1 ⟨rfl, h1, K1⟩)
    go_ret
    exact ⟨rfl, d, by rw [HW.out]; exact h1, rfl, K1.mono (fun j _ e => .inl e), fun j hj => .inl hj⟩
  | true =>
    have HW : Hid (writeD s k x = writeS (doneS s) k x) := by show _ = _; unfold writeD; rw [hok]; rfl
    rw [hok] at HD1
    go_enter Try.func29, Try.ntmps29
    go_upto_region 6 with ((with_reducible refine Calls.mono HD1.out ?_); rintro e w1 ⟨rfl, h1, K1⟩)
    refine wp_world (fun U => Dk U base d (doneS s) ∧ Kept (fun j => j = d.g) w U) ⟨h1, K1⟩ ?_
    clear h1 K1 HD1 bc
    rintro U ⟨h1, K1⟩
    have hsz := K1.size
    have hxU : U.rangeAt b o (bvs x) := range_kept (rd_range HX.out.2.2.2) (K1.block b hbl (fun e => HF.out (.inl e)))
    have hxl : x.length = 256 := HX.out.1
    obtain ⟨s1, hs1⟩ : ∃ s1, s1 = doneS s := ⟨_, rfl⟩
    rw [← hs1] at h1 HW HN
    clear hs1
    have hk1 : k < s1.n := by rw [HN.out.1]; exact hk
    have hv1 : (s1.vers k).length < 549755813887 := by rw [HN.out.2]; exact HV.out
    obtain ⟨D, hD⟩ := h1.map
    have HDD := Lib.hid hD
    have HXU := Lib.hid hxU
    have HXL := Lib.hid hxl
    have HK1 := Lib.hid K1
    have hbU : b < U.heap.size := by omega
    have bl1 := h1.bases
    clear hxU hxl K1 hD
    obtain ⟨U0, hU0⟩ : ∃ U0, U0 = U.drew := ⟨_, rfl⟩
    have h0 : Dk U0 base d s1 := hU0 ▸ h1.below (w' := U.drew) (B := U.heap.size) (Below.refl _ _).drew (Nat.le_refl _)
    have hxU0 : U0.rangeAt b o (bvs x) := hU0 ▸ (World.rangeAt_drew U b o (bvs x)).2 HXU.out
    have hKU : Kept (fun j => j = d.g) w U0 := hU0 ▸ HK1.out.trans (Kept.of_below (F := fun _ => False) (Below.refl _ _).drew (Nat.le_refl _)) (fun _ _ e => e.elim)
    have hbU0 : b < U0.heap.size := by rw [hU0]; exact hbU
    have hDU : MapD U0 d s1 D := hU0 ▸ HDD.out
    have harr := fun w => run_arrayAt93 b o c w
    refine wp_region_last (S := fun w' => w'.cell? ⟨d.g, 1, none⟩ = some (.map (some d.M)) ∧ (Instr.lookup 62 (.map (some d.M)) (.int .i64 (k : Int)) false).run Try.prog w' = .ok (.slice (d.v k).A (s1.vers k).length (d.v k).c) w' ∧ w'.rangeAt b o (bvs x)) 16 (by kernel_rfl) rfl (by kernel_rfl) ?_ ?_
    · rw [← hU0]; exact ⟨h0.blk.cell 1, h0.look hk1 rfl, hxU0⟩
    intro hHeld
    simp only [List.take_succ_cons, List.take_zero]
    rw [← hU0] at hHeld
    rw [← hU0]
    refine wpAnyH_take (i := 0) (v := ?_) (by simp only [List.getElem?_toArray, List.getElem?_cons_succ, List.getElem?_cons_zero]; rfl) (by kernel_rfl) (by kernel_rfl) (by kernel_rfl) (fun _ _ _ h => h) (Or.inl ⟨by rfl, ?_⟩) hHeld ?_
    rotate_left
    · intro wz hSw; (try dsimp only at hSw); go_simp; try with_reducible rfl
    (try simp only [Act.put, List.setIfInBounds_toArray, List.set_cons_zero, List.set_cons_succ])
    refine wpAnyH_take (i := 1) (v := ?_) (by simp only [List.getElem?_toArray, List.getElem?_cons_succ, List.getElem?_cons_zero]; rfl) (by kernel_rfl) (by kernel_rfl) (by kernel_rfl) (fun _ _ _ h => h) (Or.inl ⟨by rfl, ?_⟩) hHeld ?_
    rotate_left
    · intro wz hSw; (try dsimp only at hSw); go_simp; try with_reducible rfl
    (try simp only [Act.put, List.setIfInBounds_toArray, List.set_cons_zero, List.set_cons_succ])
    refine wpAnyH_take (i := 2) (v := ?_) (by simp only [List.getElem?_toArray, List.getElem?_cons_succ, List.getElem?_cons_zero]; rfl) (by kernel_rfl) (by kernel_rfl) (by kernel_rfl) (fun _ _ _ h => h) (Or.inl ⟨by rfl, ?_⟩) hHeld ?_
    rotate_left
    · intro wz hSw; (try dsimp only at hSw); go_simp; try with_reducible rfl
    (try simp only [Act.put, List.setIfInBounds_toArray, List.set_cons_zero, List.set_cons_succ])
    refine wpAnyH_take (i := 3) (v := ?_) (by simp only [List.getElem?_toArray, List.getElem?_cons_succ, List.getElem?_cons_zero]; rfl) (by kernel_rfl) (by kernel_rfl) (by kernel_rfl) (fun _ _ _ h => h) (Or.inl ⟨by rfl, ?_⟩) hHeld ?_
    rotate_left
    · intro wz hSw; (try dsimp only at hSw); go_simp; try with_reducible rfl
    (try simp only [Act.put, List.setIfInBounds_toArray, List.set_cons_zero, List.set_cons_succ])
    refine wpAnyH_take (i := 4) (v := ?_) (by simp only [List.getElem?_toArray, List.getElem?_cons_succ, List.getElem?_cons_zero]; rfl) (by kernel_rfl) (by kernel_rfl) (by kernel_rfl) (fun _ _ _ h => h) (Or.inl ⟨by rfl, ?_⟩) hHeld ?_
    rotate_left
    · intro wz hSw; (try dsimp only at hSw); go_simp; try with_reducible rfl
    (try simp only [Act.put, List.setIfInBounds_toArray, List.set_cons_zero, List.set_cons_succ])
    refine wpAnyH_take (i := 5) (v := ?_) (by simp only [List.getElem?_toArray, List.getElem?_cons_succ, List.getElem?_cons_zero]; rfl) (by kernel_rfl) (by kernel_rfl) (by kernel_rfl) (fun _ _ _ h => h) (Or.inl ⟨by rfl, ?_⟩) hHeld ?_
    rotate_left
    · intro wz hSw; (try dsimp only at hSw); go_simp; try with_reducible rfl
    (try simp only [Act.put, List.setIfInBounds_toArray, List.set_cons_zero, List.set_cons_succ])
    refine wpAnyH_take (i := 6) (v := ?_) (by simp only [List.getElem?_toArray, List.getElem?_cons_succ, List.getElem?_cons_zero]; rfl) (by kernel_rfl) (by kernel_rfl) (by kernel_rfl) (fun _ _ _ h => h) (Or.inl ⟨by rfl, ?_⟩) hHeld ?_
    rotate_left
    · intro wz hSw; (try dsimp only at hSw); go_simp; try with_reducible rfl
    (try simp only [Act.put, List.setIfInBounds_toArray, List.set_cons_zero, List.set_cons_succ])
    refine wpAnyH_take (i := 7) (v := ?_) (by simp only [List.getElem?_toArray, List.getElem?_cons_succ, List.getElem?_cons_zero]; rfl) (by kernel_rfl) (by kernel_rfl) (by kernel_rfl) (fun _ _ _ h => h) (Or.inl ⟨by rfl, ?_⟩) hHeld ?_
    rotate_left
    · intro wz hSw; (try dsimp only at hSw); go_simp; try with_reducible rfl
    (try simp only [Act.put, List.setIfInBounds_toArray, List.set_cons_zero, List.set_cons_succ])
    refine wpAnyH_take (i := 8) (v := ?_) (by simp only [List.getElem?_toArray, List.getElem?_cons_succ, List.getElem?_cons_zero]; rfl) (by kernel_rfl) (by kernel_rfl) (by kernel_rfl) (fun _ _ _ h => h) (Or.inl ⟨by rfl, ?_⟩) hHeld ?_
    rotate_left
    · intro wz hSw; (try dsimp only at hSw); go_simp; try with_reducible rfl
    (try simp only [Act.put, List.setIfInBounds_toArray, List.set_cons_zero, List.set_cons_succ])
    refine wpAnyH_take (i := 9) (v := ?_) (by simp only [List.getElem?_toArray, List.getElem?_cons_succ, List.getElem?_cons_zero]; rfl) (by kernel_rfl) (by kernel_rfl) (by kernel_rfl) (fun _ _ _ h => h) (Or.inl ⟨by rfl, ?_⟩) hHeld ?_
    rotate_left
    · intro wz hSw; (try dsimp only at hSw); go_simp; try with_reducible rfl
    (try simp only [Act.put, List.setIfInBounds_toArray, List.set_cons_zero, List.set_cons_succ])
    refine wpAnyH_take (i := 10) (v := ?_) (by simp only [List.getElem?_toArray, List.getElem?_cons_succ, List.getElem?_cons_zero]; rfl) (by kernel_rfl) (by kernel_rfl) (by kernel_rfl) (fun _ _ _ h => h) (Or.inl ⟨by rfl, ?_⟩) hHeld ?_
    rotate_left
    · intro wz hSw; (try dsimp only at hSw); go_simp; try with_reducible rfl
    (try simp only [Act.put, List.setIfInBounds_toArray, List.set_cons_zero, List.set_cons_succ])
    refine wpAnyH_take (i := 11) (v := ?_) (by simp only [List.getElem?_toArray, List.getElem?_cons_succ, List.getElem?_cons_zero]; rfl) (by kernel_rfl) (by kernel_rfl) (by kernel_rfl) (fun _ _ _ h => h) (Or.inl ⟨by rfl, ?_⟩) hHeld ?_
    rotate_left
    · intro wz hSw; (try dsimp only at hSw); go_simp; try with_reducible rfl
    (try simp only [Act.put, List.setIfInBounds_toArray, List.set_cons_zero, List.set_cons_succ])
    refine wpAnyH_take (i := 12) (v := ?_) (by simp only [List.getElem?_toArray, List.getElem?_cons_succ, List.getElem?_cons_zero]; rfl) (by kernel_rfl) (by kernel_rfl) (by kernel_rfl) (fun _ _ _ h => h) (Or.inl ⟨by rfl, ?_⟩) hHeld ?_
    rotate_left
    · intro wz hSw; (try dsimp only at hSw); go_simp; try with_reducible rfl
    (try simp only [Act.put, List.setIfInBounds_toArray, List.set_cons_zero, List.set_cons_succ])
    refine wpAnyH_take (i := 13) (v := .agg (bvs x).toArray) (by simp only [List.getElem?_toArray, List.getElem?_cons_succ, List.getElem?_cons_zero]; rfl) (by kernel_rfl) (by kernel_rfl) (by kernel_rfl) (fun _ _ _ h => h) (yieldsIf_load_mid (by rfl) 100 (.tmp 37) rfl b o (by rfl) (bvs x) _ (fun _ hS => hS.2.2) Try.underlying100 rfl (by rw [info93]; simp [length_bvs, HXL.out])) hHeld ?_
    (try simp only [Act.put, List.setIfInBounds_toArray, List.set_cons_zero, List.set_cons_succ])
    have h1a := h0.alloc (.cells (bvs x).toArray 100)
    have hB1 : Blk (U0.alloc (.cells (bvs x).toArray 100)) U0.heap.size 100 (bvs x) := Blk.new U0 _ _
    have hxa := World.rangeAt_alloc hxU0 (.cells (bvs x).toArray 100)
    clear harr
    refine wpAnyH_ready (rs := [14]) (by kernel_rfl) (by simp) ?_
    refine AllReadyH.cons (by simp only [List.getElem?_toArray, List.getElem?_cons_succ, List.getElem?_cons_zero]; rfl) (fun KK hK => ?_) AllReadyH.nil
    (refine step_built1 rfl 61 (.tmp 38) rfl (u := .agg (bvs x).toArray) rfl (run_built93 x HXL.out _) ?_)
    refine hK.out _ _ ?_ (fun hHeld => ?_)
    · exact ⟨h1a.blk.cell 1, h1a.look hk1 rfl, hxa⟩
    clear hK KK
    (try simp only [Act.put, List.setIfInBounds_toArray, List.set_cons_zero, List.set_cons_succ])
    have hmx := h1a.small
    obtain ⟨W1, hW1⟩ : ∃ W1, W1 = U0.alloc (.cells (bvs x).toArray 100) := ⟨_, rfl⟩
    have hDW : MapD W1 d s1 D := by rw [hW1]; exact ⟨ownsMap_block hDU.1 (Below.heap_alloc U0 _ d.M h0.mlt), hDU.2⟩
    have hsW : U0.heap.size ≤ W1.heap.size := by rw [hW1]; simp
    have hKW : Kept (fun j => j = d.g) w W1 := by rw [hW1]; exact hKU.trans (Kept.of_below (F := fun _ => False) ((Below.refl U0.heap.size U0).alloc (Nat.le_refl _) _) (Nat.le_refl _)) (fun _ _ e => e.elim)
    rw [← hW1] at h1a hB1 hxa hHeld
    rw [← hW1]
    have hbase : base ≤ W1.heap.size := by have := h0.foot_base _ (foot_g d); omega
    refine wpAnyH_ready (rs := [15]) (by kernel_rfl) (by simp) ?_
    refine AllReadyH.cons (by simp only [List.getElem?_toArray, List.getElem?_cons_succ, List.getElem?_cons_zero]; rfl) (fun KK hK => ?_) AllReadyH.nil
    (refine step_app rfl (.tmp 35) (.tmp 39) 61 rfl 100 256 Try.underlying61 info93f (by simp [Value.cells]) (by omega) rfl ((h1a.vers k hk1)) rfl (hB1.rd0 (Nat.le_refl _)) (by simp [length_bvs, HXL.out]) (bvs_oneCell _) (by omega) (by omega) hbase ?_; intro A2 c2 w2 ho2 hg2 hf2; have K2 : Kept (fun j => ablk (d.v k).A = some j) W1 w2 := Kept.of_grown hg2 (fun j e => e))
    refine hK.out _ _ ?_ (fun hHeld => ?_)
    · exact ⟨(K2.blk h1a.blk (h1a.apG k)).cell 1, h1a.look hk1 (K2.block d.M h1a.mlt (h1a.apM k)), range_kept hxa (K2.block b (by omega) (fun e => HF.out (.inr (.inr (.inr ⟨k, e⟩)))))⟩
    clear hK KK
    (try simp only [Act.put, List.setIfInBounds_toArray, List.set_cons_zero, List.set_cons_succ])
    obtain ⟨w3, hrun, hm3, hg3⟩ := (ownsMap_block hDW.1 (K2.block d.M h1a.mlt (h1a.apM k))).update law3 Try.underlying62 (by unfold maxLen; omega) (key_kl k (by omega)) (val := .slice A2 ((s1.vers k).length + 1) c2) (d := .held (.slice A2 ((s1.vers k).length + 1) c2)) (ps := []) rfl
    refine wpAnyH_done (by kernel_rfl) ?_ _
    simp only [lastQ]
    go_simp
    clear hHeld hrun
    obtain ⟨r1, r2, r3⟩ := h1a.write hk1 HXL.out ho2 hg2 (hf2.imp id (fun e => ⟨_, e, Nat.le_refl _⟩)) hDW hm3 hg3
    have R1 := Lib.hid r1
    have R2 := Lib.hid r2
    have R3 := Lib.hid r3
    clear r1 r2 r3 ho2 hg2 hf2 hm3 hg3 hDW hB1 hxa hDU h0 h1 HDD HXU K2 hxU0 h1a hW1 hKU hU0
    go_wp2
    go_ret
    exact ⟨rfl, d.put k ⟨A2, c2⟩, by rw [HW.out]; exact R1.out, rfl, (hKW.mono (fun j _ e => .inl e)).trans R2.out (fun _ _ e => e), fun j hj => (R3.out j hj).imp id (fun e => by have := hKW.size; omega)⟩
end Go.Proofs.Ytjndopmjlbhajaa
