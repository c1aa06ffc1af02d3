/- The cache's there, Forget, asked. Condition: fewer than 2^63 for a number. -/
import Derived.Test.YtdakohbfibcjeaaCaF
import Derived.Test.YtdakohbfibcjeaaTvD
namespace Go.Proofs.Ytdakohbfibcjeaa
open Go.RowKit Go.Maps
set_option linter.unusedSimpArgs false
set_option linter.unusedVariables false

section
variable {P : Program} {w : World} {ops : Array Oper} {rest : List Oper} {o : Oper} {a : Act} {Q : Exit → Act → World → Prop} {M N : Nat} {f : Nat → Option Value}
theorem wpList_mdel (hgd : o.guard = none) (m x : Operand) (t : TypeId) (hop : o.op = Op.call { callee := Callee.builtin Builtin.delete, args := #[m, x], argTypes := #[t, 3] })
    {e : TypeId} (hu : Try.prog.underlying t = some (.map 3 e)) (hm : a.eval m = .map (some M)) {z : Int} (hx : a.eval x = .int .i64 z) (h : Mp w M N f) (hN : N ≤ 4096) (hz : -9223372036854775808 ≤ z ∧ z ≤ 9223372036854775807)
    (hK : ∀ w', Mp w' M N (delM f z) → w.grownBy w' (some M) → wpList Try.prog ops Q rest (a.put o.dst (.tuple #[])) w') : wpList Try.prog ops Q (o :: rest) a w := by
  refine wpList_plain hgd fun K' hK' => ?_
  obtain ⟨w', hrun, r1, r2⟩ := h.del hN hz hu o.type
  unfold Oper.wp
  simp [execOp, hop, resolve, invoke, builtin, hm, hx, hrun, Result.andThen]
  exact hK' _ _ (hK w' r1 r2)
theorem wpList_mput (hgd : o.guard = none) (m x v : Operand) (t : TypeId) (hop : o.op = Op.mapUpdate t m x v)
    {e : TypeId} (hu : Try.prog.underlying t = some (.map 3 e)) (hm : a.eval m = .map (some M)) {n : Nat} (hx : a.eval x = .int .i64 (n : Int)) {u : Value} (hv : a.eval v = u) (h : Mp w M N f) (hN : N ≤ 4096) (hn : n < N)
    (hK : ∀ w', Mp w' M N (updM f n (some u)) → w.grownBy w' (some M) → wpList Try.prog ops Q rest (a.put o.dst undef) w') : wpList Try.prog ops Q (o :: rest) a w := by
  refine wpList_plain hgd fun K' hK' => ?_
  obtain ⟨w', hrun, r1, r2⟩ := h.put hN hn hu u
  unfold Oper.wp
  simp [execOp, hop, hm, hx, hv, hrun, Result.andThen]
  exact hK' _ _ (hK w' r1 r2)
end

theorem step_app3 {w : World} {ops : Array Oper} {o : Oper} {a : Act} {K : Act → World → Prop} {Q : Exit → Act → World → Prop} {E : Prop} (hgd : o.guard = none) (d x : Operand)
    (ho : o.op = .call { callee := .builtin .append, args := #[d, x], argTypes := #[57, 57] }) {base n c g v : Nat} {A : Option Addr} {l : List Nat} (hd : a.eval d = .slice A n c) (hx : a.eval x = .slice (some ⟨g, 0, none⟩) 1 1)
    (h : Oz w base A n c l) (hbase : base ≤ w.heap.size) (hg : w.cell? ⟨g, 0, none⟩ = some (.int .i64 (v : Int))) (hn : n ≤ 1000000)
    (hK : ∀ A' c' w', Oz w' base A' (n + 1) c' (l ++ [v]) → w.grownBy w' (ablk A) → (ablk A' = ablk A ∨ ∃ g', ablk A' = some g' ∧ w.heap.size ≤ g') → K (a.put o.dst (.slice A' (n + 1) c')) w') :
    if Region.wanted o (yielded ops a.tmps) = true then Oper.wp Try.prog o a w K Q else E := by
  have hw : Region.wanted o (yielded ops a.tmps) = true := by simp [Region.wanted, hgd]
  rw [if_pos hw]
  obtain ⟨A', c', w', hrun, h2, h3, h4⟩ := run_app3 h hbase hg hn o.type
  unfold Oper.wp execOp
  simp only [ho, resolve, invoke, builtin, Sem.run_bind, Sem.run_pure, Result.andThen_ok, List.map_toArray, List.map_cons, List.map_nil, hd, hx, hrun]
  exact hK A' c' w' h2 h3 h4
set_option maxHeartbeats 1000000 in
theorem there_b {w : World} {base : Nat} {d : Dw} {k : Cw} {t : Dsk} {s : Ca} (h : CD w base d k t s) {n : Int} {b : Bool} (hb : decide (50 ≤ n ∧ n < (t.n : Int)) = b) :
    Calls Try.prog 37 #[.pointer (some ⟨k.g, 0, none⟩), .int .i64 n] w fun e w' => e = .returned (.bool b) ∧ w = w' := by
  have S0 := dsize_any h.dk
  have c0 : w.cell? ⟨k.g, 0, none⟩ = some (.pointer (some ⟨d.g, 0, none⟩)) := h.ck.blk.cell 0
  have S := Lib.hid S0
  obtain ⟨kg, hkg⟩ : ∃ z, z = k.g := ⟨_, rfl⟩
  rw [← hkg] at c0 ⊢
  clear h S0 hkg
  by_cases h1 : 50 ≤ n
  · by_cases h2 : n < (t.n : Int)
    · obtain rfl : b = true := by rw [← hb]; exact decide_eq_true ⟨h1, h2⟩
      clear hb
      go_enter Try.func37, Try.ntmps37
      go_wp2_with ((with_reducible refine Calls.mono S.out ?_); rintro e w1 ⟨rfl, rfl⟩)
      go_ret
      exact ⟨rfl, rfl⟩
    · obtain rfl : b = false := by rw [← hb]; exact decide_eq_false (fun x => h2 x.2)
      have h2f : decide (n < (t.n : Int)) = false := decide_eq_false h2
      clear hb
      go_enter Try.func37, Try.ntmps37
      go_wp2_with ((with_reducible refine Calls.mono S.out ?_); rintro e w1 ⟨rfl, rfl⟩)
      go_ret
      exact ⟨rfl, rfl⟩
  · obtain rfl : b = false := by rw [← hb]; exact decide_eq_false (fun x => h1 x.1)
    have h1f : decide (50 ≤ n) = false := decide_eq_false h1
    clear hb
    go_enter Try.func37, Try.ntmps37
    go_wp2
    go_ret
    exact ⟨rfl, rfl⟩

def forgetC (s : Ca) (z : Int) : Ca := setO (delD (delB s z) z) (outN s.order z)
set_option maxRecDepth 100000 in
set_option maxHeartbeats 2000000 in
theorem forget_any {w : World} {base : Nat} {d : Dw} {k : Cw} {t : Dsk} {s : Ca} (h : CD w base d k t s) {z : Int} (hz : -9223372036854775808 ≤ z ∧ z ≤ 9223372036854775807) :
    Calls Try.prog 39 #[.pointer (some ⟨k.g, 0, none⟩), .int .i64 z] w fun e w' => e = .returned (.tuple #[]) ∧ ∃ k', CCh w w' base d d k k' t (forgetC s z) := by
  have hmf : ∀ (fn : Fn) (first cap : Array Value) (w : World), (Instr.makeFunc fn first cap).run Try.prog w = .ok (.func fn first cap) w := fun _ _ _ _ => rfl
  obtain ⟨kg, hkg⟩ : ∃ z, z = k.g := ⟨_, rfl⟩
  have HKg := Lib.hid hkg
  have H := Lib.hid h
  have HZ := Lib.hid hz
  have hn : t.n ≤ 4096 := h.dk.small.2
  rw [← hkg]
  clear h hz hkg
  go_enter Try.func39, Try.ntmps39
  go_upto_region 1 with fail
  obtain ⟨gb, hgb⟩ : ∃ g, g = w.heap.size := ⟨_, rfl⟩
  have hbl : Blk (w.alloc (.cells #[.int .i64 z] 3)) gb 3 [.int .i64 z] := Blk.new_at (cs := [.int .i64 z]) hgb
  have hal : Below w.heap.size w (w.alloc (.cells #[.int .i64 z] 3)) := (Below.refl _ _).alloc (Nat.le_refl _) _
  have hnf : ¬ footC d k gb := fun x => by have := (H.out.foot_base gb x).2; omega
  rw [← hgb]
  refine wp_world (fun V => CCh w V base d d k k t s ∧ Blk V gb 3 [.int .i64 z]) ⟨(CCh.init H.out).below hal (Nat.le_refl _), hbl⟩ ?_
  clear hbl hal hgb
  rintro V ⟨hCh, hBx⟩
  have HNf := Lib.hid hnf
  have c0 : V.cell? ⟨gb, 0, none⟩ = some (.int .i64 z) := hBx.cell 0
  have c2 : V.cell? ⟨kg, 2, none⟩ = some (.map (some k.B)) := by rw [HKg.out]; exact hCh.cd.ck.blk.cell 2
  have HCh := Lib.hid (hCh.below (Below.refl V.heap.size V).drew (Nat.le_refl _))
  have HBx : Hid (Blk V.drew gb 3 [.int .i64 z]) := Lib.hid hBx.drew
  clear hnf hCh hBx
  go_still_tail 5, (by kernel_rfl)
  change wpList _ _ _ _ _ V.drew
  clear c0 c2
  refine wpList_mdel rfl (.tmp 7) (.tmp 8) 79 rfl Try.underlying79 rfl rfl HCh.out.cd.ck.bm hn HZ.out ?_
  intro w1 hm1 hg1
  obtain ⟨k1, h1⟩ := HCh.out.cd.delB_ hm1 hg1
  have hC1 := HCh.out.trans h1
  have hB1 : Blk w1 gb 3 [.int .i64 z] := HBx.out.grown hg1 (by intro e; injection e with e; exact HNf.out (.inr (.inl (.inr (.inl e)))))
  have hn1 : ¬ footC d k1 gb := h1.away HNf.out HBx.out.lt
  have hk1 : kg = k1.g := by rw [HKg.out]; exact h1.gk.symm
  have HC1 := Lib.hid hC1
  have HB1 := Lib.hid hB1
  have HN1 := Lib.hid hn1
  have HK1 := Lib.hid hk1
  clear hm1 hg1 h1 hC1 hB1 hn1 hk1 HCh HBx HNf HKg
  go_wp2
  have c0 : w1.cell? ⟨gb, 0, none⟩ = some (.int .i64 z) := HB1.out.cell 0
  have c3 : w1.cell? ⟨kg, 3, none⟩ = some (.map (some k1.D)) := by rw [HK1.out]; exact HC1.out.cd.ck.blk.cell 3
  go_still_tail 5, (by kernel_rfl)
  change wpList _ _ _ _ _ w1.drew
  clear c0 c3
  refine wpList_mdel rfl (.tmp 12) (.tmp 13) 70 rfl Try.underlying70 rfl rfl (HC1.out.cd.drewN 1).ck.dm hn HZ.out ?_
  intro w2 hm2 hg2
  have hC1d : CCh w w1.drew base d d k k1 t (delB s z) := HC1.out.below (Below.refl _ _).drew (Nat.le_refl _)
  have h2 := (HC1.out.cd.drewN 1).delD_ hm2 hg2
  have hC2 := hC1d.trans h2
  have hB2 : Blk w2 gb 3 [.int .i64 z] := HB1.out.drew.grown hg2 (by intro e; injection e with e; exact HN1.out (.inr (.inl (.inr (.inr (.inl e))))))
  have HC2 := Lib.hid hC2
  have HB2 := Lib.hid hB2
  clear hm2 hg2 h2 hC2 hC1d hB2 HC1 HB1
  have c0 : w2.cell? ⟨gb, 0, none⟩ = some (.int .i64 z) := HB2.out.cell 0
  have c4 : w2.cell? ⟨kg, 4, none⟩ = some (.slice k1.oA s.order.length k1.oc) := by rw [HK1.out]; exact HC2.out.cd.ck.blk.cell 4
  have D := Lib.hid (del_any 59 (.inr rfl) (show Oz w2 base k1.oA s.order.length k1.oc s.order from HC2.out.cd.ck.ord) c0 (fun e => HN1.out (.inr (.inl (.inr (.inr (.inr e)))))))
  clear c0
  go_wp2_with ((with_reducible refine Calls.mono D.out ?_); rintro e w3 ⟨rfl, ho3, K3⟩; have b3 := K3.blk HC2.out.cd.ck.blk HC2.out.cd.ck.neo.1; rw [← HK1.out] at b3; have b3c := b3.cells; have b3f := b3.frees)
  go_end0
  have h3 := HC2.out.cd.setO_ K3 ho3 (.inl rfl)
  rw [← HK1.out] at h3
  exact ⟨rfl, _, HC2.out.trans h3⟩

/-- the block that was asked longest ago is forgotten -/
def dropC (s : Ca) : Ca := match s.order with
  | [] => s
  | x :: r => setO (delB s (x : Int)) r
def trimC : Nat → Ca → Ca
  | 0, s => s
  | i + 1, s => if s.room < s.order.length then trimC i (dropC s) else s
def askC (s : Ca) (n : Nat) : Ca := setO s (outN s.order (n : Int) ++ [n])
def askedC (s : Ca) (n : Nat) : Ca := trimC (askC s n).order.length (askC s n)
theorem trim_done {s : Ca} (h : ¬ s.room < s.order.length) : ∀ i, trimC i s = s
  | 0 => rfl
  | i + 1 => if_neg h
theorem trim_step {s : Ca} {x : Nat} {r : List Nat} (e : s.order = x :: r) (h : s.room < s.order.length) : trimC s.order.length s = trimC r.length (setO (delB s (x : Int)) r) := by
  have e2 : dropC s = setO (delB s (x : Int)) r := by unfold dropC; rw [e]
  have e3 : s.order.length = r.length + 1 := by rw [e]; rfl
  rw [e3, trimC, if_pos h, e2]
set_option maxRecDepth 100000 in
set_option maxHeartbeats 4000000 in
theorem asked_any {w : World} {base : Nat} {d : Dw} {k : Cw} {t : Dsk} {s : Ca} (h : CD w base d k t s) {z : Nat} (hz : z < t.n) (ho : s.order.length ≤ 100000) (hin : ∀ x ∈ s.order, x < t.n) (hroom : 1 ≤ s.room ∧ s.room ≤ 1024) :
    Calls Try.prog 63 #[.pointer (some ⟨k.g, 0, none⟩), .int .i64 (z : Int)] w fun e w' => e = .returned (.tuple #[]) ∧ ∃ k', CCh w w' base d d k k' t (askedC s z) := by
  have hmf : ∀ (fn : Fn) (first cap : Array Value) (w : World), (Instr.makeFunc fn first cap).run Try.prog w = .ok (.func fn first cap) w := fun _ _ _ _ => rfl
  obtain ⟨kg, hkg⟩ : ∃ z, z = k.g := ⟨_, rfl⟩
  have HKg := Lib.hid hkg
  have H := Lib.hid h
  have hn : t.n ≤ 4096 := h.dk.small.2
  have HZ := Lib.hid hz
  have HO := Lib.hid ho
  have HIn := Lib.hid hin
  have HRm := Lib.hid hroom
  rw [← hkg]
  clear h hz hkg ho hroom hin
  go_enter Try.func63, Try.ntmps63
  go_upto_region 1 with fail
  obtain ⟨gb, hgb⟩ : ∃ g, g = w.heap.size := ⟨_, rfl⟩
  have hbl : Blk (w.alloc (.cells #[.int .i64 (z : Int)] 3)) gb 3 [.int .i64 (z : Int)] := Blk.new_at (cs := [.int .i64 (z : Int)]) hgb
  have hal : Below w.heap.size w (w.alloc (.cells #[.int .i64 (z : Int)] 3)) := (Below.refl _ _).alloc (Nat.le_refl _) _
  have hnf : ¬ footC d k gb := fun x => by have := (H.out.foot_base gb x).2; omega
  rw [← hgb]
  refine wp_world (fun V => CCh w V base d d k k t s ∧ Blk V gb 3 [.int .i64 (z : Int)]) ⟨(CCh.init H.out).below hal (Nat.le_refl _), hbl⟩ ?_
  clear hbl hal hgb
  rintro V ⟨hCh, hBx⟩
  obtain ⟨oA, hoA⟩ : ∃ x, x = k.oA := ⟨_, rfl⟩
  obtain ⟨oc, hoc⟩ : ∃ x, x = k.oc := ⟨_, rfl⟩
  obtain ⟨on, hon⟩ : ∃ x, x = s.order.length := ⟨_, rfl⟩
  have hS0 : Hid (∀ W, CD W base d k t s → Blk W gb 3 [.int .i64 (z : Int)] → W.cell? ⟨kg, 4, none⟩ = some (.slice oA on oc) ∧ W.cell? ⟨gb, 0, none⟩ = some (.int .i64 (z : Int))) := Lib.hid fun W hC hB => ⟨by rw [HKg.out, hoA, hoc, hon]; exact hC.ck.blk.cell 4, hB.cell 0⟩
  have hOz : ∀ W, CD W base d k t s → Oz W base oA on oc s.order := fun W hC => by rw [hoA, hoc, hon]; exact hC.ck.ord
  have hOzH := Lib.hid hOz
  have hoH := Lib.hid hoA
  have hneo : ablk oA ≠ some kg ∧ ablk oA ≠ some gb := by
    rw [hoA, HKg.out]
    exact ⟨H.out.ck.neo.1, fun e => hnf (.inr (.inl (.inr (.inr (.inr e)))))⟩
  have HNeo := Lib.hid hneo
  have HNf := Lib.hid hnf
  have HC := Lib.hid hCh.cd
  have HCh := Lib.hid hCh
  have HBx := Lib.hid hBx
  have hkb : kg ≠ gb := fun e => hnf (.inr (.inl (.inl (by rw [← e]; exact HKg.out))))
  have HKb := Lib.hid hkb
  have hX5 : ∀ W, Kept (fun b => ablk oA = some b) V.drew W → W.cell? ⟨kg, 4, none⟩ = some (.slice oA on oc) ∧ W.cell? ⟨gb, 0, none⟩ = some (.int .i64 (z : Int)) := fun W K => by
    have hb1 := K.blk (hCh.cd.drewN 1).ck.blk (by intro e; exact hneo.1 (by rw [HKg.out]; exact e))
    have hb2 := K.blk hBx.drew hneo.2
    refine ⟨?_, hb2.cell 0⟩
    rw [HKg.out, hoA, hoc, hon]
    exact hb1.cell 4
  have D := Lib.hid (del_any 80 (.inl rfl) (hOz V.drew (hCh.cd.drewN 1)) (B := gb) (z := (z : Int)) (hBx.drew.cell 0) hneo.2)
  clear hCh hBx hoA hoc hon hOz hneo hnf hkb
  refine wp_region_last (S := fun w' => w'.cell? ⟨kg, 4, none⟩ = some (.slice oA on oc) ∧ w'.cell? ⟨gb, 0, none⟩ = some (.int .i64 (z : Int))) 12 (by kernel_rfl) rfl (by kernel_rfl) ?_ ?_
  · exact hS0.out _ (HC.out.drewN 1) HBx.out.drew
  intro hHeld
  simp only [List.take_succ_cons, List.take_zero]
  refine wpAnyH_take (i := 0) (v := ?_) (by simp only [List.getElem?_toArray, List.getElem?_cons_succ, List.getElem?_cons_zero]; rfl) (by kernel_rfl) (by kernel_rfl) (by kernel_rfl) (fun _ _ _ h => h) (Or.inl ⟨by rfl, ?_⟩) hHeld ?_
  rotate_left
  · intro wz hSw; (try dsimp only at hSw); go_simp; try with_reducible rfl
  (try simp only [Act.put, List.setIfInBounds_toArray, List.set_cons_zero, List.set_cons_succ])
  refine wpAnyH_take (i := 1) (v := ?_) (by simp only [List.getElem?_toArray, List.getElem?_cons_succ, List.getElem?_cons_zero]; rfl) (by kernel_rfl) (by kernel_rfl) (by kernel_rfl) (fun _ _ _ h => h) (Or.inl ⟨by rfl, ?_⟩) hHeld ?_
  rotate_left
  · intro wz hSw; (try dsimp only at hSw); go_simp; try with_reducible rfl
  (try simp only [Act.put, List.setIfInBounds_toArray, List.set_cons_zero, List.set_cons_succ])
  refine wpAnyH_take (i := 2) (v := ?_) (by simp only [List.getElem?_toArray, List.getElem?_cons_succ, List.getElem?_cons_zero]; rfl) (by kernel_rfl) (by kernel_rfl) (by kernel_rfl) (fun _ _ _ h => h) (Or.inl ⟨by rfl, ?_⟩) hHeld ?_
  rotate_left
  · intro wz hSw; (try dsimp only at hSw); go_simp; try with_reducible rfl
  (try simp only [Act.put, List.setIfInBounds_toArray, List.set_cons_zero, List.set_cons_succ])
  refine wpAnyH_take (i := 3) (v := ?_) (by simp only [List.getElem?_toArray, List.getElem?_cons_succ, List.getElem?_cons_zero]; rfl) (by kernel_rfl) (by kernel_rfl) (by kernel_rfl) (fun _ _ _ h => h) (Or.inl ⟨by rfl, ?_⟩) hHeld ?_
  rotate_left
  · intro wz hSw; (try dsimp only at hSw); go_simp; try with_reducible rfl
  (try simp only [Act.put, List.setIfInBounds_toArray, List.set_cons_zero, List.set_cons_succ])
  refine wpAnyH_take (i := 4) (v := ?_) (by simp only [List.getElem?_toArray, List.getElem?_cons_succ, List.getElem?_cons_zero]; rfl) (by kernel_rfl) (by kernel_rfl) (by kernel_rfl) (fun _ _ _ h => h) (Or.inl ⟨by rfl, ?_⟩) hHeld ?_
  rotate_left
  · intro wz hSw; (try dsimp only at hSw); go_simp; try with_reducible rfl
  (try simp only [Act.put, List.setIfInBounds_toArray, List.set_cons_zero, List.set_cons_succ])
  refine wpAnyH_take (i := 5) (v := ?_) (by simp only [List.getElem?_toArray, List.getElem?_cons_succ, List.getElem?_cons_zero]; rfl) (by kernel_rfl) (by kernel_rfl) (by kernel_rfl) (fun _ _ _ h => h) (Or.inl ⟨by rfl, ?_⟩) hHeld ?_
  rotate_left
  · intro wz hSw; (try dsimp only at hSw); go_simp; try with_reducible rfl
  (try simp only [Act.put, List.setIfInBounds_toArray, List.set_cons_zero, List.set_cons_succ])
  refine wpAnyH_take (i := 7) (v := ?_) (by simp only [List.getElem?_toArray, List.getElem?_cons_succ, List.getElem?_cons_zero]; rfl) (by kernel_rfl) (by kernel_rfl) (by kernel_rfl) (fun _ _ _ h => h) (Or.inl ⟨by rfl, ?_⟩) hHeld ?_
  rotate_left
  · intro wz hSw; (try dsimp only at hSw); go_simp; try with_reducible rfl
  (try simp only [Act.put, List.setIfInBounds_toArray, List.set_cons_zero, List.set_cons_succ])
  refine wpAnyH_ready (rs := [6, 8]) (by kernel_rfl) (by simp) ?_
  refine AllReadyH.cons (by simp only [List.getElem?_toArray, List.getElem?_cons_succ, List.getElem?_cons_zero]; rfl) (fun KK hK => ?_) (AllReadyH.cons (by simp only [List.getElem?_toArray, List.getElem?_cons_succ, List.getElem?_cons_zero]; rfl) (fun KK hK => ?_) AllReadyH.nil)
  · go_simp; ((with_reducible refine Calls.mono D.out ?_); rintro e w5 ⟨rfl, ho5, K5⟩); go_wp2_with fail
    refine hK.out _ _ ?_ (fun hHeld => ?_)
    · exact hX5 w5 K5
    clear hK KK
    (try simp only [Act.put, List.setIfInBounds_toArray, List.set_cons_zero, List.set_cons_succ])
    refine wpAnyH_ready (rs := [8]) (by kernel_rfl) (by simp) ?_
    refine AllReadyH.cons (by simp only [List.getElem?_toArray, List.getElem?_cons_succ, List.getElem?_cons_zero]; rfl) (fun KK hK => ?_) AllReadyH.nil
    go_simp
    have K8 : Kept (fun b => ablk oA = some b) V.drew (w5.alloc (.cells #[.int .i64 (z : Int)] 3)) := K5.trans (Kept.of_below (F := fun _ => False) ((Below.refl _ _).alloc (Nat.le_refl _) _) (Nat.le_refl _)) (fun _ _ x => x.elim)
    have ho8 : Oz (w5.alloc (.cells #[.int .i64 (z : Int)] 3)) base oA (outN s.order (z : Int)).length oc (outN s.order (z : Int)) := ho5.kept (F := fun _ => False) (Kept.of_below ((Below.refl _ _).alloc (Nat.le_refl _) _) (Nat.le_refl _)) (fun _ _ x => x)
    have hg8 : (w5.alloc (.cells #[.int .i64 (z : Int)] 3)).cell? ⟨w5.heap.size, 0, none⟩ = some (.int .i64 (z : Int)) := (Blk.new w5 3 [.int .i64 (z : Int)]).cell 0
    obtain ⟨g8, hg8e⟩ : ∃ g, g = w5.heap.size := ⟨_, rfl⟩
    obtain ⟨w8, hw8⟩ : ∃ x, x = w5.alloc (.cells #[.int .i64 (z : Int)] 3) := ⟨_, rfl⟩
    rw [← hw8] at K8 ho8 hg8
    rw [← hg8e] at hg8
    rw [← hw8, ← hg8e]
    clear ho5 hw8 hg8e
    refine hK.out _ _ ?_ (fun hHeld => ?_)
    · exact hX5 w8 K8
    clear hK KK
    (try simp only [Act.put, List.setIfInBounds_toArray, List.set_cons_zero, List.set_cons_succ])
    refine wpAnyH_ready (rs := [9]) (by kernel_rfl) (by simp) ?_
    refine AllReadyH.cons (by simp only [List.getElem?_toArray, List.getElem?_cons_succ, List.getElem?_cons_zero]; rfl) (fun KK hK => ?_) AllReadyH.nil
    refine step_app3 rfl (.tmp 10) (.tmp 12) rfl rfl rfl ho8 (Nat.le_trans (by have := (HC.out.foot_base kg (.inr (.inl (.inl HKg.out)))); exact Nat.le_of_lt (Nat.lt_of_le_of_lt this.1 this.2)) K8.size) hg8 (Nat.le_trans (List.length_filter_le _ _) (by have := HO.out; omega)) ?_
    intro A9 c9 w9 ho9 hg9 hA9
    have K9 : Kept (fun b => ablk oA = some b) V.drew w9 := K8.trans (Kept.of_grown (F := fun b => ablk oA = some b) hg9 (fun b e => e)) (fun _ _ x => x)
    refine hK.out _ _ ?_ (fun hHeld => ?_)
    · exact hX5 w9 K9
    clear hK KK
    (try simp only [Act.put, List.setIfInBounds_toArray, List.set_cons_zero, List.set_cons_succ])
    refine wpAnyH_take (i := 10) (v := ?_) (by simp only [List.getElem?_toArray, List.getElem?_cons_succ, List.getElem?_cons_zero]; rfl) (by kernel_rfl) (by kernel_rfl) (by kernel_rfl) (fun _ _ _ h => h) (Or.inl ⟨by rfl, ?_⟩) hHeld ?_
    rotate_left
    · intro wz hSw; (try dsimp only at hSw); go_simp; try with_reducible rfl
    (try simp only [Act.put, List.setIfInBounds_toArray, List.set_cons_zero, List.set_cons_succ])
    refine wpAnyH_take (i := 11) (v := ?_) (by simp only [List.getElem?_toArray, List.getElem?_cons_succ, List.getElem?_cons_zero]; rfl) (by kernel_rfl) (by kernel_rfl) (by kernel_rfl) (fun _ _ _ h => h) (Or.inl ⟨by rfl, ?_⟩) hHeld ?_
    rotate_left
    · intro wz hSw; (try dsimp only at hSw); go_simp; try with_reducible rfl
    (try simp only [Act.put, List.setIfInBounds_toArray, List.set_cons_zero, List.set_cons_succ])
    have b9 : Blk w9 kg 81 [.pointer (some ⟨d.g, 0, none⟩), .int .i64 (s.room : Int), .map (some k.B), .map (some k.D), .slice k.oA s.order.length k.oc] := by rw [HKg.out]; exact K9.blk (HC.out.drewN 1).ck.blk (fun e => HNeo.out.1 (by rw [HKg.out]; exact e))
    have b9c := b9.cells
    have b9f := b9.frees
    refine wpAnyH_done (by kernel_rfl) ?_ _
    simp only [lastQ]
    go_simp
    have hCd : CCh w V.drew base d d k k t s := HCh.out.below (Below.refl V.heap.size V).drew (Nat.le_refl _)
    have h9 := hCd.cd.setO_ (by rw [← hoH.out]; exact K9) ho9 (by rw [← hoH.out]; rcases hA9 with x | ⟨g, x, y⟩; exact .inl x; exact .inr ⟨g, x, Nat.le_trans K8.size y⟩)
    rw [← HKg.out] at h9
    have hC9 := hCd.trans h9
    clear b9c b9f
    go_wp2
    refine wp_world (fun W => ∃ k1, CCh w W base d d k k1 t (askC s z) ∧ kg = k1.g) ⟨_, hC9, rfl⟩ ?_
    clear hC9 h9 hCd b9 K9 ho9 hg9 hA9 ho8 hg8 K8 hHeld D HCh HC HBx hX5 HNeo HNf HKb hS0 hOzH hoH
    rintro W1 ⟨k1, hC1, hk1⟩
    obtain ⟨T, hT⟩ : ∃ T, T = askedC s z := ⟨_, rfl⟩
    have HT := Lib.hid hT
    have HC1 := Lib.hid hC1
    have HK1 := Lib.hid hk1
    clear hT hC1 hk1
    go_loopg [16] (askC s z).order.length (fun gg _ wr => ∃ (k2 : Cw) (s2 : Ca), CCh w wr base d d k k2 t s2 ∧ kg = k2.g ∧ gg = s2.order.length ∧ trimC s2.order.length s2 = T ∧ s2.room = s.room ∧ ∀ x ∈ s2.order, x < t.n)
    case atStart => exact ⟨k1, askC s z, HC1.out, HK1.out, rfl, HT.out.symm, rfl, fun x hx => by
      rcases List.mem_append.1 (show x ∈ outN s.order (z : Int) ++ [z] from hx) with y | y
      · exact HIn.out x (List.mem_filter.1 y).1
      · rw [List.mem_singleton] at y; rw [y]; exact HZ.out⟩
    case round =>
      clear HC1 HK1
      obtain ⟨k2, s2, hC2, hk2, hgg, hT2, hrm, hin2⟩ := hrel
      have c4 : wr.cell? ⟨kg, 4, none⟩ = some (.slice k2.oA s2.order.length k2.oc) := by rw [hk2]; exact hC2.cd.ck.blk.cell 4
      have c1 : wr.cell? ⟨kg, 1, none⟩ = some (.int .i64 (s2.room : Int)) := by rw [hk2]; exact hC2.cd.ck.blk.cell 1
      have HC2 := Lib.hid hC2
      have HK2 := Lib.hid hk2
      have HT2 := Lib.hid hT2
      have HGg := Lib.hid hgg
      have HRm2 := Lib.hid hrm
      have HIn2 := Lib.hid hin2
      clear hC2 hk2 hT2 hgg hrm hin2
      by_cases hlt : s2.room < s2.order.length
      · have hltI : (s2.room : Int) < (s2.order.length : Int) := by omega
        have hltD : decide (s2.room < s2.order.length) = true := decide_eq_true hlt
        go_wp2
        go_quiet (fail)
        go_upto_region 3 with fail
        refine wp_world (fun U => CCh w U base d d k k2 t s2) (HC2.out.below (below_drewN (Below.refl _ _) _) (Nat.le_refl _)) ?_
        clear c4 c1 hltI hltD
        rintro U hC3
        obtain ⟨x, r, hxr⟩ : ∃ x r, s2.order = x :: r := by
          cases e : s2.order with
          | nil => rw [e] at hlt; exact absurd hlt (by simp)
          | cons x r => exact ⟨x, r, rfl⟩
        have hrl : s2.order.length = r.length + 1 := by rw [hxr]; rfl
        have hr1 : 1 ≤ r.length := by have := HRm.out; have := HRm2.out; omega
        have hxn : x < t.n := HIn2.out x (by rw [hxr]; exact List.mem_cons_self)
        have hoz := hC3.cd.ck.ord
        obtain ⟨g, o, hA, hbl, hgl, hnc, hcm⟩ := hoz.at_ (by omega)
        rw [hA] at hoz
        have ce : U.cell? ⟨g, o, none⟩ = some (.int .i64 (x : Int)) := by have := hoz.cell 0 (by omega); rw [hxr] at this; exact this
        have c4 : U.cell? ⟨kg, 4, none⟩ = some (.slice (some ⟨g, o, none⟩) (r.length + 1) k2.oc) := by rw [HK2.out, ← hA, ← hrl]; exact hC3.cd.ck.blk.cell 4
        have c2 : U.cell? ⟨kg, 2, none⟩ = some (.map (some k2.B)) := by rw [HK2.out]; exact hC3.cd.ck.blk.cell 2
        have hC3d := hC3.below (Below.refl U.heap.size U).drew (Nat.le_refl _)
        have HC3 := Lib.hid hC3d
        have HXr := Lib.hid hxr
        have HLt := Lib.hid hlt
        have HXn := Lib.hid hxn
        clear hC3 hC3d hoz hA hbl hgl hnc hcm hxr hrl hlt hxn HC2
        go_still_tail 10, (by kernel_rfl)
        change wpList _ _ _ _ _ U.drew
        clear ce c4 c2
        refine wpList_mdel rfl (.tmp 29) (.tmp 35) 79 rfl Try.underlying79 rfl rfl HC3.out.cd.ck.bm hn (by have := HXn.out; omega) ?_
        intro w4 hm4 hg4
        obtain ⟨k4, h4⟩ := HC3.out.cd.delB_ hm4 hg4
        have hC4 := HC3.out.trans h4
        have hk4 : kg = k4.g := by rw [HK2.out]; exact h4.gk.symm
        have hoz : Oz w4 base k4.oA (r.length + 1) k4.oc (x :: r) := by have := hC4.cd.ck.ord; rw [show (delB s2 (x : Int)).order = x :: r from HXr.out] at this; exact this
        obtain ⟨g4, o4, hA4, hbl4, hgl4, hnc4, hcm4⟩ := hoz.at_ (by omega)
        have c4 : w4.cell? ⟨kg, 4, none⟩ = some (.slice (some ⟨g4, o4, none⟩) (r.length + 1) k4.oc) := by rw [hk4, ← hA4]; have := hC4.cd.ck.blk.cell 4; rw [show (delB s2 (x : Int)).order = x :: r from HXr.out] at this; exact this
        have f4 : w4.frozen? ⟨kg, 4, none⟩ = false := by rw [hk4]; exact hC4.cd.ck.blk.frozen 4
        obtain ⟨oc4, hoc4⟩ : ∃ y, y = k4.oc := ⟨_, rfl⟩
        rw [← hoc4] at c4 hnc4 hcm4 hoz
        have hoc1 : 1 < oc4 := by omega
        have hocI : (1 : Int) < (oc4 : Int) := by omega
        have hocn : ¬ oc4 = 1 := by omega
        rw [hA4] at hoz
        have HOz := Lib.hid hoz.tail
        have HC4 := Lib.hid hC4
        have HK4 := Lib.hid hk4
        have HA4 := Lib.hid hA4
        clear hm4 hg4 h4 hC4 hk4 hoz hA4 hbl4 hgl4 hnc4 hcm4 hoc4 HC3
        go_wp2
        have h5 := HC4.out.cd.setO_ (Kept.refl _ _) HOz.out (.inl (by rw [HA4.out]; rfl))
        rw [← HK4.out] at h5
        have hC5 := HC4.out.trans h5
        have hT5 : trimC r.length (setO (delB s2 (x : Int)) r) = T := by rw [← trim_step HXr.out HLt.out]; exact HT2.out
        have hin5 : ∀ y ∈ r, y < t.n := fun y hy => HIn2.out y (by rw [HXr.out]; exact List.mem_cons_of_mem _ hy)
        go_roundg r.length
        case measure => rw [HGg.out, HXr.out]; exact Nat.lt_succ_self _
        case rel => exact ⟨_, setO (delB s2 (x : Int)) r, hC5, rfl, rfl, hT5, HRm2.out, hin5⟩
      · have hltI : ¬ (s2.room : Int) < (s2.order.length : Int) := by omega
        have hltD : decide (s2.room < s2.order.length) = false := decide_eq_false hlt
        go_wp2
        go_quiet (fail)
        go_wp2
        go_end0
        have hd : s2 = T := by rw [← HT2.out]; exact (trim_done hlt _).symm
        exact ⟨rfl, k2, by rw [← HT.out, ← hd]; exact HC2.out.below (below_drewN (Below.refl _ _) _) (Nat.le_refl _)⟩
  · go_simp
    have Ka : Kept (fun b => ablk oA = some b) V.drew (V.drew.alloc (.cells #[.int .i64 (z : Int)] 3)) := Kept.of_below ((Below.refl _ _).alloc (Nat.le_refl _) _) (Nat.le_refl _)
    have D2 := Lib.hid (del_any 80 (.inl rfl) (hOzH.out (V.drew.alloc (.cells #[.int .i64 (z : Int)] 3)) ((HC.out.drewN 1).below ((Below.refl V.drew.heap.size V.drew).alloc (Nat.le_refl _) _) (Nat.le_refl _))) (B := gb) (z := (z : Int)) (hX5 _ Ka).2 HNeo.out.2)
    have hg8 : (V.drew.alloc (.cells #[.int .i64 (z : Int)] 3)).cell? ⟨V.heap.size, 0, none⟩ = some (.int .i64 (z : Int)) := (Blk.new V.drew 3 [.int .i64 (z : Int)]).cell 0
    have hl8 : V.heap.size < (V.drew.alloc (.cells #[.int .i64 (z : Int)] 3)).heap.size := (Blk.new V.drew 3 [.int .i64 (z : Int)]).lt
    have hn8 : ablk oA ≠ some V.heap.size := fun e => by have := ((hOzH.out V HC.out).blk e).2; omega
    obtain ⟨g8, hg8e⟩ : ∃ g, g = V.heap.size := ⟨_, rfl⟩
    obtain ⟨w7, hw7⟩ : ∃ x, x = V.drew.alloc (.cells #[.int .i64 (z : Int)] 3) := ⟨_, rfl⟩
    rw [← hw7] at Ka D2 hg8 hl8
    rw [← hg8e] at hg8 hl8 hn8
    (try rw [show (V.alloc (.cells #[.int .i64 (z : Int)] 3)).drew = w7 from hw7.symm])
    (try rw [← hw7])
    rw [← hg8e]
    clear hw7 hg8e
    refine hK.out _ _ ?_ (fun hHeld => ?_)
    · exact hX5 w7 Ka
    clear hK KK
    (try simp only [Act.put, List.setIfInBounds_toArray, List.set_cons_zero, List.set_cons_succ])
    refine wpAnyH_ready (rs := [6]) (by kernel_rfl) (by simp) ?_
    refine AllReadyH.cons (by simp only [List.getElem?_toArray, List.getElem?_cons_succ, List.getElem?_cons_zero]; rfl) (fun KK hK => ?_) AllReadyH.nil
    go_simp; ((with_reducible refine Calls.mono D2.out ?_); rintro e w8 ⟨rfl, ho8, K78⟩); go_wp2_with fail
    have K8 := Ka.trans K78 (fun _ _ x => x)
    replace hg8 : w8.cell? ⟨g8, 0, none⟩ = some (.int .i64 (z : Int)) := (World.cell?_of_block (a := ⟨g8, 0, none⟩) (K78.block g8 hl8 hn8)).trans hg8
    refine hK.out _ _ ?_ (fun hHeld => ?_)
    · exact hX5 w8 K8
    clear hK KK D2 Ka K78 hl8 hn8
    (try simp only [Act.put, List.setIfInBounds_toArray, List.set_cons_zero, List.set_cons_succ])
    refine wpAnyH_ready (rs := [9]) (by kernel_rfl) (by simp) ?_
    refine AllReadyH.cons (by simp only [List.getElem?_toArray, List.getElem?_cons_succ, List.getElem?_cons_zero]; rfl) (fun KK hK => ?_) AllReadyH.nil
    refine step_app3 rfl (.tmp 10) (.tmp 12) rfl rfl rfl ho8 (Nat.le_trans (by have := (HC.out.foot_base kg (.inr (.inl (.inl HKg.out)))); exact Nat.le_of_lt (Nat.lt_of_le_of_lt this.1 this.2)) K8.size) hg8 (Nat.le_trans (List.length_filter_le _ _) (by have := HO.out; omega)) ?_
    intro A9 c9 w9 ho9 hg9 hA9
    have K9 : Kept (fun b => ablk oA = some b) V.drew w9 := K8.trans (Kept.of_grown (F := fun b => ablk oA = some b) hg9 (fun b e => e)) (fun _ _ x => x)
    refine hK.out _ _ ?_ (fun hHeld => ?_)
    · exact hX5 w9 K9
    clear hK KK
    (try simp only [Act.put, List.setIfInBounds_toArray, List.set_cons_zero, List.set_cons_succ])
    refine wpAnyH_take (i := 10) (v := ?_) (by simp only [List.getElem?_toArray, List.getElem?_cons_succ, List.getElem?_cons_zero]; rfl) (by kernel_rfl) (by kernel_rfl) (by kernel_rfl) (fun _ _ _ h => h) (Or.inl ⟨by rfl, ?_⟩) hHeld ?_
    rotate_left
    · intro wz hSw; (try dsimp only at hSw); go_simp; try with_reducible rfl
    (try simp only [Act.put, List.setIfInBounds_toArray, List.set_cons_zero, List.set_cons_succ])
    refine wpAnyH_take (i := 11) (v := ?_) (by simp only [List.getElem?_toArray, List.getElem?_cons_succ, List.getElem?_cons_zero]; rfl) (by kernel_rfl) (by kernel_rfl) (by kernel_rfl) (fun _ _ _ h => h) (Or.inl ⟨by rfl, ?_⟩) hHeld ?_
    rotate_left
    · intro wz hSw; (try dsimp only at hSw); go_simp; try with_reducible rfl
    (try simp only [Act.put, List.setIfInBounds_toArray, List.set_cons_zero, List.set_cons_succ])
    have b9 : Blk w9 kg 81 [.pointer (some ⟨d.g, 0, none⟩), .int .i64 (s.room : Int), .map (some k.B), .map (some k.D), .slice k.oA s.order.length k.oc] := by rw [HKg.out]; exact K9.blk (HC.out.drewN 1).ck.blk (fun e => HNeo.out.1 (by rw [HKg.out]; exact e))
    have b9c := b9.cells
    have b9f := b9.frees
    refine wpAnyH_done (by kernel_rfl) ?_ _
    simp only [lastQ]
    go_simp
    have hCd : CCh w V.drew base d d k k t s := HCh.out.below (Below.refl V.heap.size V).drew (Nat.le_refl _)
    have h9 := hCd.cd.setO_ (by rw [← hoH.out]; exact K9) ho9 (by rw [← hoH.out]; rcases hA9 with x | ⟨g, x, y⟩; exact .inl x; exact .inr ⟨g, x, Nat.le_trans K8.size y⟩)
    rw [← HKg.out] at h9
    have hC9 := hCd.trans h9
    clear b9c b9f
    go_wp2
    refine wp_world (fun W => ∃ k1, CCh w W base d d k k1 t (askC s z) ∧ kg = k1.g) ⟨_, hC9, rfl⟩ ?_
    clear hC9 h9 hCd b9 K9 ho9 hg9 hA9 ho8 hg8 K8 hHeld D HCh HC HBx hX5 HNeo HNf HKb hS0 hOzH hoH
    rintro W1 ⟨k1, hC1, hk1⟩
    obtain ⟨T, hT⟩ : ∃ T, T = askedC s z := ⟨_, rfl⟩
    have HT := Lib.hid hT
    have HC1 := Lib.hid hC1
    have HK1 := Lib.hid hk1
    clear hT hC1 hk1
    go_loopg [16] (askC s z).order.length (fun gg _ wr => ∃ (k2 : Cw) (s2 : Ca), CCh w wr base d d k k2 t s2 ∧ kg = k2.g ∧ gg = s2.order.length ∧ trimC s2.order.length s2 = T ∧ s2.room = s.room ∧ ∀ x ∈ s2.order, x < t.n)
    case atStart => exact ⟨k1, askC s z, HC1.out, HK1.out, rfl, HT.out.symm, rfl, fun x hx => by
      rcases List.mem_append.1 (show x ∈ outN s.order (z : Int) ++ [z] from hx) with y | y
      · exact HIn.out x (List.mem_filter.1 y).1
      · rw [List.mem_singleton] at y; rw [y]; exact HZ.out⟩
    case round =>
      clear HC1 HK1
      obtain ⟨k2, s2, hC2, hk2, hgg, hT2, hrm, hin2⟩ := hrel
      have c4 : wr.cell? ⟨kg, 4, none⟩ = some (.slice k2.oA s2.order.length k2.oc) := by rw [hk2]; exact hC2.cd.ck.blk.cell 4
      have c1 : wr.cell? ⟨kg, 1, none⟩ = some (.int .i64 (s2.room : Int)) := by rw [hk2]; exact hC2.cd.ck.blk.cell 1
      have HC2 := Lib.hid hC2
      have HK2 := Lib.hid hk2
      have HT2 := Lib.hid hT2
      have HGg := Lib.hid hgg
      have HRm2 := Lib.hid hrm
      have HIn2 := Lib.hid hin2
      clear hC2 hk2 hT2 hgg hrm hin2
      by_cases hlt : s2.room < s2.order.length
      · have hltI : (s2.room : Int) < (s2.order.length : Int) := by omega
        have hltD : decide (s2.room < s2.order.length) = true := decide_eq_true hlt
        go_wp2
        go_quiet (fail)
        go_upto_region 3 with fail
        refine wp_world (fun U => CCh w U base d d k k2 t s2) (HC2.out.below (below_drewN (Below.refl _ _) _) (Nat.le_refl _)) ?_
        clear c4 c1 hltI hltD
        rintro U hC3
        obtain ⟨x, r, hxr⟩ : ∃ x r, s2.order = x :: r := by
          cases e : s2.order with
          | nil => rw [e] at hlt; exact absurd hlt (by simp)
          | cons x r => exact ⟨x, r, rfl⟩
        have hrl : s2.order.length = r.length + 1 := by rw [hxr]; rfl
        have hr1 : 1 ≤ r.length := by have := HRm.out; have := HRm2.out; omega
        have hxn : x < t.n := HIn2.out x (by rw [hxr]; exact List.mem_cons_self)
        have hoz := hC3.cd.ck.ord
        obtain ⟨g, o, hA, hbl, hgl, hnc, hcm⟩ := hoz.at_ (by omega)
        rw [hA] at hoz
        have ce : U.cell? ⟨g, o, none⟩ = some (.int .i64 (x : Int)) := by have := hoz.cell 0 (by omega); rw [hxr] at this; exact this
        have c4 : U.cell? ⟨kg, 4, none⟩ = some (.slice (some ⟨g, o, none⟩) (r.length + 1) k2.oc) := by rw [HK2.out, ← hA, ← hrl]; exact hC3.cd.ck.blk.cell 4
        have c2 : U.cell? ⟨kg, 2, none⟩ = some (.map (some k2.B)) := by rw [HK2.out]; exact hC3.cd.ck.blk.cell 2
        have hC3d := hC3.below (Below.refl U.heap.size U).drew (Nat.le_refl _)
        have HC3 := Lib.hid hC3d
        have HXr := Lib.hid hxr
        have HLt := Lib.hid hlt
        have HXn := Lib.hid hxn
        clear hC3 hC3d hoz hA hbl hgl hnc hcm hxr hrl hlt hxn HC2
        go_still_tail 10, (by kernel_rfl)
        change wpList _ _ _ _ _ U.drew
        clear ce c4 c2
        refine wpList_mdel rfl (.tmp 29) (.tmp 35) 79 rfl Try.underlying79 rfl rfl HC3.out.cd.ck.bm hn (by have := HXn.out; omega) ?_
        intro w4 hm4 hg4
        obtain ⟨k4, h4⟩ := HC3.out.cd.delB_ hm4 hg4
        have hC4 := HC3.out.trans h4
        have hk4 : kg = k4.g := by rw [HK2.out]; exact h4.gk.symm
        have hoz : Oz w4 base k4.oA (r.length + 1) k4.oc (x :: r) := by have := hC4.cd.ck.ord; rw [show (delB s2 (x : Int)).order = x :: r from HXr.out] at this; exact this
        obtain ⟨g4, o4, hA4, hbl4, hgl4, hnc4, hcm4⟩ := hoz.at_ (by omega)
        have c4 : w4.cell? ⟨kg, 4, none⟩ = some (.slice (some ⟨g4, o4, none⟩) (r.length + 1) k4.oc) := by rw [hk4, ← hA4]; have := hC4.cd.ck.blk.cell 4; rw [show (delB s2 (x : Int)).order = x :: r from HXr.out] at this; exact this
        have f4 : w4.frozen? ⟨kg, 4, none⟩ = false := by rw [hk4]; exact hC4.cd.ck.blk.frozen 4
        obtain ⟨oc4, hoc4⟩ : ∃ y, y = k4.oc := ⟨_, rfl⟩
        rw [← hoc4] at c4 hnc4 hcm4 hoz
        have hoc1 : 1 < oc4 := by omega
        have hocI : (1 : Int) < (oc4 : Int) := by omega
        have hocn : ¬ oc4 = 1 := by omega
        rw [hA4] at hoz
        have HOz := Lib.hid hoz.tail
        have HC4 := Lib.hid hC4
        have HK4 := Lib.hid hk4
        have HA4 := Lib.hid hA4
        clear hm4 hg4 h4 hC4 hk4 hoz hA4 hbl4 hgl4 hnc4 hcm4 hoc4 HC3
        go_wp2
        have h5 := HC4.out.cd.setO_ (Kept.refl _ _) HOz.out (.inl (by rw [HA4.out]; rfl))
        rw [← HK4.out] at h5
        have hC5 := HC4.out.trans h5
        have hT5 : trimC r.length (setO (delB s2 (x : Int)) r) = T := by rw [← trim_step HXr.out HLt.out]; exact HT2.out
        have hin5 : ∀ y ∈ r, y < t.n := fun y hy => HIn2.out y (by rw [HXr.out]; exact List.mem_cons_of_mem _ hy)
        go_roundg r.length
        case measure => rw [HGg.out, HXr.out]; exact Nat.lt_succ_self _
        case rel => exact ⟨_, setO (delB s2 (x : Int)) r, hC5, rfl, rfl, hT5, HRm2.out, hin5⟩
      · have hltI : ¬ (s2.room : Int) < (s2.order.length : Int) := by omega
        have hltD : decide (s2.room < s2.order.length) = false := decide_eq_false hlt
        go_wp2
        go_quiet (fail)
        go_wp2
        go_end0
        have hd : s2 = T := by rw [← HT2.out]; exact (trim_done hlt _).symm
        exact ⟨rfl, k2, by rw [← HT.out, ← hd]; exact HC2.out.below (below_drewN (Below.refl _ _) _) (Nat.le_refl _)⟩
end Go.Proofs.Ytdakohbfibcjeaa
