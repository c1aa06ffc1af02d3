/- The cache's Clean, Dirty, Get, Put. No condition beyond what is always so of a cache. -/
import Derived.Test.YtjndopmjlbhajaaCaP
namespace Go.Proofs.Ytjndopmjlbhajaa
open Go.RowKit Go.Maps Go.Sort Go.Shelf Go.Proofs
set_option linter.unusedSimpArgs false
set_option linter.unusedVariables false

theorem clean_any {w : World} {base : Nat} {d : Dw} {k : Cw} {t : Dsk} {s : Ca} (h : CD w base d k t s) (ho : s.order.length ≤ 1000000) :
    Calls Try.prog 21 #[.pointer (some ⟨k.g, 0, none⟩)] w fun e w' => ∃ A c, e = .returned (.slice A s.order.length c) ∧ Own w' w.heap.size 3 1 A s.order.length c (iv s.order) ∧ Below w.heap.size w w' := by
  have C := Lib.hid (iclone_any h.ck.ord ho)
  have c4 : w.cell? ⟨k.g, 4, none⟩ = some (.slice k.oA s.order.length k.oc) := h.ck.blk.cell 4
  obtain ⟨kg, hkg⟩ : ∃ z, z = k.g := ⟨_, rfl⟩
  rw [← hkg] at c4 ⊢
  clear h ho hkg
  go_enter Try.func21, Try.ntmps21
  go_wp2_with ((with_reducible refine Calls.mono C.out ?_); rintro e w1 ⟨A1, c1, rfl, ho1, hb1⟩)
  go_ret
  exact ⟨A1, c1, rfl, ho1, hb1⟩

/-- the dirty ones, ascending -/
def dirtyN (N : Nat) (s : Ca) : List Nat := (List.range N).filter s.dirty
theorem mem_dirtyN {N k : Nat} {s : Ca} : k ∈ dirtyN N s ↔ k < N ∧ s.dirty k = true := by unfold dirtyN; rw [List.mem_filter, List.mem_range]
theorem dirtyN_asc (N : Nat) (s : Ca) : (dirtyN N s).Pairwise (· < ·) := (List.pairwise_lt_range).filter _
theorem dirtyN_ints (N : Nat) (s : Ca) : ((dirtyN N s).map fun k : Nat => (k : Int)).mergeSort leI = (dirtyN N s).map fun k : Nat => (k : Int) := by
  refine List.mergeSort_of_pairwise ?_
  rw [List.pairwise_map]
  refine (dirtyN_asc N s).imp fun {a b} h => ?_
  simp only [leI, decide_eq_true_eq]
  omega
theorem keysOf {w : World} {M N : Nat} {s : Ca} (h : Mp w M N (drM s)) (hN : N ≤ 4096) : ∃ D : DataW Value, w.ownsMap Try.prog 3 RV M N D ∧ ((dirtyN N s).map fun k : Nat => (k : Int)).Perm (intKeys D) ∧ size D ≤ N := by
  obtain ⟨D, h1, h2, h3, h4⟩ := h
  obtain ⟨es0, he, hp, hkey⟩ := h1.entries law3
  have hk : ∀ p ∈ es0, ∃ j, j < N ∧ p.1 = kl j := fun p hm => h4 p.1 (by rw [he]; exact List.any_eq_true.2 ⟨p, hm, WideAt.sameKey_self (hkey p hm)⟩)
  have hd : ∀ k, k < N → has D (kl k) = s.dirty k := fun k hk => by
    rw [h3 k hk]; unfold drM; cases s.dirty k <;> rfl
  refine ⟨D, h1, ?_, by rw [he, size_eq]; exact keys_le N es0 (by omega) hp hk⟩
  have hp2 := perm_intKeys (es := es0) hp (fun p hm => by obtain ⟨j, _, e⟩ := hk p hm; exact ⟨(j : Int), e⟩) (ss := (dirtyN N s).map fun k : Nat => (k : Int)) ?_ ?_
  · rw [he]; exact hp2
  · refine List.pairwise_map.2 ((dirtyN_asc N s).imp fun {a b} h => ?_)
    omega
  · intro x
    rw [List.mem_map, ← he]
    constructor
    · rintro ⟨k, hk, rfl⟩
      obtain ⟨h1, h2⟩ := mem_dirtyN.1 hk
      show has D (kl k) = true
      rw [hd k h1]; exact h2
    · intro hx
      obtain ⟨j, hj, e⟩ := h4 _ hx
      have e2 := e
      injection e2 with _ e2
      refine ⟨j, mem_dirtyN.2 ⟨hj, ?_⟩, e2.symm⟩
      rw [← hd j hj, ← e]; exact hx

set_option maxHeartbeats 1000000 in
theorem cdirty_any {w : World} {base : Nat} {d : Dw} {k : Cw} {t : Dsk} {s : Ca} (h : CD w base d k t s) :
    Calls Try.prog 19 #[.pointer (some ⟨k.g, 0, none⟩)] w fun e w' => ∃ A c, e = .returned (.slice A (dirtyN t.n s).length c) ∧ Own w' w.heap.size 3 1 A (dirtyN t.n s).length c (iv (dirtyN t.n s)) ∧ Below w.heap.size w w' := by
  refine (callsIn_wide (n := 6)).1 ?_
  have c3 : w.cell? ⟨k.g, 3, none⟩ = some (.map (some k.D)) := h.ck.blk.cell 3
  have hsm := h.dk.small
  obtain ⟨D, hown, hperm, hsz⟩ := keysOf h.ck.dm hsm.2
  have hbl := hown.lt
  have hseq : SeqGives Fence.wide 2 Try.prog 65 #[.pointer (some ⟨w.heap.size, 0, none⟩)] encZ (fun ss => ss.Perm (intKeys D)) (Maps.size D) (w.alloc (.cells #[.map (some k.D)] 66)) :=
    AnyZI.keys_gives (ρ := keysB_ren) { keysB with } Fence.wide _ trivial rfl (by omega) w.heap.size k.D t.n D _ (by simp) (by simp) (by
      obtain ⟨es, clock, hb, Ft, hs, hD⟩ := hown
      exact ⟨es, clock, (Below.heap_alloc _ _ k.D hbl).trans hb, Ft, hs, hD⟩)
  have cK : ∀ mb W, CallsIn Fence.wide 5 Try.prog 40 #[.map mb] W fun e w' => e = .returned (.func (.func 65) #[] #[.pointer (some ⟨W.heap.size, 0, none⟩)]) ∧ w' = W.alloc (.cells #[.map mb] 66) := fun mb W => AnyZI.keys_in keysB Fence.wide 5 trivial rfl mb W
  have cS := AnyZI.sorted_in sortedA Fence.wide 5 trivial trivial trivial trivial rfl (by omega) (sortsA _) (enters_of Try.func63 (by kernel_rfl) rfl) 65 #[.pointer (some ⟨w.heap.size, 0, none⟩)] trivial (enters_of Try.func65 (by kernel_rfl) rfl) _ _ (by unfold maxLen; omega) (by omega) _ hseq
  change CallsIn _ _ Try.prog 38 _ _ _ at cS
  have HP := Lib.hid hperm
  obtain ⟨kg, hkg⟩ : ∃ z, z = k.g := ⟨_, rfl⟩
  rw [← hkg] at c3 ⊢
  obtain ⟨L, hL⟩ : ∃ L, L = dirtyN t.n s := ⟨_, rfl⟩
  have HL := Lib.hid hL
  clear hperm hown hseq h hsz hkg
  have hfK : Fence.wide.fn 40 := trivial
  have hfS : Fence.wide.fn 38 := trivial
  rw [← hL]
  clear hL
  refine callsIn_of_wp Try.func19 rfl trivial ?_ rfl
  simp only [Try.ntmps19, List.size_toArray, List.length_cons, List.length_nil, Nat.reduceAdd, Nat.reduceSub, Array.replicate_succ, Array.replicate_zero, List.push_toArray, List.append_toArray, List.nil_append, List.cons_append]
  gi_wp2_with (first
    | (gi_at_call 40; refine (cK _ _).mono ?_; rintro e w' ⟨rfl, rfl⟩)
    | (gi_at_call 38; refine cS.mono ?_; rintro e w' ⟨v, ss, rfl, hS, hrow, hnil, hb⟩))
  go_ret
  have hs2 : ss.mergeSort leI = L.map fun k : Nat => (k : Int) := by rw [HL.out, mergeSort_of_perm_i (hS.trans HP.out.symm), dirtyN_ints]
  have hlen : ss.length = L.length := by rw [← List.length_mergeSort (le := leI), hs2, List.length_map]
  rw [hs2, encZ_iv, hlen] at hrow
  have hv : ∃ A c, v = .slice A L.length c := by
    rcases hrow.2 with ⟨h1, h0⟩ | ⟨g, cap, cur, h1, _⟩
    · exact ⟨none, 0, by rw [h1, h0]⟩
    · exact ⟨_, _, h1⟩
  obtain ⟨A, c, rfl⟩ := hv
  exact ⟨A, c, rfl, ownsRow_base_a hrow (by simp), ((Below.refl _ w).alloc (Nat.le_refl _) _).trans (hb.mono (by simp))⟩

theorem CCh.poke {w w' w2 : World} {base : Nat} {d d' : Dw} {k k' : Cw} {t' : Dsk} {s' : Ca} (h : CCh w w' base d d' k k' t' s') {g : Nat} (K : Kept (fun b => b = g) w' w2) (hg : ¬ footC d' k' g) (hn : w.heap.size ≤ g) : CCh w w2 base d d' k k' t' s' :=
  ⟨h.cd.kept K (fun b hb e => hg (by rw [← e]; exact hb)), h.gd, h.gk, h.K.trans K (fun b hb x => by omega), h.hard, h.foot⟩
theorem kept_set (w : World) (g i : Nat) (v : Value) : Kept (fun b => b = g) w (w.setCell ⟨g, i, none⟩ v) := ⟨rfl, rfl, rfl, by simp, fun b _ hne => Below.heap_setCell w _ _ b (fun e => hne e)⟩
/-- the block told: its bytes lie in memory of their own -/
def CGet (w : World) (base : Nat) (d : Dw) (k : Cw) (t : Dsk) (r : Nat × Bk × Ca) (e : Ending) (w' : World) : Prop :=
  ∃ k' A c, e = .returned (.tuple #[.agg #[.int .i64 (r.2.1.k : Int), .slice A r.2.1.b.length c], .int .i64 (r.1 : Int)]) ∧ CCh w w' base d d k k' t r.2.2 ∧ Own w' w.heap.size 5 1 A r.2.1.b.length c (bvs r.2.1.b) ∧ ∀ b, ablk A = some b → ¬ footC d k' b
set_option maxRecDepth 100000 in
set_option maxHeartbeats 8000000 in
theorem get_any_c {w : World} {base : Nat} {d : Dw} {k : Cw} {t : Dsk} {s : Ca} (h : CD w base d k t s) (ok : CaOk t.n s) {z : Int} :
    Calls Try.prog 13 #[.pointer (some ⟨k.g, 0, none⟩), .int .i64 z] w (CGet w base d k t (getC t s z)) := by
  have hz := zeroBk
  have hz2 := zeroUn
  have H := Lib.hid h
  have HOk := Lib.hid ok
  have hn4 : t.n ≤ 4096 := h.dk.small.2
  obtain ⟨kg, hkg⟩ : ∃ x, x = k.g := ⟨_, rfl⟩
  have HKg := Lib.hid hkg
  rw [← hkg]
  clear h ok hkg
  go_enter Try.func13, Try.ntmps13
  go_upto_region 1 with fail
  obtain ⟨g4, hg4⟩ : ∃ g, g = w.heap.size := ⟨_, rfl⟩
  have hal : Below w.heap.size w (w.alloc (.cells #[.int .i64 0, .slice none 0 0] 33)) := (Below.refl _ _).alloc (Nat.le_refl _) _
  have hnf : ¬ footC d k g4 := fun x => by have := (H.out.foot_base g4 x).2; omega
  rw [← hg4]
  refine wp_world (fun V => CCh w V base d d k k t s ∧ Blk V g4 33 [.int .i64 0, .slice none 0 0] ∧ g4 < V.heap.size) ⟨(CCh.init H.out).below hal (Nat.le_refl _), Blk.new_at (cs := [.int .i64 0, .slice none 0 0]) hg4, by rw [hg4]; simp⟩ ?_
  clear hal
  rintro V ⟨hC, hB4, hl4⟩
  have HNf := Lib.hid hnf
  have HG4 := Lib.hid hg4
  have HC := Lib.hid hC
  have HB4 := Lib.hid hB4
  have HL4 := Lib.hid hl4
  clear hC hB4 hl4 hnf hg4
  by_cases hin : 50 ≤ z ∧ z < (t.n : Int)
  rotate_left
  · have T0 := there_b HC.out.cd (n := z) (decide_eq_false hin)
    rw [← HKg.out] at T0
    have T := Lib.hid T0
    have hgc : getC t s z = (2, nilB, s) := if_neg hin
    have HGc := Lib.hid hgc
    have b4c := HB4.out.cells
    have b4f := HB4.out.frees
    clear T0 hgc hin
    go_wp2_with ((with_reducible refine Calls.mono T.out ?_); rintro e w1 ⟨rfl, rfl⟩)
    refine bodyPost_ret (results_blk rfl rfl rfl ((HB4.out.set_ 0 _).set_ 1 _)) rfl ?_
    rw [HGc.out]
    have hs4 : w.heap.size ≤ g4 := by rw [HG4.out]; omega
    refine ⟨k, none, 0, rfl, ?_, Own.nil_ _ _ _ _, fun b e => (by cases e)⟩
    have hK : ∀ (i : Nat) (v : Value) (W : World), CCh w W base d d k k t s → CCh w (W.setCell ⟨g4, i, none⟩ v) base d d k k t s := fun i v W hc => hc.poke (kept_set W g4 i v) HNf.out hs4
    exact hK _ _ _ (hK _ _ _ HC.out)
  · obtain ⟨n, rfl⟩ : ∃ n : Nat, z = (n : Int) := ⟨z.toNat, by omega⟩
    have hnl : n < t.n := by omega
    have T0 := there_b HC.out.cd (n := (n : Int)) (decide_eq_true hin)
    rw [← HKg.out] at T0
    have T := Lib.hid T0
    have HIn := Lib.hid hin
    clear T0 hin
    have c2 : V.cell? ⟨kg, 2, none⟩ = some (.map (some k.B)) := by rw [HKg.out]; exact HC.out.cd.ck.blk.cell 2
    have hlk0 := HC.out.cd.ck.bm.look_ok hn4 hnl Try.underlying65 zeroBk (w' := V) rfl
    cases hbn : s.blocks n with
    | some x =>
      have hlk : (Instr.lookup 65 (.map (some k.B)) (.int .i64 (n : Int)) true).run Try.prog V = .ok (.tuple #[.agg #[.int .i64 (x.k : Int), .slice (k.v n).A x.b.length (k.v n).c], .bool true]) V := by
        rw [hlk0]; unfold bkM; rw [hbn]; rfl
      have hbd := HC.out.cd.ck.bod n x hbn
      have hx4 := HOk.out.blk n x hbn
      have hgc : getC t s (n : Int) = (0, x, if s.dirty n then s else askedC s n) := by
        unfold getC
        rw [if_pos HIn.out]
        show (match s.blocks n with | some x => _ | none => _) = _
        rw [hbn]
        rfl
      have hask : s.dirty n = false → AskOk t.n s n := fun hd => HOk.out.ask (by rw [hbn]; rfl) hd
      obtain ⟨A, hA⟩ : ∃ A, A = (k.v n).A := ⟨_, rfl⟩
      obtain ⟨c, hc⟩ : ∃ c, c = (k.v n).c := ⟨_, rfl⟩
      rw [← hA, ← hc] at hlk hbd
      have hoff : 0 < x.b.length → ∀ b, ablk A = some b → ¬ hardC d k b := fun hm b e y => by
        have hby : k.body b := ⟨n, by rw [hbd.2]; exact hm, by rw [← hA]; exact e⟩
        rcases y with y | y
        · exact (HC.out.cd.ap b y).2 hby
        · exact HC.out.cd.ck.bodb b hby y
      have HRes := Lib.hid hgc
      have HAsk := Lib.hid hask
      have HOff := Lib.hid hoff
      have HBd := Lib.hid hbd.1
      have HX4 := Lib.hid hx4
      clear hlk0 hbn hbd hx4 hgc hask hA hc hoff
      go_upto_region 11 with ((with_reducible refine Calls.mono T.out ?_); rintro e w1 ⟨rfl, rfl⟩)
      obtain ⟨g6, hg6⟩ : ∃ g, g = V.heap.size := ⟨_, rfl⟩
      have hal : Below V.heap.size V (V.alloc (.cells #[.int .i64 (x.k : Int), .slice A x.b.length c] 33)) := (Below.refl _ _).alloc (Nat.le_refl _) _
      have hn6 : ¬ footC d k g6 := fun y => by have := (HC.out.cd.foot_base g6 y).2; omega
      have hg46 : g4 ≠ g6 := by have := HL4.out; omega
      have hg4g : w.heap.size ≤ g4 ∧ w.heap.size ≤ g6 := by have := HG4.out; have := HL4.out; omega
      rw [← hg6]
      refine wp_world (fun U => CCh w U base d d k k t s ∧ Blk U g4 33 [.int .i64 0, .slice none 0 0] ∧ Blk U g6 33 [.int .i64 (x.k : Int), .slice A x.b.length c] ∧ Bs U base A x.b.length c x.b) ⟨HC.out.below hal (Nat.le_refl _), HB4.out.below hal HB4.out.lt, Blk.new_at (cs := [.int .i64 (x.k : Int), .slice A x.b.length c]) hg6, HBd.out.below hal (Nat.le_refl _)⟩ ?_
      clear hal hlk c2
      rintro U ⟨hC1, hB4, hB6, hBs⟩
      obtain ⟨k1, hk1⟩ : ∃ k1, k1 = k := ⟨_, rfl⟩
      obtain ⟨s1, hs1⟩ : ∃ s1, s1 = s := ⟨_, rfl⟩
      have hK1 : kg = k1.g := by rw [hk1]; exact HKg.out
      have hF4 := HNf.out
      have hgc2 : getC t s (n : Int) = (0, x, if s1.dirty n then s1 else askedC s1 n) := by rw [hs1]; exact HRes.out
      rw [← hs1] at HAsk hC1
      replace HRes := Lib.hid hgc2
      clear hgc2
      have HC1 : Hid (CCh w U base d d k k1 t s1) := Lib.hid (by rw [hk1]; exact hC1)
      have HN4 : Hid (¬ footC d k1 g4) := Lib.hid (by rw [hk1]; exact hF4)
      have HN6 : Hid (¬ footC d k1 g6) := Lib.hid (by rw [hk1]; exact hn6)
      have HOf : Hid (0 < x.b.length → ∀ b, ablk A = some b → ¬ hardC d k1 b) := Lib.hid (by rw [hk1]; exact HOff.out)
      have HK1 := Lib.hid hK1
      have H46 := Lib.hid hg46
      have HGg := Lib.hid hg4g
      replace HB4 := Lib.hid hB4
      have HB6 := Lib.hid hB6
      have HBs := Lib.hid hBs
      clear hk1 hs1 hK1 hF4 hn6 hg46 hg4g hC1 hB4 hB6 hBs hg6 HOff HBd HC HKg HNf T HOk H HIn
      have c3 : U.cell? ⟨kg, 3, none⟩ = some (.map (some k1.D)) := by rw [HK1.out]; exact HC1.out.cd.ck.blk.cell 3
      have hlk : (Instr.lookup 66 (.map (some k1.D)) (.int .i64 (n : Int)) true).run Try.prog U = .ok (.tuple #[.agg #[], .bool (s1.dirty n)]) U := by
        have := HC1.out.cd.ck.dm.look_ok hn4 hnl Try.underlying66 zeroUn rfl
        rw [this]
        have e1 : (drM s1 n).getD (.agg #[]) = .agg #[] := by unfold drM; split <;> rfl
        have e2 : (drM s1 n).isSome = s1.dirty n := by unfold drM; cases s1.dirty n <;> rfl
        rw [e1, e2]
      obtain ⟨dd, hdd⟩ : ∃ b, b = s1.dirty n := ⟨_, rfl⟩
      rw [← hdd] at hlk
      have HDd := Lib.hid hdd
      clear hdd
      have HLk := Lib.hid hlk
      have hal : Below U.heap.size U (U.alloc (.cells #[] 71)) := (Below.refl _ _).alloc (Nat.le_refl _) _
      have HAl := Lib.hid hal
      clear hal
      cases dd
      · have HAk := Lib.hid (HAsk.out HDd.out.symm)
        go_upto_region 13 with fail
        refine wp_world (fun W => CCh w W base d d k k1 t s1 ∧ Blk W g4 33 [.int .i64 0, .slice none 0 0] ∧ Blk W g6 33 [.int .i64 (x.k : Int), .slice A x.b.length c] ∧ Bs W base A x.b.length c x.b) ⟨HC1.out.below HAl.out (Nat.le_refl _), HB4.out.below HAl.out HB4.out.lt, HB6.out.below HAl.out HB6.out.lt, HBs.out.below HAl.out (Nat.le_refl _)⟩ ?_
        clear c3 hlk HB4 HB6 HBs HC1 HAl HLk
        rintro W ⟨hC2, hB4, hB6, hBs⟩
        have A0 := asked_any hC2.cd (z := n) hnl (by have := HAk.out.len; have := HAk.out.room; omega) (fun y hy => HAk.out.inN hy) HAk.out.room
        rw [← HK1.out] at A0
        have AA := Lib.hid A0
        have HC2 := Lib.hid hC2
        have HB4 := Lib.hid hB4
        have HB6 := Lib.hid hB6
        have HBs := Lib.hid hBs
        clear A0 hC2 hB4 hB6 hBs
        go_upto_region 14 with ((with_reducible refine Calls.mono AA.out ?_); rintro e w3 ⟨rfl, k3, hC3⟩)
        have hs3 := HC2.out.K.size
        have b4 := hC3.K.blk HB4.out (fun y => HN4.out (hard_foot y))
        have b6 := hC3.K.blk HB6.out (fun y => HN6.out (hard_foot y))
        have bs3 := HBs.out.kept hC3.K (fun hm b e => HOf.out hm b e)
        have n4 : ¬ footC d k3 g4 := hC3.away HN4.out HB4.out.lt
        have hCw := HC2.out.trans hC3
        have hfin : getC t s (n : Int) = (0, x, askedC s1 n) := by rw [HRes.out, if_neg (by rw [← HDd.out]; decide)]
        have HFin := Lib.hid hfin
        clear hfin hC3 AA HC2 HB4 HB6 HBs hs3
        have O := Lib.hid (own_any (kd := (x.k : Int)) bs3 (by have := HX4.out; omega))
        have b6c := b6.cells
        have HBB := Lib.hid b4
        have HCw := Lib.hid hCw
        have HN := Lib.hid n4
        clear b4 b6 bs3 hCw n4
        go_wp2_with ((with_reducible refine Calls.mono O.out ?_); rintro e w5 ⟨A5, c5, rfl, ho5, hb5⟩; have b4 := HBB.out.below hb5 HBB.out.lt; have b4c := b4.cells; have b4f := b4.frees)
        refine bodyPost_ret (results_blk rfl rfl rfl ((b4.set_ 0 _).set_ 1 _)) rfl ?_
        rw [HFin.out]
        have hl4 := HBB.out.lt
        have hg4 := HGg.out.1
        have hsz := HCw.out.K.size
        refine ⟨k3, A5, c5, rfl, ?_, ((ho5.far (show g4 < w3.heap.size from hl4) _).far (show g4 < w3.heap.size from hl4) _).weak hsz, fun b e y => ?_⟩
        · exact ((HCw.out.below hb5 (Nat.le_refl _)).poke (kept_set _ g4 0 _) HN.out hg4).poke (kept_set _ g4 1 _) HN.out hg4
        · have h1 := (ho5.blk e).1
          have h2 := (HCw.out.cd.foot_base b y).2
          omega
      · go_upto_region 14 with fail
        have hCw := HC1.out.below HAl.out (Nat.le_refl _)
        have b4 := HB4.out.below HAl.out HB4.out.lt
        have b6 := HB6.out.below HAl.out HB6.out.lt
        have bs3 := HBs.out.below HAl.out (Nat.le_refl _)
        have n4 := HN4.out
        obtain ⟨k3, hk3⟩ : ∃ z, z = k1 := ⟨_, rfl⟩
        rw [← hk3] at hCw n4
        have hfin : getC t s (n : Int) = (0, x, s1) := by rw [HRes.out, if_pos HDd.out.symm]
        have HFin := Lib.hid hfin
        refine wp_world (fun W => CCh w W base d d k k3 t s1 ∧ Blk W g4 33 [.int .i64 0, .slice none 0 0] ∧ Blk W g6 33 [.int .i64 (x.k : Int), .slice A x.b.length c] ∧ Bs W base A x.b.length c x.b) ⟨hCw, b4, b6, bs3⟩ ?_
        clear hfin c3 hlk HB4 HB6 HBs HC1 HAl HLk hCw b4 b6 bs3 hk3
        rintro w3 ⟨hCw, b4, b6, bs3⟩
        have O := Lib.hid (own_any (kd := (x.k : Int)) bs3 (by have := HX4.out; omega))
        have b6c := b6.cells
        have HBB := Lib.hid b4
        have HCw := Lib.hid hCw
        have HN := Lib.hid n4
        clear b4 b6 bs3 hCw n4
        go_wp2_with ((with_reducible refine Calls.mono O.out ?_); rintro e w5 ⟨A5, c5, rfl, ho5, hb5⟩; have b4 := HBB.out.below hb5 HBB.out.lt; have b4c := b4.cells; have b4f := b4.frees)
        refine bodyPost_ret (results_blk rfl rfl rfl ((b4.set_ 0 _).set_ 1 _)) rfl ?_
        rw [HFin.out]
        have hl4 := HBB.out.lt
        have hg4 := HGg.out.1
        have hsz := HCw.out.K.size
        refine ⟨k3, A5, c5, rfl, ?_, ((ho5.far (show g4 < w3.heap.size from hl4) _).far (show g4 < w3.heap.size from hl4) _).weak hsz, fun b e y => ?_⟩
        · exact ((HCw.out.below hb5 (Nat.le_refl _)).poke (kept_set _ g4 0 _) HN.out hg4).poke (kept_set _ g4 1 _) HN.out hg4
        · have h1 := (ho5.blk e).1
          have h2 := (HCw.out.cd.foot_base b y).2
          omega
    | none =>
      have hlk : (Instr.lookup 65 (.map (some k.B)) (.int .i64 (n : Int)) true).run Try.prog V = .ok (.tuple #[.agg #[.int .i64 0, .slice none 0 0], .bool false]) V := by
        rw [hlk0]; unfold bkM; rw [hbn]; rfl
      have HBn := Lib.hid hbn
      clear hlk0 hbn
      go_upto_region 5 with ((with_reducible refine Calls.mono T.out ?_); rintro e w1 ⟨rfl, rfl⟩)
      obtain ⟨g6, hg6⟩ : ∃ g, g = V.heap.size := ⟨_, rfl⟩
      have hal : Below V.heap.size V (V.alloc (.cells #[.int .i64 0, .slice none 0 0] 33)) := (Below.refl _ _).alloc (Nat.le_refl _) _
      have hn6 : ¬ footC d k g6 := fun y => by have := (HC.out.cd.foot_base g6 y).2; omega
      have hg46 : g4 ≠ g6 := by have := HL4.out; omega
      have hg4g : w.heap.size ≤ g4 ∧ w.heap.size ≤ g6 := by have := HG4.out; have := HL4.out; omega
      rw [← hg6]
      refine wp_world (fun U => Below V.heap.size V U ∧ Blk U g6 33 [.int .i64 0, .slice none 0 0]) ⟨hal, Blk.new_at (cs := [.int .i64 0, .slice none 0 0]) hg6⟩ ?_
      clear hal hlk c2
      rintro U0 ⟨hbV, hB6⟩
      have hcd := HC.out.cd.below hbV (Nat.le_refl _)
      have c0 : U0.cell? ⟨kg, 0, none⟩ = some (.pointer (some ⟨d.g, 0, none⟩)) := by rw [HKg.out]; exact hcd.ck.blk.cell 0
      have R := Lib.hid (dread_ok hcd.dk (k := n) hnl)
      have hll := hasD_len hcd.dk (k := n) hnl
      have HLL := Lib.hid hll
      have HbV := Lib.hid hbV
      have HB6 := Lib.hid hB6
      have HN6k := Lib.hid hn6
      have H46 := Lib.hid hg46
      have HGg := Lib.hid hg4g
      have HG6 := Lib.hid hg6
      clear hcd hll hbV hB6 hn6 hg46 hg4g hg6
      go_upto_region 7 with ((with_reducible refine Calls.mono R.out ?_); rintro e w6 ⟨gr, rfl, hx6, hg6, hb6⟩)
      have G0 := get_u (n : Int) (hx6.bs0 0 256 256 (Nat.zero_le _) (Nat.le_refl _) (by omega) HLL.out)
      obtain ⟨cd, hcd⟩ : ∃ z, z = (gBlk (n : Int) (hasD t n)).1 := ⟨_, rfl⟩
      obtain ⟨kd, hkd⟩ : ∃ z, z = (gBlk (n : Int) (hasD t n)).2.1 := ⟨_, rfl⟩
      obtain ⟨bd, hbd⟩ : ∃ z, z = (gBlk (n : Int) (hasD t n)).2.2 := ⟨_, rfl⟩
      have G1 : Calls Try.prog 32 #[.int .i64 (n : Int), .slice (some ⟨gr, 0, none⟩) 256 256] w6 fun e w' => ∃ A' c', e = .returned (.tuple #[.agg #[.int .i64 (kd : Int), .slice A' bd.length c'], .int .i64 (cd : Int)]) ∧ Bs w' w6.heap.size A' bd.length c' bd ∧ Below w6.heap.size w6 w' := by
        rw [hcd, hkd, hbd]; exact G0
      have G := Lib.hid G1
      have HCd := Lib.hid hcd
      have HKd := Lib.hid hkd
      have HBd := Lib.hid hbd
      have HB66 := Lib.hid (HB6.out.below hb6 HB6.out.lt)
      have HbV6 := Lib.hid (HbV.out.trans (hb6.mono HbV.out.size))
      clear G0 G1 hcd hkd hbd hx6 hg6 hb6 R c0 HB6 HbV
      go_upto_region 8 with (first
        | ((with_reducible refine Calls.mono G.out ?_); rintro e w8 ⟨A, c, rfl, hbs8, hb8⟩)
        | (((with_reducible refine row_put (o := ⟨none, _, _, _, _, _⟩) ?_ ?_ 33 (.tmp 6) (.tmp 42) ?_ g6 ?_ [.int .i64 (kd : Int), .slice A bd.length c] ?_ 33 [.int .i64 0, .slice none 0 0] ?_ ?_ ?_ ?_ ?_); rfl; rfl; rfl; rfl; rfl; exact HB66.out.below hb8 HB66.out.lt; (rw [sizeBk]; rfl); rfl; (intro u hu; simp at hu; rcases hu with rfl | rfl <;> rfl); (intro w9 X9 g9))))
      have hl6 := HB66.out.lt
      have hbV9 : Below V.heap.size V w9 := (HbV6.out.trans (hb8.mono HbV6.out.size)).grown g9 (Nat.le_trans HbV6.out.size hb8.size) (by intro y hy; injection hy with hy; have := HG6.out; omega)
      have hbs9 : Bs w9 w6.heap.size A bd.length c bd := hbs8.kept (F := fun b => b = g6) (Kept.of_grown g9 (fun b e => (Option.some.inj e).symm)) (fun hm b e y => by
        obtain ⟨b', o', e2, h3, _⟩ := hbs8.at_ hm
        rw [e2] at e; injection e with e; have e : b' = b := e; omega)
      have hB4 : Blk w9 g4 33 [.int .i64 0, .slice none 0 0] := HB4.out.below hbV9 HB4.out.lt
      have HbV9 := Lib.hid hbV9
      have HBs9 := Lib.hid hbs9
      have HB49 := Lib.hid hB4
      have HL6 := Lib.hid hl6
      have HX9 := X9
      clear hbs8 hb8 g9 hbV9 hbs9 hB4 hl6 X9 G HB66
      by_cases hcode : cd = 0
      rotate_left
      · have hcI : ((cd : Int) != 0) = true := by rw [bne_iff_ne]; omega
        have hgc : getC t s (n : Int) = (cd, nilB, s) := by
          unfold getC
          rw [if_pos HIn.out]
          show (match s.blocks n with | some x => _ | none => _) = _
          rw [HBn.out]
          show (if (gBlk (n : Int) (hasD t n)).1 = 0 then _ else _) = _
          rw [← HCd.out, if_neg hcode]
          show ((gBlk (n : Int) (hasD t n)).1, nilB, s) = _
          rw [← HCd.out]
        have HGc := Lib.hid hgc
        have b4c := HB49.out.cells
        have b4f := HB49.out.frees
        clear hgc
        go_wp2
        refine bodyPost_ret (results_blk rfl rfl rfl ((HB49.out.set_ 0 _).set_ 1 _)) rfl ?_
        rw [HGc.out]
        have hs4 := HGg.out.1
        refine ⟨k, none, 0, rfl, ?_, Own.nil_ _ _ _ _, fun b e => (by cases e)⟩
        have hC9 := HC.out.below HbV9.out (Nat.le_refl _)
        exact (hC9.poke (kept_set _ g4 0 _) HNf.out hs4).poke (kept_set _ g4 1 _) HNf.out hs4
      · obtain rfl : cd = 0 := hcode
        have hcI : (((0 : Nat) : Int) != 0) = false := rfl
        obtain ⟨x, hx⟩ : ∃ x : Bk, x = ⟨kd, bd⟩ := ⟨_, rfl⟩
        have hrd : (readB t n).1 = 0 := HCd.out.symm
        have hro := readB_ok hrd
        have hx4 : 1 ≤ x.k ∧ x.k ≤ 4 ∧ x.b.length ≤ 240 := by rw [hx, HKd.out, HBd.out]; exact hro
        have hgc : getC t s (n : Int) = (0, x, if (putB s n x).dirty n then putB s n x else askedC (putB s n x) n) := by
          unfold getC
          rw [if_pos HIn.out]
          show (match s.blocks n with | some x => _ | none => _) = _
          rw [HBn.out, hx, HKd.out, HBd.out]
          show (if (readB t n).1 = 0 then _ else _) = _
          rw [if_pos hrd]
          rfl
        have hIn := HIn.out
        have hask := (ask_new HOk.out HBn.out (by omega) hnl hx4).1
        have HX4' := Lib.hid hx4
        have c2 : w9.cell? ⟨kg, 2, none⟩ = some (.map (some k.B)) := by rw [HKg.out]; exact (HC.out.cd.below HbV9.out (Nat.le_refl _)).ck.blk.cell 2
        have b6c := HX9.out.cells
        have hcd9 := HC.out.cd.below HbV9.out (Nat.le_refl _)
        have HCd9 := Lib.hid hcd9
        have HRes0 := Lib.hid hgc
        have HAsk0 := Lib.hid hask
        have HX := Lib.hid hx
        clear hrd hro hx4 hgc hIn hask hcd9 hx
        go_upto_region 10 with fail
        go_still_tail 6, (by kernel_rfl)
        change wpList _ _ _ _ _ w9.drew
        clear c2 b6c hcI
        refine wpList_mput rfl (.tmp 51) (.tmp 52) (.tmp 53) 65 rfl Try.underlying65 rfl rfl rfl (HCd9.out.drewN 1).ck.bm hn4 hnl ?_
        intro w10 hm10 hg10
        have hbV9d : Below V.heap.size V w9.drew := HbV9.out.drew
        have hbsd : Bs w9.drew base A x.b.length c x.b := by rw [HX.out]; exact (HBs9.out.drewN 1).weak (Nat.le_trans (by have := (HC.out.cd.foot_base k.g (.inr (.inl (.inl rfl)))); exact Nat.le_of_lt (Nat.lt_of_le_of_lt this.1 this.2)) HbV6.out.size)
        have hAnew : 0 < x.b.length → ∀ b, ablk A = some b → w6.heap.size ≤ b ∧ b < w9.heap.size := fun hm b e => by
          rw [HX.out] at hm
          obtain ⟨b', o', e2, h3, h4⟩ := HBs9.out.at_ hm
          rw [e2] at e; injection e with e; have e : b' = b := e
          rw [← e]; exact ⟨h3, h4⟩
        obtain ⟨k1, h10, hh10, hf10⟩ := HC.out.cd.putB_ hbV9d hbsd (fun hm b e => Nat.le_trans HbV6.out.size (hAnew hm b e).1) (by rw [HX.out]; exact hm10) hg10
        have hC1 := HC.out.trans h10
        have hlV := fun b e => (HC.out.cd.foot_base b e).2
        have hsV6 := HbV6.out.size
        have hK10 : Kept (fun b => b = k.B) w9.drew w10 := Kept.of_grown hg10 (fun b e => (Option.some.inj e).symm)
        have hkB := hlV k.B (.inr (.inl (.inr (.inl rfl))))
        have hN4 : ¬ footC d k1 g4 := h10.away HNf.out HL4.out
        have hN6 : ¬ footC d k1 g6 := fun y => by
          rcases hf10 g6 y with q | ⟨q1, q2⟩
          · exact HN6k.out q
          · have := (hAnew q1 g6 q2).1; have := HL6.out; omega
        have hOf : 0 < x.b.length → ∀ b, ablk A = some b → ¬ hardC d k1 b := fun hm b e y => by
          have h1 := hlV b (hard_foot (hh10 b y))
          have h2 := (hAnew hm b e).1
          omega
        have hK1 : kg = k1.g := by rw [HKg.out]; exact h10.gk.symm
        have hB4 := hK10.blk HB49.out.drew (fun e => HNf.out (.inr (.inl (.inr (.inl e)))))
        have hB6 := hK10.blk HX9.out.drew (fun e => HN6k.out (.inr (.inl (.inr (.inl e)))))
        have hBs := hbsd.kept hK10 (fun hm b e y => by have := (hAnew hm b e).1; omega)
        obtain ⟨s1, hs1⟩ : ∃ s1, s1 = putB s n x := ⟨_, rfl⟩
        have hres := HRes0.out
        have hask := HAsk0.out
        rw [← hs1] at hC1 hres hask
        rw [show (.int .i64 (kd : Int) : Value) = .int .i64 (x.k : Int) from by rw [HX.out], show bd = x.b from by rw [HX.out]] at hB6
        obtain ⟨U, hU⟩ : ∃ U, U = w10 := ⟨_, rfl⟩
        rw [← hU] at hC1 hB4 hB6 hBs
        rw [← hU]
        have HRes := Lib.hid hres
        have HAsk : Hid (s1.dirty n = false → AskOk t.n s1 n) := Lib.hid fun _ => hask
        have HC1 := Lib.hid hC1
        have HN4 := Lib.hid hN4
        have HN6 := Lib.hid hN6
        have HOf := Lib.hid hOf
        have HK1 := Lib.hid hK1
        replace HB4 := Lib.hid hB4
        replace HB6 := Lib.hid hB6
        have HBs := Lib.hid hBs
        have HX4 : Hid (50 ≤ n ∧ n < t.n ∧ 1 ≤ x.k ∧ x.k ≤ 4 ∧ x.b.length ≤ 240) := Lib.hid ⟨by have := HIn.out; omega, hnl, HX4'.out⟩
        clear hres hask hs1 hC1 hB4 hB6 hBs hN4 hN6 hOf hK1 hU hbV9d hbsd hAnew h10 hh10 hf10 hlV hsV6 hK10 hkB hm10 hg10 HRes0 HAsk0 HX4' HCd9 HX HbV9 HBs9 HB49 HL6 HX9 HbV6 HCd HKd HBd HN6k HG6 HC HKg HNf T HOk H HIn HLL
        have c3 : U.cell? ⟨kg, 3, none⟩ = some (.map (some k1.D)) := by rw [HK1.out]; exact HC1.out.cd.ck.blk.cell 3
        have hlk : (Instr.lookup 66 (.map (some k1.D)) (.int .i64 (n : Int)) true).run Try.prog U = .ok (.tuple #[.agg #[], .bool (s1.dirty n)]) U := by
          have := HC1.out.cd.ck.dm.look_ok hn4 hnl Try.underlying66 zeroUn rfl
          rw [this]
          have e1 : (drM s1 n).getD (.agg #[]) = .agg #[] := by unfold drM; split <;> rfl
          have e2 : (drM s1 n).isSome = s1.dirty n := by unfold drM; cases s1.dirty n <;> rfl
          rw [e1, e2]
        obtain ⟨dd, hdd⟩ : ∃ b, b = s1.dirty n := ⟨_, rfl⟩
        rw [← hdd] at hlk
        have HDd := Lib.hid hdd
        clear hdd
        have HLk := Lib.hid hlk
        have hal : Below U.heap.size U (U.alloc (.cells #[] 71)) := (Below.refl _ _).alloc (Nat.le_refl _) _
        have HAl := Lib.hid hal
        clear hal
        cases dd
        · have HAk := Lib.hid (HAsk.out HDd.out.symm)
          go_upto_region 13 with fail
          refine wp_world (fun W => CCh w W base d d k k1 t s1 ∧ Blk W g4 33 [.int .i64 0, .slice none 0 0] ∧ Blk W g6 33 [.int .i64 (x.k : Int), .slice A x.b.length c] ∧ Bs W base A x.b.length c x.b) ⟨HC1.out.below HAl.out (Nat.le_refl _), HB4.out.below HAl.out HB4.out.lt, HB6.out.below HAl.out HB6.out.lt, HBs.out.below HAl.out (Nat.le_refl _)⟩ ?_
          clear c3 hlk HB4 HB6 HBs HC1 HAl HLk
          rintro W ⟨hC2, hB4, hB6, hBs⟩
          have A0 := asked_any hC2.cd (z := n) hnl (by have := HAk.out.len; have := HAk.out.room; omega) (fun y hy => HAk.out.inN hy) HAk.out.room
          rw [← HK1.out] at A0
          have AA := Lib.hid A0
          have HC2 := Lib.hid hC2
          have HB4 := Lib.hid hB4
          have HB6 := Lib.hid hB6
          have HBs := Lib.hid hBs
          clear A0 hC2 hB4 hB6 hBs
          go_upto_region 14 with ((with_reducible refine Calls.mono AA.out ?_); rintro e w3 ⟨rfl, k3, hC3⟩)
          have hs3 := HC2.out.K.size
          have b4 := hC3.K.blk HB4.out (fun y => HN4.out (hard_foot y))
          have b6 := hC3.K.blk HB6.out (fun y => HN6.out (hard_foot y))
          have bs3 := HBs.out.kept hC3.K (fun hm b e => HOf.out hm b e)
          have n4 : ¬ footC d k3 g4 := hC3.away HN4.out HB4.out.lt
          have hCw := HC2.out.trans hC3
          have hfin : getC t s (n : Int) = (0, x, askedC s1 n) := by rw [HRes.out, if_neg (by rw [← HDd.out]; decide)]
          have HFin := Lib.hid hfin
          clear hfin hC3 AA HC2 HB4 HB6 HBs hs3
          have O := Lib.hid (own_any (kd := (x.k : Int)) bs3 (by have := HX4.out; omega))
          have b6c := b6.cells
          have HBB := Lib.hid b4
          have HCw := Lib.hid hCw
          have HN := Lib.hid n4
          clear b4 b6 bs3 hCw n4
          go_wp2_with ((with_reducible refine Calls.mono O.out ?_); rintro e w5 ⟨A5, c5, rfl, ho5, hb5⟩; have b4 := HBB.out.below hb5 HBB.out.lt; have b4c := b4.cells; have b4f := b4.frees)
          refine bodyPost_ret (results_blk rfl rfl rfl ((b4.set_ 0 _).set_ 1 _)) rfl ?_
          rw [HFin.out]
          have hl4 := HBB.out.lt
          have hg4 := HGg.out.1
          have hsz := HCw.out.K.size
          refine ⟨k3, A5, c5, rfl, ?_, ((ho5.far (show g4 < w3.heap.size from hl4) _).far (show g4 < w3.heap.size from hl4) _).weak hsz, fun b e y => ?_⟩
          · exact ((HCw.out.below hb5 (Nat.le_refl _)).poke (kept_set _ g4 0 _) HN.out hg4).poke (kept_set _ g4 1 _) HN.out hg4
          · have h1 := (ho5.blk e).1
            have h2 := (HCw.out.cd.foot_base b y).2
            omega
        · go_upto_region 14 with fail
          have hCw := HC1.out.below HAl.out (Nat.le_refl _)
          have b4 := HB4.out.below HAl.out HB4.out.lt
          have b6 := HB6.out.below HAl.out HB6.out.lt
          have bs3 := HBs.out.below HAl.out (Nat.le_refl _)
          have n4 := HN4.out
          obtain ⟨k3, hk3⟩ : ∃ z, z = k1 := ⟨_, rfl⟩
          rw [← hk3] at hCw n4
          have hfin : getC t s (n : Int) = (0, x, s1) := by rw [HRes.out, if_pos HDd.out.symm]
          have HFin := Lib.hid hfin
          refine wp_world (fun W => CCh w W base d d k k3 t s1 ∧ Blk W g4 33 [.int .i64 0, .slice none 0 0] ∧ Blk W g6 33 [.int .i64 (x.k : Int), .slice A x.b.length c] ∧ Bs W base A x.b.length c x.b) ⟨hCw, b4, b6, bs3⟩ ?_
          clear hfin c3 hlk HB4 HB6 HBs HC1 HAl HLk hCw b4 b6 bs3 hk3
          rintro w3 ⟨hCw, b4, b6, bs3⟩
          have O := Lib.hid (own_any (kd := (x.k : Int)) bs3 (by have := HX4.out; omega))
          have b6c := b6.cells
          have HBB := Lib.hid b4
          have HCw := Lib.hid hCw
          have HN := Lib.hid n4
          clear b4 b6 bs3 hCw n4
          go_wp2_with ((with_reducible refine Calls.mono O.out ?_); rintro e w5 ⟨A5, c5, rfl, ho5, hb5⟩; have b4 := HBB.out.below hb5 HBB.out.lt; have b4c := b4.cells; have b4f := b4.frees)
          refine bodyPost_ret (results_blk rfl rfl rfl ((b4.set_ 0 _).set_ 1 _)) rfl ?_
          rw [HFin.out]
          have hl4 := HBB.out.lt
          have hg4 := HGg.out.1
          have hsz := HCw.out.K.size
          refine ⟨k3, A5, c5, rfl, ?_, ((ho5.far (show g4 < w3.heap.size from hl4) _).far (show g4 < w3.heap.size from hl4) _).weak hsz, fun b e y => ?_⟩
          · exact ((HCw.out.below hb5 (Nat.le_refl _)).poke (kept_set _ g4 0 _) HN.out hg4).poke (kept_set _ g4 1 _) HN.out hg4
          · have h1 := (ho5.blk e).1
            have h2 := (HCw.out.cd.foot_base b y).2
            omega
end Go.Proofs.Ytjndopmjlbhajaa
