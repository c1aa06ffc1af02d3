/- The cache's Put. No condition beyond what is always so of a cache. -/
import Derived.Test.YtjndopmjlbhajaaCaH
namespace Go.Proofs.Ytjndopmjlbhajaa
open Go.RowKit Go.Maps
set_option linter.unusedSimpArgs false
set_option linter.unusedVariables false

/-- may a block be written at a number? -/
def mayB (z kd : Int) (m : Nat) : Prop := 1 ≤ kd ∧ kd ≤ 4 ∧ m ≤ 240
instance (z kd : Int) (m : Nat) : Decidable (mayB z kd m) := inferInstanceAs (Decidable (_ ∧ _ ∧ _))
/-- what Put tells, and leaves -/
def putR (t : Dsk) (s : Ca) (z kd : Int) (l : List UInt8) : Nat × Ca :=
  if 50 ≤ z ∧ z < (t.n : Int) then (if mayB z kd l.length then (0, putC s z.toNat ⟨kd.toNat, l⟩) else (1, s)) else (2, s)
def CPut (w : World) (base : Nat) (d : Dw) (k : Cw) (t : Dsk) (r : Nat × Ca) (e : Ending) (w' : World) : Prop :=
  e = .returned (.int .i64 (r.1 : Int)) ∧ ∃ k', CCh w w' base d d k k' t r.2
theorem Bs.off {w w' : World} {base : Nat} {d d' : Dw} {k k' : Cw} {t' : Dsk} {s' : Ca} (h : CCh w w' base d d' k k' t' s') {lo m c : Nat} {A : Option Addr} {l : List UInt8} (hb : Bs w lo A m c l) (hf : 0 < m → ∀ b, ablk A = some b → ¬ hardC d k b) : Bs w' lo A m c l := hb.kept h.K hf
set_option maxRecDepth 100000 in
set_option maxHeartbeats 8000000 in
theorem put_any_c {w : World} {base : Nat} {d : Dw} {k : Cw} {t : Dsk} {s : Ca} (h : CD w base d k t s) (ok : CaOk t.n s) {z kd : Int} (hz : -9223372036854775808 ≤ z ∧ z ≤ 9223372036854775807) {lo c : Nat} {A : Option Addr} {l : List UInt8} (hbs : Bs w lo A l.length c l) (hoff : 0 < l.length → ∀ b, ablk A = some b → ¬ hardC d k b) :
    Calls Try.prog 11 #[.pointer (some ⟨k.g, 0, none⟩), .int .i64 z, .agg #[.int .i64 kd, .slice A l.length c]] w (CPut w base d k t (putR t s z kd l)) := by
  have hz2 := zeroUn
  have H := Lib.hid h
  have HOk := Lib.hid ok
  have HZ := Lib.hid hz
  have HBs := Lib.hid hbs
  have HOff := Lib.hid hoff
  have hn4 : t.n ≤ 4096 := h.dk.small.2
  obtain ⟨kg, hkg⟩ : ∃ x, x = k.g := ⟨_, rfl⟩
  have HKg := Lib.hid hkg
  rw [← hkg]
  clear h ok hkg hz hbs hoff
  go_enter Try.func11, Try.ntmps11
  go_upto_region 1 with fail
  obtain ⟨g5, hg5⟩ : ∃ g, g = w.heap.size := ⟨_, rfl⟩
  have hal : Below w.heap.size w (w.alloc (.cells #[.int .i64 kd, .slice A l.length c] 33)) := (Below.refl _ _).alloc (Nat.le_refl _) _
  have hnf : ¬ footC d k g5 := fun x => by have := (H.out.foot_base g5 x).2; omega
  rw [← hg5]
  refine wp_world (fun V => CCh w V base d d k k t s ∧ Blk V g5 33 [.int .i64 kd, .slice A l.length c] ∧ Bs V lo A l.length c l ∧ g5 < V.heap.size) ⟨(CCh.init H.out).below hal (Nat.le_refl _), Blk.new_at (cs := [.int .i64 kd, .slice A l.length c]) hg5, HBs.out.below hal (Nat.le_refl _), by rw [hg5]; simp⟩ ?_
  clear hal HBs
  rintro V ⟨hC, hB5, hBs, hl5⟩
  have HNf := Lib.hid hnf
  have HC := Lib.hid hC
  have HB5 := Lib.hid hB5
  have HBs := Lib.hid hBs
  have HL5 := Lib.hid hl5
  have HG5 := Lib.hid (show w.heap.size ≤ g5 by omega)
  clear hC hB5 hBs hl5 hnf hg5
  by_cases hin : 50 ≤ z ∧ z < (t.n : Int)
  rotate_left
  · have T0 := there_b HC.out.cd (n := z) (decide_eq_false hin)
    rw [← HKg.out] at T0
    have T := Lib.hid T0
    have hgc : putR t s z kd l = (2, s) := if_neg hin
    have HGc := Lib.hid hgc
    clear T0 hgc hin
    go_wp2_with ((with_reducible refine Calls.mono T.out ?_); rintro e w1 ⟨rfl, rfl⟩)
    go_ret
    rw [HGc.out]
    exact ⟨rfl, k, HC.out⟩
  · obtain ⟨n, rfl⟩ : ∃ n : Nat, z = (n : Int) := ⟨z.toNat, by omega⟩
    have hnl : n < t.n := by omega
    have T0 := there_b HC.out.cd (n := (n : Int)) (decide_eq_true hin)
    rw [← HKg.out] at T0
    have T := Lib.hid T0
    have HIn := Lib.hid hin
    have b5c := HB5.out.cells
    clear T0 hin
    by_cases hmay : mayB n kd l.length
    rotate_left
    · have hno : (n : Int) < 0 ∨ 65535 < (n : Int) ∨ kd < 1 ∨ 4 < kd ∨ 240 < l.length := by unfold mayB at hmay; omega
      have P := Lib.hid (put_no (n : Int) kd (A := A) (m := l.length) (c := c) (w := V) hno)
      have hgc : putR t s (n : Int) kd l = (1, s) := by unfold putR; rw [if_pos HIn.out, if_neg hmay]
      have HGc := Lib.hid hgc
      clear hgc hmay hno
      go_wp2_with (first | ((with_reducible refine Calls.mono T.out ?_); rintro e w1 ⟨rfl, rfl⟩) | ((with_reducible refine Calls.mono P.out ?_); rintro e w2 ⟨rfl, hb2⟩))
      go_ret
      rw [HGc.out]
      exact ⟨rfl, k, HC.out.below hb2 (Nat.le_refl _)⟩
    · have hmay2 := hmay
      unfold mayB at hmay2
      obtain ⟨kn, rfl⟩ : ∃ kn : Nat, kd = (kn : Int) := ⟨kd.toNat, by omega⟩
      have P := Lib.hid (put_ok n kn HBs.out (by omega) (by omega) (by omega) (by omega))
      have hgc : putR t s (n : Int) (kn : Int) l = (0, putC s n ⟨kn, l⟩) := by unfold putR; rw [if_pos HIn.out, if_pos hmay]; rfl
      have HGc := Lib.hid hgc
      have HMay := Lib.hid hmay2
      clear hgc hmay hmay2
      go_upto_region 6 with (first | ((with_reducible refine Calls.mono T.out ?_); rintro e w1 ⟨rfl, rfl⟩) | ((with_reducible refine Calls.mono P.out ?_); rintro e w2 ⟨rfl, hx2, hb2⟩))
      have hC2 := HC.out.below hb2 (Nat.le_refl _)
      have F0 := forget_any hC2.cd HZ.out
      rw [← HKg.out] at F0
      have F := Lib.hid F0
      have HC2 := Lib.hid hC2
      have HB52 := Lib.hid (HB5.out.below hb2 HB5.out.lt)
      have HBs2 := Lib.hid (HBs.out.below hb2 (Nat.le_refl _))
      clear F0 hC2 hb2 hx2 P T HB5 HBs b5c
      go_upto_region 7 with ((with_reducible refine Calls.mono F.out ?_); rintro e w3 ⟨rfl, k2, hC3⟩)
      have hbs3 := Bs.off hC3 HBs2.out HOff.out
      have hB53 := hC3.K.blk HB52.out (fun y => HNf.out (hard_foot y))
      have hn53 : ¬ footC d k2 g5 := hC3.away HNf.out HB52.out.lt
      have hCw := HC2.out.trans hC3
      have hk2 : kg = k2.g := by rw [HKg.out]; exact hC3.gk.symm
      have O := Lib.hid (own_any (w := w3.drew) (kd := (kn : Int)) hbs3.drew (by have := HMay.out; omega))
      have hCd : CCh w w3.drew base d d k k2 t (forgetC s (n : Int)) := hCw.below (Below.refl w3.heap.size w3).drew (Nat.le_refl _)
      have c2 : w3.drew.cell? ⟨kg, 2, none⟩ = some (.map (some k2.B)) := by rw [hk2]; exact hCd.cd.ck.blk.cell 2
      have c50 : w3.drew.cell? ⟨g5, 0, none⟩ = some (.int .i64 (kn : Int)) := hB53.drew.cell 0
      have c51 : w3.drew.cell? ⟨g5, 1, none⟩ = some (.slice A l.length c) := hB53.drew.cell 1
      have hX5 : ∀ W, Below w3.heap.size w3.drew W → W.cell? ⟨kg, 2, none⟩ = some (.map (some k2.B)) ∧ W.cell? ⟨g5, 0, none⟩ = some (.int .i64 (kn : Int)) ∧ W.cell? ⟨g5, 1, none⟩ = some (.slice A l.length c) := fun W hb =>
        ⟨(hb.cell (p := ⟨kg, 2, none⟩) (by rw [hk2]; exact hCw.cd.ck.blk.lt)).trans c2, (hb.cell (p := ⟨g5, 0, none⟩) hB53.lt).trans c50, (hb.cell (p := ⟨g5, 1, none⟩) hB53.lt).trans c51⟩
      have HCd := Lib.hid hCd
      have HC0 : Hid (CD w base d k t s) := Lib.hid H.out
      have HSz : Hid (w.heap.size ≤ w3.heap.size) := Lib.hid hCd.K.size
      have HM := Lib.hid hCd.cd.ck.bm
      have HK2 := Lib.hid hk2
      clear hbs3 hB53 hn53 hCw hk2 hC3 hCd HB52 HBs2 HC2 HC F
      refine wp_region_last (S := fun w' => w'.cell? ⟨kg, 2, none⟩ = some (.map (some k2.B)) ∧ w'.cell? ⟨g5, 0, none⟩ = some (.int .i64 (kn : Int)) ∧ w'.cell? ⟨g5, 1, none⟩ = some (.slice A l.length c)) 7 (by kernel_rfl) rfl (by kernel_rfl) ?_ ?_
      · exact ⟨c2, c50, c51⟩
      intro hHeld
      simp only [List.take_succ_cons, List.take_zero]
      refine wpAnyH_take (i := 0) (v := ?_) (by simp only [List.getElem?_toArray, List.getElem?_cons_succ, List.getElem?_cons_zero]; rfl) (by kernel_rfl) (by kernel_rfl) (by kernel_rfl) (fun _ _ _ h => h) (Or.inl ⟨by rfl, ?_⟩) hHeld ?_
      rotate_left
      · intro wz hSw; (try dsimp only at hSw); go_simp; try with_reducible rfl
      (try simp only [Act.put, List.setIfInBounds_toArray, List.set_cons_zero, List.set_cons_succ])
      refine wpAnyH_take (i := 1) (v := ?_) (by simp only [List.getElem?_toArray, List.getElem?_cons_succ, List.getElem?_cons_zero]; rfl) (by kernel_rfl) (by kernel_rfl) (by kernel_rfl) (fun _ _ _ h => h) (Or.inl ⟨by rfl, ?_⟩) hHeld ?_
      rotate_left
      · intro wz hSw; (try dsimp only at hSw); go_simp; try with_reducible rfl
      (try simp only [Act.put, List.setIfInBounds_toArray, List.set_cons_zero, List.set_cons_succ])
      refine wpAnyH_take (i := 2) (v := ?_) (by simp only [List.getElem?_toArray, List.getElem?_cons_succ, List.getElem?_cons_zero]; rfl) (by kernel_rfl) (by kernel_rfl) (by kernel_rfl) (fun _ _ _ h => h) (Or.inl ⟨by rfl, ?_⟩) hHeld ?_
      rotate_left
      · intro wz hSw; (try dsimp only at hSw); go_simp; try with_reducible rfl
      (try simp only [Act.put, List.setIfInBounds_toArray, List.set_cons_zero, List.set_cons_succ])
      refine wpAnyH_take (i := 3) (v := ?_) (by simp only [List.getElem?_toArray, List.getElem?_cons_succ, List.getElem?_cons_zero]; rfl) (by kernel_rfl) (by kernel_rfl) (by kernel_rfl) (fun _ _ _ h => h) (Or.inl ⟨by rfl, ?_⟩) hHeld ?_
      rotate_left
      · intro wz hSw; (try dsimp only at hSw); go_simp; try with_reducible rfl
      (try simp only [Act.put, List.setIfInBounds_toArray, List.set_cons_zero, List.set_cons_succ])
      refine wpAnyH_take (i := 4) (v := ?_) (by simp only [List.getElem?_toArray, List.getElem?_cons_succ, List.getElem?_cons_zero]; rfl) (by kernel_rfl) (by kernel_rfl) (by kernel_rfl) (fun _ _ _ h => h) (Or.inl ⟨by rfl, ?_⟩) hHeld ?_
      rotate_left
      · intro wz hSw; (try dsimp only at hSw); go_simp; try with_reducible rfl
      (try simp only [Act.put, List.setIfInBounds_toArray, List.set_cons_zero, List.set_cons_succ])
      refine wpAnyH_take (i := 5) (v := ?_) (by simp only [List.getElem?_toArray, List.getElem?_cons_succ, List.getElem?_cons_zero]; rfl) (by kernel_rfl) (by kernel_rfl) (by kernel_rfl) (fun _ _ _ h => h) (Or.inl ⟨by rfl, ?_⟩) hHeld ?_
      rotate_left
      · intro wz hSw; (try dsimp only at hSw); go_simp; try with_reducible rfl
      (try simp only [Act.put, List.setIfInBounds_toArray, List.set_cons_zero, List.set_cons_succ])
      refine wpAnyH_ready (rs := [6]) (by kernel_rfl) (by simp) ?_
      refine AllReadyH.cons (by simp only [List.getElem?_toArray, List.getElem?_cons_succ, List.getElem?_cons_zero]; rfl) (fun KK hK => ?_) AllReadyH.nil
      go_simp; ((with_reducible refine Calls.mono O.out ?_); rintro e w5 ⟨A5, c5, rfl, ho5, hb5⟩); go_wp2_with fail
      refine hK.out _ _ ?_ (fun hHeld => ?_)
      · exact hX5 w5 hb5
      clear hK KK
      (try simp only [Act.put, List.setIfInBounds_toArray, List.set_cons_zero, List.set_cons_succ])
      have hm5 := HM.out.block (w' := w5) (hb5.block _ HM.out.lt)
      obtain ⟨w6, hrun, hm6, hg6⟩ := hm5.put hn4 hnl Try.underlying65 (.agg #[.int .i64 (kn : Int), .slice A5 l.length c5])
      refine wpAnyH_done (by kernel_rfl) ?_ _
      simp only [lastQ]
      go_simp
      clear hrun hHeld c2 c50 c51 hX5
      obtain ⟨x, hx⟩ : ∃ x : Bk, x = ⟨kn, l⟩ := ⟨_, rfl⟩
      have hbx : Bs w5 base A5 x.b.length c5 x.b := by rw [hx]; exact (own_bs ho5).weak (Nat.le_trans (by have := (HC0.out.foot_base k.g (.inr (.inl (.inl rfl)))); exact Nat.le_of_lt (Nat.lt_of_le_of_lt this.1 this.2)) HSz.out)
      obtain ⟨k7, h7, _, _⟩ := HCd.out.cd.putB_ (x := x) hb5 hbx (fun hm b e => (ho5.blk e).1) (by rw [hx]; exact hm6) hg6
      have hC7 := HCd.out.trans h7
      have hk7 : kg = k7.g := by rw [HK2.out]; exact h7.gk.symm
      rw [hx] at hC7
      have c3 : w6.cell? ⟨kg, 3, none⟩ = some (.map (some k7.D)) := by rw [hk7]; exact hC7.cd.ck.blk.cell 3
      have HC7 := Lib.hid hC7
      clear hbx h7 hC7 hk7 hx hm6 hg6 hm5 ho5 hb5 HCd HM O HK2
      go_upto_region 9 with (refine wpList_mput rfl (.tmp 35) (.tmp 36) (.tmp 37) 66 rfl Try.underlying66 rfl rfl rfl HC7.out.cd.ck.dm hn4 hnl ?_; intro w8 hm8 hg8)
      have h8 := HC7.out.cd.putD_ hm8 hg8
      have hC8 := HC7.out.trans h8
      have HC8 := Lib.hid hC8
      clear hm8 hg8 h8 hC8 HC7 c3
      go_wp2
      go_ret
      rw [HGc.out]
      exact ⟨rfl, k7, HC8.out⟩
theorem put_ca_ok {t : Dsk} {s : Ca} (h : CaOk t.n s) {z kd : Int} {l : List UInt8} : CaOk t.n (putR t s z kd l).2 := by
  unfold putR
  split
  · rename_i h1
    split
    · rename_i h2
      unfold mayB at h2
      exact put_c_ok h (by omega) (by omega) ⟨by show 1 ≤ kd.toNat; omega, by show kd.toNat ≤ 4; omega, h2.2.2⟩
    · exact h
  · exact h
end Go.Proofs.Ytjndopmjlbhajaa
