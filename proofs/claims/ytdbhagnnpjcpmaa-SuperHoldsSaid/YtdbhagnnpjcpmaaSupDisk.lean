/- super.Save and the document's: a superblock is saved. Condition: fewer than 2^39 versions of a sector. -/
import Derived.Test.YtdbhagnnpjcpmaaSupGetR
import Derived.Test.YtdbhagnnpjcpmaaDkDeeds
namespace Go.Proofs.Ytdbhagnnpjcpmaa
open Go.RowKit Go.Maps
set_option linter.unusedSimpArgs false
set_option linter.unusedVariables false

instance (s : Sup) (n : Nat) : Decidable (supOk s ∧ s.sec = (n : Int)) := inferInstance
def saveZ (n : Nat) (s : Sup) : Int := if supOk s ∧ s.sec = (n : Int) then 0 else 1
def saveD (t : Dsk) (s : Sup) : Dsk := if supOk s ∧ s.sec = (t.n : Int) then flushD (writeD t (s.gen.toNat % 2) (putS s)) else t
def rsaveD (t : Dsk) (s : Sup) : Dsk := if supOk s ∧ s.sec = (t.n : Int) then rflushD (rwriteD t (s.gen.toNat % 2) (putS s)) else t
theorem may_s {s : Sup} {t : Bool} (ht : decide (supOk s) = t) {A : Option Addr} {n c lo : Nat} {w : World} (hr : Vr w lo A n c s.vs) :
    Calls Try.prog 47 #[.agg #[.int .i64 s.gen, .int .i64 s.sec, .int .i64 s.next, .slice A n c]] w fun e w' => e = .returned (.bool t) ∧ Below w.heap.size w w' := ht ▸ may_any s hr
theorem sput_s (s : Sup) {A : Option Addr} {n c lo : Nat} {w : World} (hr : Vr w lo A n c s.vs) (h : supOk s) :
    Calls Try.prog 49 #[.agg #[.int .i64 s.gen, .int .i64 s.sec, .int .i64 s.next, .slice A n c]] w fun e w' => ∃ A' c', e = .returned (.tuple #[.slice A' 256 c', .int .i64 0]) ∧ Own w' w.heap.size 5 1 A' 256 c' (bvs (putS s)) ∧ Below w.heap.size w w' :=
  (sput_any s hr).mono fun e w' h2 => by
    rcases h2 with ⟨_, h2⟩ | ⟨hn, _⟩
    · exact h2
    · exact absurd h hn
theorem rsput_s (s : Sup) {A : Option Addr} {n c lo : Nat} {w : World} (hr : Vr w lo A n c s.vs) (h : supOk s) :
    Calls Try.prog 15 #[.agg #[.int .i64 s.gen, .int .i64 s.sec, .int .i64 s.next, .slice A n c]] w fun e w' => ∃ A' c', e = .returned (.tuple #[.slice A' 256 c', .int .i64 0]) ∧ Own w' w.heap.size 5 1 A' 256 c' (bvs (putS s)) ∧ Below w.heap.size w w' :=
  (rsput_any s hr).mono fun e w' h2 => by
    rcases h2 with ⟨_, h2⟩ | ⟨hn, _⟩
    · exact h2
    · exact absurd h hn
theorem rsput_n (s : Sup) {A : Option Addr} {n c lo : Nat} {w : World} (hr : Vr w lo A n c s.vs) (h : ¬ supOk s) :
    Calls Try.prog 15 #[.agg #[.int .i64 s.gen, .int .i64 s.sec, .int .i64 s.next, .slice A n c]] w fun e w' => e = .returned (.tuple #[.slice none 0 0, .int .i64 1]) ∧ Below w.heap.size w w' :=
  (rsput_any s hr).mono fun e w' h2 => by
    rcases h2 with ⟨h3, _⟩ | ⟨_, h2⟩
    · exact absurd h3 h
    · exact h2

theorem dwrite_ch {w : World} {base : Nat} {d : Dw} {s : Dsk} (h : Dk w base d s) {k : Nat} (hk : k < s.n) (hv : (s.vers k).length < 549755813887) {lo b o c : Nat} {x : List UInt8} (hx : Bs w lo (some ⟨b, o, none⟩) 256 c x) (hf : ¬ d.foot b) :
    Calls Try.prog 16 #[.pointer (some ⟨d.g, 0, none⟩), .int .i64 k, .slice (some ⟨b, o, none⟩) 256 c] w fun e w' => e = .returned (.int .i64 0) ∧ ∃ d', Ch w w' base d d' (writeD s k x) :=
  (dwrite_ok h hk hv hx hf).mono fun e w' ⟨a, b⟩ => ⟨a, Ch.of b⟩
theorem dflush_ch {w : World} {base : Nat} {d : Dw} {s : Dsk} (h : Dk w base d s) :
    Calls Try.prog 18 #[.pointer (some ⟨d.g, 0, none⟩)] w fun e w' => e = .returned (.tuple #[]) ∧ ∃ d', Ch w w' base d d' (flushD s) :=
  (dflush_any h).mono fun e w' ⟨a, b⟩ => ⟨a, Ch.of b⟩

set_option maxRecDepth 100000 in
set_option maxHeartbeats 8000000 in
theorem ssave_any {w : World} {base : Nat} {d : Dw} {t : Dsk} (h : Dk w base d t) (h2 : 2 ≤ t.n) (hv : ∀ k, k < t.n → (t.vers k).length < 549755813887) (s : Sup) {A : Option Addr} {n c lo : Nat} (hr : Vr w lo A n c s.vs) :
    Calls Try.prog 13 #[.pointer (some ⟨d.g, 0, none⟩), .agg #[.int .i64 s.gen, .int .i64 s.sec, .int .i64 s.next, .slice A n c]] w fun e w' => e = .returned (.int .i64 (saveZ t.n s)) ∧ ∃ d', Ch w w' base d d' (saveD t s) := by
  have HR := Lib.hid hr
  have H := Lib.hid h
  have HV := Lib.hid hv
  obtain ⟨gd, hgd⟩ : ∃ gd, gd = d.g := ⟨_, rfl⟩
  rw [← hgd]
  have HGd := Lib.hid hgd
  clear hr h hv hgd
  go_enter Try.func13, Try.ntmps13
  go_upto_region 1 with fail
  refine wp_world (fun V => Blk V w.heap.size 32 [.int .i64 s.gen, .int .i64 s.sec, .int .i64 s.next, .slice A n c] ∧ Below w.heap.size w V) ⟨Blk.new w 32 [.int .i64 s.gen, .int .i64 s.sec, .int .i64 s.next, .slice A n c], (Below.refl _ _).alloc (Nat.le_refl _) _⟩ ?_
  rintro V ⟨B0, b0⟩
  obtain ⟨gx, hgx⟩ : ∃ gx, gx = w.heap.size := ⟨_, rfl⟩
  rw [← hgx] at B0
  rw [← hgx]
  have HGx := Lib.hid hgx
  have HB := Lib.hid B0
  have Hb := Lib.hid b0
  have HS0 : Hid (∀ W : World, Blk W gx 32 [.int .i64 s.gen, .int .i64 s.sec, .int .i64 s.next, .slice A n c] → (W.cell? ⟨gx, 0, none⟩ = some (.int .i64 s.gen) ∧ W.cell? ⟨gx, 1, none⟩ = some (.int .i64 s.sec) ∧ W.cell? ⟨gx, 2, none⟩ = some (.int .i64 s.next) ∧ W.cell? ⟨gx, 3, none⟩ = some (.slice A n c))) := Lib.hid fun W h => ⟨h.cell 0, h.cell 1, h.cell 2, h.cell 3⟩
  have hb4 : V.drew.cell? ⟨gx, 0, none⟩ = some (.int .i64 s.gen) ∧ V.drew.cell? ⟨gx, 1, none⟩ = some (.int .i64 s.sec) ∧ V.drew.cell? ⟨gx, 2, none⟩ = some (.int .i64 s.next) ∧ V.drew.cell? ⟨gx, 3, none⟩ = some (.slice A n c) := HS0.out V.drew B0
  obtain ⟨c0, c1, c2, c3⟩ := hb4
  clear B0 b0 hgx
  by_cases hok : supOk s
  · have M0 := fun W (hb : Below V.heap.size V W) => may_s (decide_eq_true hok) ((HR.out.below Hb.out (Nat.le_refl _)).below hb (Nat.le_refl _))
    have M := Lib.hid M0
    have Sz0 : ∀ W, Below V.heap.size V W → Calls Try.prog 48 #[.pointer (some ⟨gd, 0, none⟩)] W fun e w' => e = .returned (.int .i64 t.n) ∧ w' = W := fun W hb => by
      have := dsize_any ((H.out.below Hb.out (Nat.le_refl _)).below hb (Nat.le_refl _))
      rw [← HGd.out] at this
      exact this
    have Sz := Lib.hid Sz0
    have HOk := Lib.hid hok
    clear M0 hok Sz0
    by_cases hsec : s.sec = (t.n : Int)
    · have hsI : (s.sec == (t.n : Int)) = true := beq_iff_eq.2 hsec
      have hsN : (s.sec != (t.n : Int)) = false := by simp [hsec]
      have hsZ : saveZ t.n s = 0 := if_pos ⟨HOk.out, hsec⟩
      have hsD : saveD t s = flushD (writeD t (s.gen.toNat % 2) (putS s)) := if_pos ⟨HOk.out, hsec⟩
      have HZ := Lib.hid hsZ
      have HSD := Lib.hid hsD
      have HSec := Lib.hid hsec
      clear hsZ hsD hsec hsI
      go_region_held3 (fun w' => w'.cell? ⟨gx, 0, none⟩ = some (.int .i64 s.gen) ∧ w'.cell? ⟨gx, 1, none⟩ = some (.int .i64 s.sec) ∧ w'.cell? ⟨gx, 2, none⟩ = some (.int .i64 s.next) ∧ w'.cell? ⟨gx, 3, none⟩ = some (.slice A n c))
        (first | go_keep | (exact HS0.out _ (HB.out.below hbV HB.out.lt)))
        (first
          | ((with_reducible refine Calls.mono (M.out _ (below_drewN (Below.refl _ _) 1)) ?_); rintro e w1 ⟨rfl, hb1⟩; have hbV := (below_drewN (Below.refl V.heap.size V) 1).trans hb1)
          | ((with_reducible refine Calls.mono (Sz.out _ hbV) ?_); rintro e w2 ⟨rfl, hw2⟩; replace hw2 := hw2.symm; subst hw2))
      have h1w := hbV
      clear c0 c1 c2 c3 M Sz
      obtain ⟨G, hG⟩ : ∃ G : Nat, s.gen = (G : Int) := ⟨s.gen.toNat, by have := HOk.out.1.1; omega⟩
      have hG2 : G % 2 < t.n := by omega
      have hsD2 := HSD.out
      rw [hG, Int.toNat_natCast] at hsD2
      obtain ⟨S3, hS3⟩ : ∃ z, z = writeD t (G % 2) (putS s) := ⟨_, rfl⟩
      rw [← hS3] at hsD2
      have HS3 := Lib.hid hS3
      have HSD2 := Lib.hid hsD2
      have HB1 := Lib.hid (HB.out.below hbV HB.out.lt)
      have Hb1 := Lib.hid (Hb.out.trans (hbV.mono Hb.out.size))
      have P0 := sput_s s (HR.out.below Hb1.out (Nat.le_refl _)) HOk.out
      have P := Lib.hid P0
      obtain ⟨c0, c1, c2, c3⟩ := HS0.out _ HB1.out
      have hGm : (G : Int).tmod 2 = ((G % 2 : Nat) : Int) := by rw [Int.tmod_eq_emod_of_nonneg (by omega)]; omega
      have HG := Lib.hid hG
      clear P0 hsD2 hG hb1 h1w hS3
      go_upto_region 4 with ((with_reducible refine Calls.mono P.out ?_); rintro e w2 ⟨A2, p2, rfl, ho2, hb2⟩)
      have hb2V := Hb1.out.trans (hb2.mono Hb1.out.size)
      have hD2 := H.out.below hb2V (Nat.le_refl _)
      obtain ⟨g2, rfl, hg2, -⟩ := ho2.head (by omega)
      have W0 := dwrite_ch hD2 (k := G % 2) hG2 (HV.out _ hG2) (own_bs ho2) (fun y => by
        have h1 := (H.out.foot_base _ y).2
        have h2 := Hb1.out.size
        omega)
      rw [← HS3.out] at W0
      rw [← HGd.out] at W0
      push_cast at W0
      have W := Lib.hid W0
      obtain ⟨c0, c1, c2, c3⟩ := HS0.out _ (HB1.out.below hb2 HB1.out.lt)
      have HD2 := Lib.hid hD2
      have Hb2 := Lib.hid hb2V
      rw [HG.out] at c0
      clear W0 hD2 hb2V ho2 hb2 hg2 P
      go_upto_region 5 with ((with_reducible refine Calls.mono W.out ?_); rintro e w3 ⟨rfl, d3, hc3⟩)
      have F0 := dflush_ch hc3.dk
      rw [hc3.g, ← HGd.out] at F0
      have F := Lib.hid F0
      have HC3 := Lib.hid (hc3.pre Hb2.out (Nat.le_refl _))
      clear F0 hc3 W HD2 c0 c1 c2 c3 hGm hG2 hsN h2
      go_wp2_with ((with_reducible refine Calls.mono F.out ?_); rintro e w4 ⟨rfl, d4, hc4⟩)
      go_ret
      rw [HZ.out, HSD2.out]
      exact ⟨rfl, d4, HC3.out.trans hc4⟩
    · have hsN : (s.sec != (t.n : Int)) = true := by simpa using hsec
      have hsZ : saveZ t.n s = 1 := if_neg (fun h => hsec h.2)
      have hsD : saveD t s = t := if_neg (fun h => hsec h.2)
      have HZ := Lib.hid hsZ
      have HSD := Lib.hid hsD
      have HSec := Lib.hid hsec
      clear hsZ hsD hsec
      go_region_held3 (fun w' => w'.cell? ⟨gx, 0, none⟩ = some (.int .i64 s.gen) ∧ w'.cell? ⟨gx, 1, none⟩ = some (.int .i64 s.sec) ∧ w'.cell? ⟨gx, 2, none⟩ = some (.int .i64 s.next) ∧ w'.cell? ⟨gx, 3, none⟩ = some (.slice A n c))
        (first | go_keep | (exact HS0.out _ (HB.out.below hbV HB.out.lt)))
        (first
          | ((with_reducible refine Calls.mono (M.out _ (below_drewN (Below.refl _ _) 1)) ?_); rintro e w1 ⟨rfl, hb1⟩; have hbV := (below_drewN (Below.refl V.heap.size V) 1).trans hb1)
          | ((with_reducible refine Calls.mono (Sz.out _ hbV) ?_); rintro e w2 ⟨rfl, hw2⟩; replace hw2 := hw2.symm; subst hw2))
      clear c0 c1 c2 c3 M Sz
      go_wp2
      go_ret
      rw [HZ.out, HSD.out]
      exact ⟨rfl, d, (Ch.init H.out).below (Hb.out.trans (hbV.mono Hb.out.size)) (Nat.le_refl _)⟩
  · have M0 := fun W (hb : Below V.heap.size V W) => may_s (decide_eq_false hok) ((HR.out.below Hb.out (Nat.le_refl _)).below hb (Nat.le_refl _))
    have M := Lib.hid M0
    have hsZ : saveZ t.n s = 1 := if_neg (fun h => hok h.1)
    have hsD : saveD t s = t := if_neg (fun h => hok h.1)
    have HZ := Lib.hid hsZ
    have HSD := Lib.hid hsD
    clear M0 hok hsZ hsD
    refine wp_region_noPanic ?_
    refine wp_region_held (S := fun w' => w'.cell? ⟨gx, 0, none⟩ = some (.int .i64 s.gen) ∧ w'.cell? ⟨gx, 1, none⟩ = some (.int .i64 s.sec) ∧ w'.cell? ⟨gx, 2, none⟩ = some (.int .i64 s.next) ∧ w'.cell? ⟨gx, 3, none⟩ = some (.slice A n c)) (by kernel_rfl) ?_
    have hHeld := HS0.out V.drew HB.out
    refine wpAnyH_take (i := 0) (v := ?_) (by simp only [List.getElem?_toArray, List.getElem?_cons_succ, List.getElem?_cons_zero]; rfl) (by kernel_rfl) (by kernel_rfl) (by kernel_rfl) (fun _ _ _ h => h) (Or.inl ⟨by rfl, ?_⟩) hHeld ?_
    rotate_left
    · intro wz hSw; (try dsimp only at hSw); go_simp; try with_reducible rfl
    (try simp only [Act.put, List.setIfInBounds_toArray, List.set_cons_zero, List.set_cons_succ])
    refine wpAnyH_take (i := 1) (v := ?_) (by simp only [List.getElem?_toArray, List.getElem?_cons_succ, List.getElem?_cons_zero]; rfl) (by kernel_rfl) (by kernel_rfl) (by kernel_rfl) (fun _ _ _ h => h) (Or.inl ⟨by rfl, ?_⟩) hHeld ?_
    rotate_left
    · intro wz hSw; (try dsimp only at hSw); go_simp; try with_reducible rfl
    (try simp only [Act.put, List.setIfInBounds_toArray, List.set_cons_zero, List.set_cons_succ])
    refine wpAnyH_take (i := 2) (v := ?_) (by simp only [List.getElem?_toArray, List.getElem?_cons_succ, List.getElem?_cons_zero]; rfl) (by kernel_rfl) (by kernel_rfl) (by kernel_rfl) (fun _ _ _ h => h) (Or.inl ⟨by rfl, ?_⟩) hHeld ?_
    rotate_left
    · intro wz hSw; (try dsimp only at hSw); go_simp; try with_reducible rfl
    (try simp only [Act.put, List.setIfInBounds_toArray, List.set_cons_zero, List.set_cons_succ])
    refine wpAnyH_take (i := 3) (v := ?_) (by simp only [List.getElem?_toArray, List.getElem?_cons_succ, List.getElem?_cons_zero]; rfl) (by kernel_rfl) (by kernel_rfl) (by kernel_rfl) (fun _ _ _ h => h) (Or.inl ⟨by rfl, ?_⟩) hHeld ?_
    rotate_left
    · intro wz hSw; (try dsimp only at hSw); go_simp; try with_reducible rfl
    (try simp only [Act.put, List.setIfInBounds_toArray, List.set_cons_zero, List.set_cons_succ])
    refine wpAnyH_ready (rs := [4]) (by kernel_rfl) (by simp) ?_
    refine AllReadyH.cons (by simp only [List.getElem?_toArray, List.getElem?_cons_succ, List.getElem?_cons_zero]; rfl) (fun KK hK => ?_) AllReadyH.nil
    go_simp; ((with_reducible refine Calls.mono (M.out _ (below_drewN (Below.refl _ _) 1)) ?_); rintro e w1 ⟨rfl, hb1⟩; have hbV := (below_drewN (Below.refl V.heap.size V) 1).trans hb1); go_wp2_with fail
    refine hK.out _ _ ?_ (fun hHeld => ?_)
    · exact HS0.out _ (HB.out.below hbV HB.out.lt)
    clear hK KK
    (try simp only [Act.put, List.setIfInBounds_toArray, List.set_cons_zero, List.set_cons_succ])
    refine wpAnyH_take (i := 5) (v := ?_) (by simp only [List.getElem?_toArray, List.getElem?_cons_succ, List.getElem?_cons_zero]; rfl) (by kernel_rfl) (by kernel_rfl) (by kernel_rfl) (fun _ _ _ h => h) (Or.inl ⟨by rfl, ?_⟩) hHeld ?_
    rotate_left
    · intro wz hSw; (try dsimp only at hSw); go_simp; try with_reducible rfl
    (try simp only [Act.put, List.setIfInBounds_toArray, List.set_cons_zero, List.set_cons_succ])
    refine wpAnyH_take (i := 6) (v := ?_) (by simp only [List.getElem?_toArray, List.getElem?_cons_succ, List.getElem?_cons_zero]; rfl) (by kernel_rfl) (by kernel_rfl) (by kernel_rfl) (fun _ _ _ h => h) (Or.inl ⟨by rfl, ?_⟩) hHeld ?_
    rotate_left
    · intro wz hSw; (try dsimp only at hSw); go_simp; try with_reducible rfl
    (try simp only [Act.put, List.setIfInBounds_toArray, List.set_cons_zero, List.set_cons_succ])
    refine wpAnyH_take (i := 7) (v := ?_) (by simp only [List.getElem?_toArray, List.getElem?_cons_succ, List.getElem?_cons_zero]; rfl) (by kernel_rfl) (by kernel_rfl) (by kernel_rfl) (fun _ _ _ h => h) (Or.inl ⟨by rfl, ?_⟩) hHeld ?_
    rotate_left
    · intro wz hSw; (try dsimp only at hSw); go_simp; try with_reducible rfl
    (try simp only [Act.put, List.setIfInBounds_toArray, List.set_cons_zero, List.set_cons_succ])
    refine wpAnyH_take (i := 8) (v := undef) (by simp only [List.getElem?_toArray, List.getElem?_cons_succ, List.getElem?_cons_zero]; rfl) (by kernel_rfl) (by kernel_rfl) (by kernel_rfl) (fun _ _ _ h => h) (Or.inr ⟨by rfl, rfl⟩) hHeld ?_
    (try simp only [Act.put, List.setIfInBounds_toArray, List.set_cons_zero, List.set_cons_succ])
    refine wpAnyH_take (i := 9) (v := undef) (by simp only [List.getElem?_toArray, List.getElem?_cons_succ, List.getElem?_cons_zero]; rfl) (by kernel_rfl) (by kernel_rfl) (by kernel_rfl) (fun _ _ _ h => h) (Or.inr ⟨by rfl, rfl⟩) hHeld ?_
    (try simp only [Act.put, List.setIfInBounds_toArray, List.set_cons_zero, List.set_cons_succ])
    refine wpAnyH_take (i := 10) (v := undef) (by simp only [List.getElem?_toArray, List.getElem?_cons_succ, List.getElem?_cons_zero]; rfl) (by kernel_rfl) (by kernel_rfl) (by kernel_rfl) (fun _ _ _ h => h) (Or.inr ⟨by rfl, rfl⟩) hHeld ?_
    (try simp only [Act.put, List.setIfInBounds_toArray, List.set_cons_zero, List.set_cons_succ])
    refine wpAnyH_take (i := 11) (v := undef) (by simp only [List.getElem?_toArray, List.getElem?_cons_succ, List.getElem?_cons_zero]; rfl) (by kernel_rfl) (by kernel_rfl) (by kernel_rfl) (fun _ _ _ h => h) (Or.inr ⟨by rfl, rfl⟩) hHeld ?_
    (try simp only [Act.put, List.setIfInBounds_toArray, List.set_cons_zero, List.set_cons_succ])
    refine wpAnyH_take (i := 12) (v := undef) (by simp only [List.getElem?_toArray, List.getElem?_cons_succ, List.getElem?_cons_zero]; rfl) (by kernel_rfl) (by kernel_rfl) (by kernel_rfl) (fun _ _ _ h => h) (Or.inr ⟨by rfl, rfl⟩) hHeld ?_
    (try simp only [Act.put, List.setIfInBounds_toArray, List.set_cons_zero, List.set_cons_succ])
    refine wpAnyH_take (i := 13) (v := ?_) (by simp only [List.getElem?_toArray, List.getElem?_cons_succ, List.getElem?_cons_zero]; rfl) (by kernel_rfl) (by kernel_rfl) (by kernel_rfl) (fun _ _ _ h => h) (Or.inl ⟨by rfl, ?_⟩) hHeld ?_
    rotate_left
    · intro wz hSw; (try dsimp only at hSw); go_simp; try with_reducible rfl
    (try simp only [Act.put, List.setIfInBounds_toArray, List.set_cons_zero, List.set_cons_succ])
    refine wpAnyH_done (by kernel_rfl) (NoPanic.normal ?_) _
    go_simp
    clear c0 c1 c2 c3 M
    go_wp2
    go_ret
    rw [HZ.out, HSD.out]
    exact ⟨rfl, d, (Ch.init H.out).below (Hb.out.trans (hbV.mono Hb.out.size)) (Nat.le_refl _)⟩
end Go.Proofs.Ytdbhagnnpjcpmaa
namespace Go.Proofs.Ytdbhagnnpjcpmaa
open Go.RowKit Go.Maps
set_option linter.unusedSimpArgs false
set_option linter.unusedVariables false

set_option maxRecDepth 100000 in
set_option maxHeartbeats 8000000 in
theorem rssave_any {w : World} {base : Nat} {r : Rw} {t : Dsk} (h : Rk w base r t) (h2 : 2 ≤ t.n) (hv : ∀ k, k < t.n → (t.vers k).length < 549755813887) (s : Sup) {A : Option Addr} {n c lo : Nat} (hr : Vr w lo A n c s.vs) :
    Calls Try.prog 14 #[.pointer (some ⟨r.g, 0, none⟩), .agg #[.int .i64 s.gen, .int .i64 s.sec, .int .i64 s.next, .slice A n c]] w fun e w' => e = .returned (.int .i64 (saveZ t.n s)) ∧ ∃ r', Rch w w' base r r' t.n (rsaveD t s) := by
  have HR := Lib.hid hr
  have H := Lib.hid h
  have HV := Lib.hid hv
  obtain ⟨gd, hgd⟩ : ∃ gd, gd = r.g := ⟨_, rfl⟩
  rw [← hgd]
  have HGd := Lib.hid hgd
  clear hr h hv hgd
  go_enter Try.func14, Try.ntmps14
  go_upto_region 1 with fail
  refine wp_world (fun V => Blk V w.heap.size 32 [.int .i64 s.gen, .int .i64 s.sec, .int .i64 s.next, .slice A n c] ∧ Below w.heap.size w V) ⟨Blk.new w 32 [.int .i64 s.gen, .int .i64 s.sec, .int .i64 s.next, .slice A n c], (Below.refl _ _).alloc (Nat.le_refl _) _⟩ ?_
  rintro V ⟨B0, b0⟩
  obtain ⟨gx, hgx⟩ : ∃ gx, gx = w.heap.size := ⟨_, rfl⟩
  rw [← hgx] at B0
  rw [← hgx]
  have HGx := Lib.hid hgx
  have HB := Lib.hid B0
  have Hb := Lib.hid b0
  have HS0 : Hid (∀ W : World, Blk W gx 32 [.int .i64 s.gen, .int .i64 s.sec, .int .i64 s.next, .slice A n c] → (W.cell? ⟨gx, 0, none⟩ = some (.int .i64 s.gen) ∧ W.cell? ⟨gx, 1, none⟩ = some (.int .i64 s.sec) ∧ W.cell? ⟨gx, 2, none⟩ = some (.int .i64 s.next) ∧ W.cell? ⟨gx, 3, none⟩ = some (.slice A n c))) := Lib.hid fun W h => ⟨h.cell 0, h.cell 1, h.cell 2, h.cell 3⟩
  obtain ⟨c0, c1, c2, c3⟩ := HS0.out V B0
  clear B0 b0 hgx
  by_cases hok : supOk s
  · have P0 := rsput_s s (HR.out.below Hb.out (Nat.le_refl _)) hok
    have P := Lib.hid P0
    have HOk := Lib.hid hok
    clear P0 hok
    go_upto_region 2 with ((with_reducible refine Calls.mono P.out ?_); rintro e w2 ⟨A2, p2, rfl, ho2, hb2⟩)
    have hb2V := Hb.out.trans (hb2.mono Hb.out.size)
    have hD2 := H.out.below hb2V (Nat.le_refl _)
    have HB2 := Lib.hid (HB.out.below hb2 HB.out.lt)
    have bc := hD2.blk.cell 0
    rw [← HGd.out] at bc
    simp only [List.getElem?_cons_zero] at bc
    have HD2 := Lib.hid hD2
    have HO2 := Lib.hid ho2
    have Hb2 := Lib.hid hb2V
    clear c0 c1 c2 c3 P hD2 ho2 hb2V hb2
    obtain ⟨c0, c1, c2, c3⟩ := HS0.out _ HB2.out
    by_cases hsec : s.sec = (t.n : Int)
    · have hsN : (s.sec != (t.n : Int)) = false := by simp [hsec]
      have hsZ : saveZ t.n s = 0 := if_pos ⟨HOk.out, hsec⟩
      have hsD : rsaveD t s = rflushD (rwriteD t (s.gen.toNat % 2) (putS s)) := if_pos ⟨HOk.out, hsec⟩
      have HZ := Lib.hid hsZ
      have HSec := Lib.hid hsec
      obtain ⟨G, hG⟩ : ∃ G : Nat, s.gen = (G : Int) := ⟨s.gen.toNat, by have := HOk.out.1.1; omega⟩
      have hG2 : G % 2 < t.n := by omega
      rw [hG, Int.toNat_natCast] at hsD
      rw [hG] at c0
      obtain ⟨S3, hS3⟩ : ∃ z, z = rwriteD t (G % 2) (putS s) := ⟨_, rfl⟩
      rw [← hS3] at hsD
      have HS3 := Lib.hid hS3
      have HSD := Lib.hid hsD
      have HG := Lib.hid hG
      have hGm : (G : Int).tmod 2 = ((G % 2 : Nat) : Int) := by rw [Int.tmod_eq_emod_of_nonneg (by omega)]; omega
      clear hsZ hsec hS3 hsD hG
      go_quiet (fail)
      have hDq := HD2.out.below (below_drewN (Below.refl w2.heap.size w2) nq) (Nat.le_refl _)
      have W0 := rwrite_ok hDq (k := G % 2) hG2 (by have := HV.out _ hG2; omega) ((own_bs HO2.out).drewN nq) (fun b hb y => by
        have h1 := (HO2.out.blk hb).1
        have h2 := (H.out.foot_base _ y).2
        have h3 := Hb.out.size
        omega)
      rw [← HS3.out] at W0
      rw [← HGd.out] at W0
      push_cast at W0
      have W := Lib.hid W0
      clear W0 hDq
      go_upto_region 5 with ((with_reducible refine Calls.mono W.out ?_); rintro e w3 ⟨rfl, r3, hc3⟩)
      have F0 := rflush_any hc3.rk
      rw [hc3.n_, hc3.g, ← HGd.out] at F0
      have F := Lib.hid F0
      have HC3 := Lib.hid (hc3.pre (below_drewN Hb2.out nq) (Nat.le_refl _))
      clear F0 hc3 W HD2 c0 c1 c2 c3 hGm hG2 hsN h2 bc
      go_wp2_with ((with_reducible refine Calls.mono F.out ?_); rintro e w4 ⟨rfl, r4, hc4⟩)
      go_ret
      rw [HZ.out, HSD.out]
      exact ⟨rfl, r4, HC3.out.trans hc4⟩
    · have hsN : (s.sec != (t.n : Int)) = true := by simpa using hsec
      have hsZ : saveZ t.n s = 1 := if_neg (fun h => hsec h.2)
      have hsD : rsaveD t s = t := if_neg (fun h => hsec h.2)
      have HZ := Lib.hid hsZ
      have HSD := Lib.hid hsD
      clear hsZ hsD hsec
      go_quiet (fail)
      clear c0 c1 c2 c3 bc
      go_wp2
      go_ret
      rw [HZ.out, HSD.out]
      exact ⟨rfl, r, (Rch.init H.out).below (below_drewN Hb2.out _) (Nat.le_refl _)⟩
  · have P0 := rsput_n s (HR.out.below Hb.out (Nat.le_refl _)) hok
    have P := Lib.hid P0
    have hsZ : saveZ t.n s = 1 := if_neg (fun h => hok h.1)
    have hsD : rsaveD t s = t := if_neg (fun h => hok h.1)
    have HZ := Lib.hid hsZ
    have HSD := Lib.hid hsD
    clear P0 hok hsZ hsD
    go_upto_region 2 with ((with_reducible refine Calls.mono P.out ?_); rintro e w2 ⟨rfl, hb2⟩)
    have Hb2 := Lib.hid (Hb.out.trans (hb2.mono Hb.out.size))
    clear c0 c1 c2 c3 P hb2
    go_quiet (fail)
    go_wp2
    go_ret
    rw [HZ.out, HSD.out]
    exact ⟨rfl, r, (Rch.init H.out).below (below_drewN Hb2.out _) (Nat.le_refl _)⟩
end Go.Proofs.Ytdbhagnnpjcpmaa
namespace Go.Proofs.Ytdbhagnnpjcpmaa
open Go.RowKit Go.Maps
set_option linter.unusedSimpArgs false
set_option linter.unusedVariables false

def pickS (n : Nat) (b o : Option Sup) : Option Sup := match o with
  | none => b
  | some s => if s.sec = (n : Int) ∧ (b.getD Sup.nil).gen < s.gen then some s else b
def loadTo (n : Nat) (sec : Nat → List UInt8) : Nat → Option Sup
  | 0 => none
  | i + 1 => pickS n (loadTo n sec i) (getS (sec i))
def loadS (n : Nat) (sec : Nat → List UInt8) : Option Sup := loadTo n sec 2
theorem getS_ok {l : List UInt8} {s : Sup} (h : getS l = some s) : supOk s := by
  unfold getS at h
  split at h
  · rename_i hc
    injection h with h
    rw [← h]; exact hc.2.2.1
  · cases h
theorem loadTo_ok {n : Nat} {sec : Nat → List UInt8} : ∀ i s, loadTo n sec i = some s → supOk s ∧ s.sec = (n : Int)
  | 0, _, h => by cases h
  | i + 1, s, h => by
    unfold loadTo pickS at h
    cases e : getS (sec i) with
    | none => rw [e] at h; exact loadTo_ok i s h
    | some x =>
      rw [e] at h
      by_cases c : x.sec = (n : Int) ∧ ((loadTo n sec i).getD Sup.nil).gen < x.gen
      · have h' : (if x.sec = (n : Int) ∧ ((loadTo n sec i).getD Sup.nil).gen < x.gen then some x else loadTo n sec i) = some s := h
        rw [if_pos c] at h'
        injection h' with h'
        rw [← h']; exact ⟨getS_ok e, c.1⟩
      · have h' : (if x.sec = (n : Int) ∧ ((loadTo n sec i).getD Sup.nil).gen < x.gen then some x else loadTo n sec i) = some s := h
        rw [if_neg c] at h'
        exact loadTo_ok i s h'
theorem loadTo_gen {n : Nat} {sec : Nat → List UInt8} {i : Nat} : (((loadTo n sec i).getD Sup.nil).gen = 0 ↔ loadTo n sec i = none) ∧ 0 ≤ ((loadTo n sec i).getD Sup.nil).gen := by
  cases e : loadTo n sec i with
  | none => exact ⟨⟨fun _ => rfl, fun _ => rfl⟩, Int.le_refl _⟩
  | some s =>
    have := (loadTo_ok i s e).1.1.1
    refine ⟨⟨fun h => ?_, fun h => by cases h⟩, ?_⟩
    · have h' : s.gen = 0 := h
      omega
    · show 0 ≤ s.gen
      omega
def spc (s : Sup) (A : Option Addr) (c : Nat) : List Value := [.int .i64 s.gen, .int .i64 s.sec, .int .i64 s.next, .slice A s.vs.length c]
/-- what a Load leaves -/
def SLoad (w : World) (r : Option Sup) (e : Ending) (w' : World) : Prop :=
  ∃ A c, e = .returned (.tuple #[.agg #[.int .i64 (r.getD Sup.nil).gen, .int .i64 (r.getD Sup.nil).sec, .int .i64 (r.getD Sup.nil).next, .slice A (r.getD Sup.nil).vs.length c], .int .i64 (if r.isSome then 0 else 7)]) ∧ Vr w' w.heap.size A (r.getD Sup.nil).vs.length c (r.getD Sup.nil).vs ∧ Below w.heap.size w w'
theorem zero2b (w : World) : (zeroValue 103).run Try.prog w = .ok (.agg #[.slice none 0 0, .slice none 0 0]) w := by kernel_rfl

set_option maxRecDepth 100000 in
set_option maxHeartbeats 8000000 in
theorem sload_any {w : World} {base : Nat} {d : Dw} {t : Dsk} (h : Dk w base d t) (h2 : 2 ≤ t.n) :
    Calls Try.prog 24 #[.pointer (some ⟨d.g, 0, none⟩)] w (SLoad w (loadS t.n (hasD t))) := by
  have H := Lib.hid h
  obtain ⟨gd, hgd⟩ : ∃ gd, gd = d.g := ⟨_, rfl⟩
  rw [← hgd]
  have HGd := Lib.hid hgd
  have hz := zero32
  have hz2 := zero2b
  have H2 := Lib.hid h2
  clear h hgd h2
  go_enter Try.func24, Try.ntmps24
  go_upto_region 5 with fail
  refine wp_world (fun U => Blk U w.heap.size 32 [.int .i64 0, .int .i64 0, .int .i64 0, .slice none 0 0] ∧ Blk U (w.heap.size + 1) 32 [.int .i64 0, .int .i64 0, .int .i64 0, .slice none 0 0] ∧ Blk U (w.heap.size + 1 + 1) 103 [.slice none 0 0, .slice none 0 0] ∧ Below w.heap.size w U) ⟨((Blk.new w 32 [.int .i64 0, .int .i64 0, .int .i64 0, .slice none 0 0]).alloc _).alloc _, (Blk.new_at (cs := [.int .i64 0, .int .i64 0, .int .i64 0, .slice none 0 0]) (by simp)).alloc _, Blk.new_at (cs := [.slice none 0 0, .slice none 0 0]) (by simp), (((Below.refl _ _).alloc (Nat.le_refl _) _).alloc (by simp) _).alloc (by simp; omega) _⟩ ?_
  rintro U ⟨b2, b4, b5, hb⟩
  have HB2 := Lib.hid b2
  have HB4 := Lib.hid b4
  have HB5 := Lib.hid b5
  have HB := Lib.hid hb
  obtain ⟨g2, hg2⟩ : ∃ g, g = w.heap.size := ⟨_, rfl⟩
  obtain ⟨g4, hg4⟩ : ∃ g, g = w.heap.size + 1 := ⟨_, rfl⟩
  obtain ⟨g5, hg5⟩ : ∃ g, g = w.heap.size + 1 + 1 := ⟨_, rfl⟩
  rw [← hg2] at HB2
  rw [← hg4] at HB4
  rw [← hg5] at HB5
  rw [← hg5, ← hg4, ← hg2]
  have HG := Lib.hid (show g2 = w.heap.size ∧ g4 = w.heap.size + 1 ∧ g5 = w.heap.size + 1 + 1 from ⟨hg2, hg4, hg5⟩)
  clear b2 b4 b5 hb hg2 hg4 hg5 hz2
  obtain ⟨LR, hLR⟩ : ∃ f, f = loadTo t.n (hasD t) := ⟨_, rfl⟩
  have HLR := Lib.hid hLR
  have HRes : Hid (loadS t.n (hasD t) = LR 2) := Lib.hid (by rw [hLR]; rfl)
  rw [HRes.out]
  clear hLR
  go_wp2
  go_loopw [12] (fun s12 wr => ∃ (i : Nat) (A : Option Addr) (c : Nat) (v0 v1 : Value), i ≤ 2 ∧ s12 = .int .i64 i ∧ Blk wr g2 32 [.int .i64 0, .int .i64 0, .int .i64 0, .slice none 0 0] ∧ Blk wr g4 32 (spc ((LR i).getD Sup.nil) A c) ∧ Blk wr g5 103 [v0, v1] ∧
    Vr wr (g5 + 1) A ((LR i).getD Sup.nil).vs.length c ((LR i).getD Sup.nil).vs ∧ Below w.heap.size w wr) (fun s12 _ => 2 - (intOf s12).toNat)
  case atStart => exact ⟨0, none, 0, _, _, by omega, rfl, HB2.out, by rw [HLR.out]; exact HB4.out, HB5.out, by rw [HLR.out]; exact Vr.nil_ _ _, HB.out⟩
  case round =>
    clear HB2 HB4 HB5 HB
    obtain ⟨i, A, c, v0, v1, hi, rfl, b2, b4, b5, hv, hb⟩ := hrel
    obtain ⟨bs, hbs⟩ : ∃ z, z = (LR i).getD Sup.nil := ⟨_, rfl⟩
    rw [← hbs] at b4 hv
    have HBs := Lib.hid hbs
    have HB2 := Lib.hid b2
    have HB4 := Lib.hid b4
    have HB5 := Lib.hid b5
    have HV := Lib.hid hv
    have HB := Lib.hid hb
    clear b2 b4 b5 hv hb hbs
    by_cases hlt : i < 2
    · have hiI : (i : Int) < 2 := by omega
      have R0 := dread_ok (H.out.below HB.out (Nat.le_refl _)) (k := i) (by have := H2.out; omega)
      have hl := hasD_len H.out (k := i) (by have := H2.out; omega)
      rw [← HGd.out] at R0
      obtain ⟨S, hS⟩ : ∃ S, S = hasD t i := ⟨_, rfl⟩
      rw [← hS] at R0 hl
      have R := Lib.hid R0
      have HS := Lib.hid hS
      have HL := Lib.hid hl
      clear R0 hS hl
      go_upto_region 8 with fail
      have b5c := HB5.out.cells
      go_upto_region 9 with ((with_reducible refine Calls.mono R.out ?_); rintro e w3 ⟨g3, rfl, hx3, hg3, hb3⟩; have b5 := HB5.out.below hb3 HB5.out.lt; have b5d := b5.cells; have b5f := b5.frees)
      have hgl := HG.out
      have hw3 := hb3.size
      have hg34 : g5 < g3 := by have := HB5.out.lt; omega
      obtain ⟨W, hW⟩ : ∃ W, W = w3.setCell ⟨g5, i, none⟩ (.slice (some ⟨g3, 0, none⟩) 256 256) := ⟨_, rfl⟩
      have c5 : W.cell? ⟨g5, i, none⟩ = some (.slice (some ⟨g3, 0, none⟩) 256 256) := by
        rw [hW]
        have := (b5.set_ i (.slice (some ⟨g3, 0, none⟩) 256 256)).cell i
        rw [List.getElem?_set_self (by show i < 2; exact hlt)] at this
        exact this
      have HB5W : Hid (Blk W g5 103 ([v0, v1].set i (.slice (some ⟨g3, 0, none⟩) 256 256))) := Lib.hid (by rw [hW]; exact b5.set_ i _)
      have HB2W : Hid (Blk W g2 32 [.int .i64 0, .int .i64 0, .int .i64 0, .slice none 0 0]) := Lib.hid (by rw [hW]; exact (HB2.out.below hb3 HB2.out.lt).far (by show g2 ≠ g5; omega) _)
      have HB4W : Hid (Blk W g4 32 (spc bs A c)) := Lib.hid (by rw [hW]; exact (HB4.out.below hb3 HB4.out.lt).far (by show g4 ≠ g5; omega) _)
      have HVW : Hid (Vr W (g5 + 1) A bs.vs.length c bs.vs) := Lib.hid (by rw [hW]; exact (HV.out.below hb3 (Nat.le_refl _)).far (by show g5 < g5 + 1; omega) _)
      have HBW : Hid (Below w.heap.size w W) := Lib.hid (by rw [hW]; exact (HB.out.trans (hb3.mono HB.out.size)).setCell (by show w.heap.size ≤ g5; omega) _)
      have hXW : Blk W g3 100 (bvs S) := by rw [hW]; exact hx3.far (by show g3 ≠ g5; omega) _
      have G0 := sget_any (hXW.bs0 0 256 256 (Nat.zero_le _) (Nat.le_refl _) (by omega) HL.out)
      obtain ⟨r, hr⟩ : ∃ r, r = getS S := ⟨_, rfl⟩
      rw [← hr] at G0
      have G := Lib.hid G0
      have HRr := Lib.hid hr
      rw [← hW]
      clear hW b5 b5c b5d b5f hx3 hb3 hg3 hXW G0 hr R HB2 HB4 HB5 HV HB hw3 hgl
      obtain ⟨ns, hns⟩ : ∃ ns, ns = r.getD Sup.nil := ⟨_, rfl⟩
      have HNs := Lib.hid hns
      clear hns
      go_upto_region 10 with ((with_reducible refine Calls.mono G.out ?_); rintro e w5 hG5; obtain ⟨A5, p5, rfl, hv5, hb5⟩ := hG5; rw [← HNs.out] at hv5; rw [← HNs.out])
      obtain ⟨g7, hg7⟩ : ∃ g, g = w5.heap.size := ⟨_, rfl⟩
      have hW5 := hb5.size
      have hgl := HG.out
      have h5W := HB5W.out.lt
      have ha := (Below.refl w5.heap.size w5).alloc (Nat.le_refl _) (.cells (spc ns A5 p5).toArray 32)
      have F2 := Lib.hid ((HB2W.out.below hb5 HB2W.out.lt).alloc (.cells (spc ns A5 p5).toArray 32))
      have F4 := Lib.hid ((HB4W.out.below hb5 HB4W.out.lt).alloc (.cells (spc ns A5 p5).toArray 32))
      have F5 := Lib.hid ((HB5W.out.below hb5 HB5W.out.lt).alloc (.cells (spc ns A5 p5).toArray 32))
      have F7 : Hid (Blk (w5.alloc (.cells (spc ns A5 p5).toArray 32)) g7 32 (spc ns A5 p5)) := Lib.hid (Blk.new_at hg7)
      have FV := Lib.hid ((HVW.out.below hb5 (Nat.le_refl _)).below ha (Nat.le_refl _))
      have FN := Lib.hid ((hv5.weak (show g5 + 1 ≤ W.heap.size by omega)).below ha (Nat.le_refl _))
      have FB := Lib.hid ((HBW.out.trans (hb5.mono HBW.out.size)).alloc (Nat.le_trans HBW.out.size hW5) (.cells (spc ns A5 p5).toArray 32))
      have hg57 : g5 < g7 := by omega
      have HG57 := Lib.hid (show g2 < g5 ∧ g4 < g5 ∧ g5 < g7 ∧ g2 ≠ g4 by omega)
      rw [← hg7]
      clear hb5 hv5 ha hW5 hgl h5W HB2W HB4W HB5W HVW HBW G hg7 c5
      refine wp_world (fun U => Blk U g2 32 [.int .i64 0, .int .i64 0, .int .i64 0, .slice none 0 0] ∧ Blk U g4 32 (spc bs A c) ∧ Blk U g5 103 ([v0, v1].set i (.slice (some ⟨g3, 0, none⟩) 256 256)) ∧ Blk U g7 32 (spc ns A5 p5) ∧
        Vr U (g5 + 1) A bs.vs.length c bs.vs ∧ Vr U (g5 + 1) A5 ns.vs.length p5 ns.vs ∧ Below w.heap.size w U) ⟨F2.out, F4.out, F5.out, F7.out, FV.out, FN.out, FB.out⟩ ?_
      clear F2 F4 F5 F7 FV FN FB
      rintro U5 ⟨b2, b4, b5, b7, hv, hvn, hb⟩
      have hnext : LR (i + 1) = pickS t.n (LR i) r := by rw [HLR.out, HRr.out, HS.out]; rfl
      have HNx := Lib.hid hnext
      obtain ⟨v5, hv5⟩ : ∃ v, v = [v0, v1].set i (.slice (some ⟨g3, 0, none⟩) 256 256) := ⟨_, rfl⟩
      rw [← hv5] at b5
      have hv5l : v5.length = 2 := by rw [hv5]; simp
      obtain ⟨y0, y1, hy⟩ : ∃ y0 y1, v5 = [y0, y1] := by
        match v5, hv5l with
        | [y0, y1], _ => exact ⟨y0, y1, rfl⟩
      rw [hy] at b5
      clear hv5 hv5l hy hnext
      have hq : ∀ n : Nat, Calls Try.prog 48 #[.pointer (some ⟨gd, 0, none⟩)] (U5.drewN n) fun e w'' => e = .returned (.int .i64 t.n) ∧ ∃ m, w'' = U5.drewN m := fun n => by
        have h := dsize_any ((H.out.below hb (Nat.le_refl _)).drewN n)
        rw [← HGd.out] at h
        exact h.mono fun e w' ⟨a, b⟩ => ⟨a, n, b⟩
      have HQ := Lib.hid hq
      have HB2 := Lib.hid b2
      have HB4 := Lib.hid b4
      have HB5 := Lib.hid b5
      have HB7 := Lib.hid b7
      have HV := Lib.hid hv
      have HVn := Lib.hid hvn
      have HB := Lib.hid hb
      have b4c := b4.cells
      have b7c := b7.cells
      simp only [spc] at b4c b7c
      clear hq b2 b4 b5 b7 hv hvn hb
      rcases r with _ | x
      · have hs : (none : Option Sup).isSome = false := rfl
        rw [hs]
        clear hs
        go_quiet (fail)
        clear b4c b7c
        go_wp2
        go_roundw
        case rel =>
          have e1 : LR (i + 1) = LR i := HNx.out
          refine ⟨i + 1, A, c, y0, y1, by omega, by norm_cast, HB2.out, ?_, HB5.out, ?_, below_drewN HB.out _⟩
          · rw [e1, ← HBs.out]; exact HB4.out
          · rw [e1, ← HBs.out]; exact HV.out
        case measure => simp only [intOf]; omega
      · have hs : (some x : Option Sup).isSome = true := rfl
        rw [hs]
        have hnx : ns = x := HNs.out
        subst hnx
        clear hs
        by_cases hsec : ns.sec = (t.n : Int)
        · have hsI : (ns.sec == (t.n : Int)) = true := beq_iff_eq.2 hsec
          by_cases hgen : bs.gen < ns.gen
          · have hgd : decide (bs.gen < ns.gen) = true := decide_eq_true hgen
            have e1 : LR (i + 1) = some ns := by rw [HNx.out]; unfold pickS; exact if_pos ⟨hsec, by rw [← HBs.out]; exact hgen⟩
            have HE := Lib.hid e1
            have HSec := Lib.hid hsec
            clear hsec e1
            go_quiet ((go_at_call 48; exact HQ.out _))
            clear hgen
            have b4f := HB4.out.frees
            go_wp2
            have q := HG57.out
            have hge := HG.out
            have hm : ∀ (k : Nat) (u : Value) (W : World), Below w.heap.size w W → Below w.heap.size w (W.setCell ⟨g4, k, none⟩ u) := fun k u W h => h.setCell (show w.heap.size ≤ g4 by omega) u
            have H4 : Blk ((((((U5.drewN nq).setCell ⟨g4, 0, none⟩ (.int .i64 ns.gen)).setCell ⟨g4, 1, none⟩ (.int .i64 ns.sec)).setCell ⟨g4, 2, none⟩ (.int .i64 ns.next))).setCell ⟨g4, 3, none⟩ (.slice A5 ns.vs.length p5)) g4 32 (spc ns A5 p5) := ((((HB4.out.drewN nq).set_ 0 _).set_ 1 _).set_ 2 _).set_ 3 _
            have HH4 := Lib.hid H4
            have HH2 := Lib.hid (((((HB2.out.drewN nq).far (p := ⟨g4, 0, none⟩) q.2.2.2 (.int .i64 ns.gen)).far (p := ⟨g4, 1, none⟩) q.2.2.2 (.int .i64 ns.sec)).far (p := ⟨g4, 2, none⟩) q.2.2.2 (.int .i64 ns.next)).far (p := ⟨g4, 3, none⟩) q.2.2.2 (.slice A5 ns.vs.length p5))
            have n54 : g5 ≠ g4 := by omega
            have HH5 := Lib.hid (((((HB5.out.drewN nq).far (p := ⟨g4, 0, none⟩) n54 (.int .i64 ns.gen)).far (p := ⟨g4, 1, none⟩) n54 (.int .i64 ns.sec)).far (p := ⟨g4, 2, none⟩) n54 (.int .i64 ns.next)).far (p := ⟨g4, 3, none⟩) n54 (.slice A5 ns.vs.length p5))
            have l4 : g4 < g5 + 1 := by omega
            have HHv := Lib.hid (((((HVn.out.drewN nq).far (q := ⟨g4, 0, none⟩) l4 (.int .i64 ns.gen)).far (q := ⟨g4, 1, none⟩) l4 (.int .i64 ns.sec)).far (q := ⟨g4, 2, none⟩) l4 (.int .i64 ns.next)).far (q := ⟨g4, 3, none⟩) l4 (.slice A5 ns.vs.length p5))
            have HHb := Lib.hid (hm 3 (.slice A5 ns.vs.length p5) _ (hm 2 (.int .i64 ns.next) _ (hm 1 (.int .i64 ns.sec) _ (hm 0 (.int .i64 ns.gen) _ (below_drewN HB.out nq)))))
            clear b4c b7c b4f q hge hm H4 n54 l4
            go_roundw
            case rel =>
              refine ⟨i + 1, A5, p5, y0, y1, by omega, by norm_cast, HH2.out, ?_, HH5.out, ?_, HHb.out⟩
              · rw [HE.out]; exact HH4.out
              · rw [HE.out]; exact HHv.out
            case measure => simp only [intOf]; omega
          · have hgd : decide (bs.gen < ns.gen) = false := decide_eq_false hgen
            have e1 : LR (i + 1) = LR i := by rw [HNx.out]; unfold pickS; exact if_neg (fun h => hgen (by rw [HBs.out]; exact h.2))
            have HE := Lib.hid e1
            have HSec := Lib.hid hsec
            clear hsec e1
            go_quiet ((go_at_call 48; exact HQ.out _))
            clear b4c b7c
            go_wp2
            go_roundw
            case rel =>
              refine ⟨i + 1, A, c, y0, y1, by omega, by norm_cast, HB2.out, ?_, HB5.out, ?_, below_drewN HB.out _⟩
              · rw [HE.out, ← HBs.out]; exact HB4.out
              · rw [HE.out, ← HBs.out]; exact HV.out
            case measure => simp only [intOf]; omega
        · have hsI : (ns.sec == (t.n : Int)) = false := beq_eq_false_iff_ne.2 hsec
          have e1 : LR (i + 1) = LR i := by rw [HNx.out]; unfold pickS; exact if_neg (fun h => hsec h.1)
          have HE := Lib.hid e1
          clear hsec e1
          go_quiet ((go_at_call 48; exact HQ.out _))
          clear b4c b7c
          go_wp2
          go_roundw
          case rel =>
            refine ⟨i + 1, A, c, y0, y1, by omega, by norm_cast, HB2.out, ?_, HB5.out, ?_, below_drewN HB.out _⟩
            · rw [HE.out, ← HBs.out]; exact HB4.out
            · rw [HE.out, ← HBs.out]; exact HV.out
          case measure => simp only [intOf]; omega
    · have h2 : (i : Int) = 2 := by omega
      rw [h2]
      obtain rfl : i = 2 := by omega
      clear hlt h2
      have b2 := HB2.out
      have b2f := b2.frees
      have b2c := b2.cells
      have b4c := HB4.out.cells
      simp only [spc] at b4c
      have hg := loadTo_gen (n := t.n) (sec := hasD t) (i := 2)
      rw [← HLR.out, ← HBs.out] at hg
      have hm : ∀ (k : Nat) (u : Value) (W : World), Below w.heap.size w W → Below w.heap.size w (W.setCell ⟨g2, k, none⟩ u) := fun k u W h => h.setCell (show w.heap.size ≤ g2 by have := HG.out.1; omega) u
      have hgq := HG.out
      have l2 : g2 < g5 + 1 := by omega
      have HM := Lib.hid hm
      have HL2 := Lib.hid l2
      clear hm hgq l2
      cases e : LR 2 with
      | none =>
        have h0 : bs.gen = 0 := hg.1.2 e
        have h0b : (bs.gen == 0) = true := beq_iff_eq.2 h0
        have HE := Lib.hid e
        clear hg h0 e
        go_wp2
        refine bodyPost_ret (results_sup rfl rfl rfl ((((b2.set_ 0 _).set_ 1 _).set_ 2 _).set_ 3 _)) rfl ?_
        rw [HRes.out.trans HE.out]
        exact ⟨none, 0, rfl, Vr.nil_ _ _, HM.out _ _ _ (HM.out _ _ _ (HM.out _ _ _ (HM.out _ _ _ HB.out)))⟩
      | some s =>
        have h0 : ¬ bs.gen = 0 := fun h => by rw [hg.1.1 h] at e; cases e
        have h0b : (bs.gen == 0) = false := beq_eq_false_iff_ne.2 h0
        have hbs : bs = s := by rw [HBs.out, e]; rfl
        have HE := Lib.hid hbs
        have HE2 := Lib.hid (HRes.out.trans e)
        clear hg h0 e hbs
        go_wp2
        refine bodyPost_ret (results_sup rfl rfl rfl ((((b2.set_ 0 _).set_ 1 _).set_ 2 _).set_ 3 _)) rfl ?_
        rw [HE2.out, HE.out]
        have hV := HV.out
        rw [HE.out] at hV
        exact ⟨A, c, rfl, ((((hV.far HL2.out _).far HL2.out _).far HL2.out _).far HL2.out _).weak (show w.heap.size ≤ g5 + 1 by have := HG.out; omega), HM.out _ _ _ (HM.out _ _ _ (HM.out _ _ _ (HM.out _ _ _ HB.out)))⟩
end Go.Proofs.Ytdbhagnnpjcpmaa
namespace Go.Proofs.Ytdbhagnnpjcpmaa
open Go.RowKit Go.Maps
set_option linter.unusedSimpArgs false
set_option linter.unusedVariables false

theorem rkhas_len {w : World} {base : Nat} {r : Rw} {s : Dsk} (h : Rk w base r s) {k : Nat} (hk : k < s.n) : (hasD s k).length = 256 := by
  obtain ⟨h1, h2⟩ := h.len k hk
  unfold hasD
  cases e : (s.vers k).getLast? with
  | none => exact h1
  | some x => exact h2 x (List.mem_of_getLast? e)
theorem pickS_yes {n : Nat} {b : Option Sup} {x : Sup} (h1 : x.sec = (n : Int)) (h2 : (b.getD Sup.nil).gen < x.gen) : pickS n b (some x) = some x := if_pos ⟨h1, h2⟩
theorem pickS_no {n : Nat} {b : Option Sup} {x : Sup} (h : ¬ (x.sec = (n : Int) ∧ (b.getD Sup.nil).gen < x.gen)) : pickS n b (some x) = b := if_neg h

set_option maxRecDepth 100000 in
set_option maxHeartbeats 8000000 in
theorem rsload_any {w : World} {base : Nat} {r0 : Rw} {t : Dsk} (h : Rk w base r0 t) (h2 : 2 ≤ t.n) :
    Calls Try.prog 25 #[.pointer (some ⟨r0.g, 0, none⟩)] w (SLoad w (loadS t.n (hasD t))) := by
  have H := Lib.hid h
  obtain ⟨gd, hgd⟩ : ∃ gd, gd = r0.g := ⟨_, rfl⟩
  rw [← hgd]
  have HGd := Lib.hid hgd
  have hz := zero32
  have hbld : ∀ w, (Instr.build 32 #[]).run Try.prog w = .ok (.agg #[.int .i64 0, .int .i64 0, .int .i64 0, .slice none 0 0]) w := fun w => run_build w 32 _ _ (by kernel_rfl)
  have H2 := Lib.hid h2
  clear h hgd h2
  go_enter Try.func25, Try.ntmps25
  go_upto_region 2 with fail
  refine wp_world (fun U => Blk U w.heap.size 32 [.int .i64 0, .int .i64 0, .int .i64 0, .slice none 0 0] ∧ Blk U (w.heap.size + 1) 32 [.int .i64 0, .int .i64 0, .int .i64 0, .slice none 0 0] ∧ Below w.heap.size w U) ⟨(Blk.new w 32 [.int .i64 0, .int .i64 0, .int .i64 0, .slice none 0 0]).alloc _, Blk.new_at (cs := [.int .i64 0, .int .i64 0, .int .i64 0, .slice none 0 0]) (by simp), ((Below.refl _ _).alloc (Nat.le_refl _) _).alloc (by simp) _⟩ ?_
  rintro U ⟨b2, b4, hb⟩
  have HB2 := Lib.hid b2
  have HB4 := Lib.hid b4
  have HB := Lib.hid hb
  obtain ⟨g2, hg2⟩ : ∃ g, g = w.heap.size := ⟨_, rfl⟩
  obtain ⟨g4, hg4⟩ : ∃ g, g = w.heap.size + 1 := ⟨_, rfl⟩
  rw [← hg2] at HB2
  rw [← hg4] at HB4
  rw [← hg4, ← hg2]
  have HG := Lib.hid (show g2 = w.heap.size ∧ g4 = w.heap.size + 1 from ⟨hg2, hg4⟩)
  clear b2 b4 hb hg2 hg4
  obtain ⟨LR, hLR⟩ : ∃ f, f = loadTo t.n (hasD t) := ⟨_, rfl⟩
  have HLR := Lib.hid hLR
  have HRes : Hid (loadS t.n (hasD t) = LR 2) := Lib.hid (by rw [hLR]; rfl)
  clear hLR
  go_wp2
  go_loopw [5, 6] (fun s5 s6 wr => ∃ (i : Nat) (A : Option Addr) (c : Nat) (fb : Bool), i ≤ 2 ∧ s6 = .int .i64 i ∧ s5 = .bool fb ∧ fb = (LR i).isSome ∧ Blk wr g2 32 [.int .i64 0, .int .i64 0, .int .i64 0, .slice none 0 0] ∧ Blk wr g4 32 (spc ((LR i).getD Sup.nil) A c) ∧
    Vr wr (g4 + 1) A ((LR i).getD Sup.nil).vs.length c ((LR i).getD Sup.nil).vs ∧ Below w.heap.size w wr) (fun _ s6 _ => 2 - (intOf s6).toNat)
  case atStart => exact ⟨0, none, 0, false, by omega, rfl, rfl, by rw [HLR.out]; rfl, HB2.out, by rw [HLR.out]; exact HB4.out, by rw [HLR.out]; exact Vr.nil_ _ _, HB.out⟩
  case round =>
    clear HB2 HB4 HB
    obtain ⟨i, A, c, fb, hi, rfl, rfl, hfb, b2, b4, hv, hb⟩ := hrel
    obtain ⟨bs, hbs⟩ : ∃ z, z = (LR i).getD Sup.nil := ⟨_, rfl⟩
    rw [← hbs] at b4 hv
    have HFb := Lib.hid hfb
    have HBs := Lib.hid hbs
    have HB2 := Lib.hid b2
    have HB4 := Lib.hid b4
    have HV := Lib.hid hv
    have HB := Lib.hid hb
    have hr := H.out.below hb (Nat.le_refl _)
    have bc := hr.blk.cell 0
    rw [← HGd.out] at bc
    simp only [List.getElem?_cons_zero] at bc
    clear b2 b4 hv hb hbs hfb hr
    by_cases hlt : i < 2
    · have hiI : (i : Int) < 2 := by omega
      have hin : (i : Int) < (t.n : Int) := by have := H2.out; omega
      have R0 := rread_ok (H.out.below HB.out (Nat.le_refl _)) (k := i) (by have := H2.out; omega)
      have hl := rkhas_len H.out (k := i) (by have := H2.out; omega)
      rw [← HGd.out] at R0
      obtain ⟨S, hS⟩ : ∃ S, S = hasD t i := ⟨_, rfl⟩
      rw [← hS] at R0 hl
      have R := Lib.hid R0
      have HS := Lib.hid hS
      have HL := Lib.hid hl
      clear R0 hS hl
      go_upto_region 7 with ((with_reducible refine Calls.mono R.out ?_); rintro e w3 ⟨A3, p3, rfl, ho3, hb3⟩)
      have G0 := rsget_any (own_bs ho3)
      obtain ⟨r, hr⟩ : ∃ r, r = getS S := ⟨_, rfl⟩
      rw [← hr] at G0
      have G := Lib.hid G0
      have HRr := Lib.hid hr
      have HB2W := Lib.hid (HB2.out.below hb3 HB2.out.lt)
      have HB4W := Lib.hid (HB4.out.below hb3 HB4.out.lt)
      have HVW := Lib.hid (HV.out.below hb3 (Nat.le_refl _))
      have HBW := Lib.hid (HB.out.trans (hb3.mono HB.out.size))
      clear G0 hr R HB2 HB4 HV HB ho3 hb3 bc
      obtain ⟨ns, hns⟩ : ∃ ns, ns = r.getD Sup.nil := ⟨_, rfl⟩
      have HNs := Lib.hid hns
      clear hns
      go_upto_region 8 with ((with_reducible refine Calls.mono G.out ?_); rintro e w5 hG5; obtain ⟨A5, p5, rfl, hv5, hb5⟩ := hG5; rw [← HNs.out] at hv5; rw [← HNs.out])
      obtain ⟨g7, hg7⟩ : ∃ g, g = w5.heap.size := ⟨_, rfl⟩
      have hW5 := hb5.size
      have h4W := HB4W.out.lt
      have ha := (Below.refl w5.heap.size w5).alloc (Nat.le_refl _) (.cells (spc ns A5 p5).toArray 32)
      have F2 := Lib.hid ((HB2W.out.below hb5 HB2W.out.lt).alloc (.cells (spc ns A5 p5).toArray 32))
      have F4 := Lib.hid ((HB4W.out.below hb5 HB4W.out.lt).alloc (.cells (spc ns A5 p5).toArray 32))
      have F7 : Hid (Blk (w5.alloc (.cells (spc ns A5 p5).toArray 32)) g7 32 (spc ns A5 p5)) := Lib.hid (Blk.new_at hg7)
      have FV := Lib.hid ((HVW.out.below hb5 (Nat.le_refl _)).below ha (Nat.le_refl _))
      have FN := Lib.hid ((hv5.weak (show g4 + 1 ≤ w3.heap.size by omega)).below ha (Nat.le_refl _))
      have FB := Lib.hid ((HBW.out.trans (hb5.mono HBW.out.size)).alloc (Nat.le_trans HBW.out.size hW5) (.cells (spc ns A5 p5).toArray 32))
      rw [← hg7]
      clear hb5 hv5 ha hW5 h4W HB2W HB4W HVW HBW G hg7
      refine wp_world (fun U => Blk U g2 32 [.int .i64 0, .int .i64 0, .int .i64 0, .slice none 0 0] ∧ Blk U g4 32 (spc bs A c) ∧ Blk U g7 32 (spc ns A5 p5) ∧
        Vr U (g4 + 1) A bs.vs.length c bs.vs ∧ Vr U (g4 + 1) A5 ns.vs.length p5 ns.vs ∧ Below w.heap.size w U) ⟨F2.out, F4.out, F7.out, FV.out, FN.out, FB.out⟩ ?_
      clear F2 F4 F7 FV FN FB
      rintro U5 ⟨b2, b4, b7, hv, hvn, hb⟩
      have hnext : LR (i + 1) = pickS t.n (LR i) r := by rw [HLR.out, HRr.out, HS.out]; rfl
      have HNx := Lib.hid hnext
      have hr5 := H.out.below hb (Nat.le_refl _)
      have bc := hr5.blk.cell 0
      rw [← HGd.out] at bc
      simp only [List.getElem?_cons_zero] at bc
      have HB2 := Lib.hid b2
      have HB4 := Lib.hid b4
      have HV := Lib.hid hv
      have HVn := Lib.hid hvn
      have HB := Lib.hid hb
      have b4c := b4.cells
      have b7c := b7.cells
      simp only [spc] at b4c b7c
      clear b2 b4 b7 hv hvn hb hnext hr5
      rcases r with _ | x
      · have hs : (none : Option Sup).isSome = false := rfl
        rw [hs]
        clear hs
        go_quiet (fail)
        clear b4c b7c bc
        go_wp2
        go_roundw
        case rel =>
          have e1 : LR (i + 1) = LR i := HNx.out
          refine ⟨i + 1, A, c, fb, by omega, by norm_cast, rfl, by rw [e1]; exact HFb.out, HB2.out, ?_, ?_, below_drewN HB.out _⟩
          · rw [e1, ← HBs.out]; exact HB4.out
          · rw [e1, ← HBs.out]; exact HV.out
        case measure => simp only [intOf]; omega
      · have hs : (some x : Option Sup).isSome = true := rfl
        rw [hs]
        have hnx : ns = x := HNs.out
        subst hnx
        clear hs
        by_cases hpk : ns.sec = (t.n : Int) ∧ bs.gen < ns.gen
        · obtain ⟨hsec, hgen⟩ := hpk
          have hsI : (ns.sec == (t.n : Int)) = true := beq_iff_eq.2 hsec
          have hgd : decide (bs.gen < ns.gen) = true := decide_eq_true hgen
          have e1 : LR (i + 1) = some ns := by rw [HNx.out]; exact pickS_yes hsec (by rw [← HBs.out]; exact hgen)
          have HE := Lib.hid e1
          have HGen := Lib.hid hgen
          clear hsec e1 hgen
          have q := HG.out
          have hm : ∀ (k : Nat) (u : Value) (W : World), Below w.heap.size w W → Below w.heap.size w (W.setCell ⟨g4, k, none⟩ u) := fun k u W h => h.setCell (show w.heap.size ≤ g4 by omega) u
          have n24 : g2 ≠ g4 := by omega
          have l4 : g4 < g4 + 1 := by omega
          have HQ := Lib.hid (show (∀ (k : Nat) (u : Value) (W : World), Below w.heap.size w W → Below w.heap.size w (W.setCell ⟨g4, k, none⟩ u)) ∧ g2 ≠ g4 ∧ g4 < g4 + 1 from ⟨hm, n24, l4⟩)
          clear q hm n24 l4
          have b4f := HB4.out.frees
          cases fb
          · go_quiet (fail)
            go_wp2
            have HH4 : Hid (Blk ((((((U5.drewN nq).setCell ⟨g4, 0, none⟩ (.int .i64 ns.gen)).setCell ⟨g4, 1, none⟩ (.int .i64 ns.sec)).setCell ⟨g4, 2, none⟩ (.int .i64 ns.next))).setCell ⟨g4, 3, none⟩ (.slice A5 ns.vs.length p5)) g4 32 (spc ns A5 p5)) := Lib.hid (((((HB4.out.drewN nq).set_ 0 _).set_ 1 _).set_ 2 _).set_ 3 _)
            have HH2 := Lib.hid (((((HB2.out.drewN nq).far (p := ⟨g4, 0, none⟩) HQ.out.2.1 (.int .i64 ns.gen)).far (p := ⟨g4, 1, none⟩) HQ.out.2.1 (.int .i64 ns.sec)).far (p := ⟨g4, 2, none⟩) HQ.out.2.1 (.int .i64 ns.next)).far (p := ⟨g4, 3, none⟩) HQ.out.2.1 (.slice A5 ns.vs.length p5))
            have HHv := Lib.hid (((((HVn.out.drewN nq).far (q := ⟨g4, 0, none⟩) HQ.out.2.2 (.int .i64 ns.gen)).far (q := ⟨g4, 1, none⟩) HQ.out.2.2 (.int .i64 ns.sec)).far (q := ⟨g4, 2, none⟩) HQ.out.2.2 (.int .i64 ns.next)).far (q := ⟨g4, 3, none⟩) HQ.out.2.2 (.slice A5 ns.vs.length p5))
            have HHb := Lib.hid (HQ.out.1 3 (.slice A5 ns.vs.length p5) _ (HQ.out.1 2 (.int .i64 ns.next) _ (HQ.out.1 1 (.int .i64 ns.sec) _ (HQ.out.1 0 (.int .i64 ns.gen) _ (below_drewN HB.out nq)))))
            clear b4c b7c b4f bc
            go_roundw
            case rel =>
              refine ⟨i + 1, A5, p5, true, by omega, by norm_cast, rfl, by rw [HE.out]; rfl, HH2.out, ?_, ?_, HHb.out⟩
              · rw [HE.out]; exact HH4.out
              · rw [HE.out]; exact HHv.out
            case measure => simp only [intOf]; omega
          · go_quiet (fail)
            go_wp2
            have HH4 : Hid (Blk ((((((U5.drewN nq).setCell ⟨g4, 0, none⟩ (.int .i64 ns.gen)).setCell ⟨g4, 1, none⟩ (.int .i64 ns.sec)).setCell ⟨g4, 2, none⟩ (.int .i64 ns.next))).setCell ⟨g4, 3, none⟩ (.slice A5 ns.vs.length p5)) g4 32 (spc ns A5 p5)) := Lib.hid (((((HB4.out.drewN nq).set_ 0 _).set_ 1 _).set_ 2 _).set_ 3 _)
            have HH2 := Lib.hid (((((HB2.out.drewN nq).far (p := ⟨g4, 0, none⟩) HQ.out.2.1 (.int .i64 ns.gen)).far (p := ⟨g4, 1, none⟩) HQ.out.2.1 (.int .i64 ns.sec)).far (p := ⟨g4, 2, none⟩) HQ.out.2.1 (.int .i64 ns.next)).far (p := ⟨g4, 3, none⟩) HQ.out.2.1 (.slice A5 ns.vs.length p5))
            have HHv := Lib.hid (((((HVn.out.drewN nq).far (q := ⟨g4, 0, none⟩) HQ.out.2.2 (.int .i64 ns.gen)).far (q := ⟨g4, 1, none⟩) HQ.out.2.2 (.int .i64 ns.sec)).far (q := ⟨g4, 2, none⟩) HQ.out.2.2 (.int .i64 ns.next)).far (q := ⟨g4, 3, none⟩) HQ.out.2.2 (.slice A5 ns.vs.length p5))
            have HHb := Lib.hid (HQ.out.1 3 (.slice A5 ns.vs.length p5) _ (HQ.out.1 2 (.int .i64 ns.next) _ (HQ.out.1 1 (.int .i64 ns.sec) _ (HQ.out.1 0 (.int .i64 ns.gen) _ (below_drewN HB.out nq)))))
            clear b4c b7c b4f bc
            go_roundw
            case rel =>
              refine ⟨i + 1, A5, p5, true, by omega, by norm_cast, rfl, by rw [HE.out]; rfl, HH2.out, ?_, ?_, HHb.out⟩
              · rw [HE.out]; exact HH4.out
              · rw [HE.out]; exact HHv.out
            case measure => simp only [intOf]; omega
        · have e1 : LR (i + 1) = LR i := by rw [HNx.out]; exact pickS_no (fun h => hpk ⟨h.1, by rw [HBs.out]; exact h.2⟩)
          have HE := Lib.hid e1
          have hxo : supOk ns := getS_ok HRr.out.symm
          have hfb : ns.sec = (t.n : Int) → fb = true := fun h => by
            cases hb : fb with
            | true => rfl
            | false =>
              exfalso
              have h1 := HFb.out
              rw [hb] at h1
              have h2 : LR i = none := by
                cases e : LR i with
                | none => rfl
                | some y => rw [e] at h1; cases h1
              refine hpk ⟨h, ?_⟩
              rw [HBs.out, h2]
              have := hxo.1.1
              show (0 : Int) < ns.gen
              omega
          by_cases hsec : ns.sec = (t.n : Int)
          · have hgen : ¬ bs.gen < ns.gen := fun h => hpk ⟨hsec, h⟩
            have hsI : (ns.sec == (t.n : Int)) = true := beq_iff_eq.2 hsec
            have hgd : decide (bs.gen < ns.gen) = false := decide_eq_false hgen
            obtain rfl := hfb hsec
            clear hsec e1 hgen hpk hxo hfb
            go_quiet (fail)
            clear b4c b7c bc
            go_wp2
            go_roundw
            case rel =>
              refine ⟨i + 1, A, c, true, by omega, by norm_cast, rfl, by rw [HE.out]; exact HFb.out, HB2.out, ?_, ?_, below_drewN HB.out _⟩
              · rw [HE.out, ← HBs.out]; exact HB4.out
              · rw [HE.out, ← HBs.out]; exact HV.out
            case measure => simp only [intOf]; omega
          · have hsI : (ns.sec == (t.n : Int)) = false := beq_eq_false_iff_ne.2 hsec
            clear hsec e1 hpk hxo hfb
            go_quiet (fail)
            clear b4c b7c bc
            go_wp2
            go_roundw
            case rel =>
              refine ⟨i + 1, A, c, fb, by omega, by norm_cast, rfl, by rw [HE.out]; exact HFb.out, HB2.out, ?_, ?_, below_drewN HB.out _⟩
              · rw [HE.out, ← HBs.out]; exact HB4.out
              · rw [HE.out, ← HBs.out]; exact HV.out
            case measure => simp only [intOf]; omega
    · have h2 : (i : Int) = 2 := by omega
      rw [h2]
      obtain rfl : i = 2 := by omega
      clear hlt h2
      have b2 := HB2.out
      have b2f := b2.frees
      have b2c := b2.cells
      have b4c := HB4.out.cells
      simp only [spc] at b4c
      have hm : ∀ (k : Nat) (u : Value) (W : World), Below w.heap.size w W → Below w.heap.size w (W.setCell ⟨g2, k, none⟩ u) := fun k u W h => h.setCell (show w.heap.size ≤ g2 by have := HG.out.1; omega) u
      have hgq := HG.out
      have l2 : g2 < g4 + 1 := by omega
      have HM := Lib.hid hm
      have HL2 := Lib.hid l2
      clear hm hgq l2
      cases e : LR 2 with
      | none =>
        have hf : fb = false := by rw [HFb.out, e]; rfl
        subst hf
        have HE := Lib.hid e
        clear e
        go_wp2
        refine bodyPost_ret (results_sup rfl rfl rfl ((((b2.set_ 0 _).set_ 1 _).set_ 2 _).set_ 3 _)) rfl ?_
        rw [HRes.out.trans HE.out]
        exact ⟨none, 0, rfl, Vr.nil_ _ _, HM.out _ _ _ (HM.out _ _ _ (HM.out _ _ _ (HM.out _ _ _ HB.out)))⟩
      | some s =>
        have hf : fb = true := by rw [HFb.out, e]; rfl
        subst hf
        have hbs : bs = s := by rw [HBs.out, e]; rfl
        have HE := Lib.hid hbs
        have HE2 := Lib.hid (HRes.out.trans e)
        clear e hbs
        go_wp2
        refine bodyPost_ret (results_sup rfl rfl rfl ((((b2.set_ 0 _).set_ 1 _).set_ 2 _).set_ 3 _)) rfl ?_
        rw [HE2.out, HE.out]
        have hV := HV.out
        rw [HE.out] at hV
        exact ⟨A, c, rfl, ((((hV.far HL2.out _).far HL2.out _).far HL2.out _).far HL2.out _).weak (show w.heap.size ≤ g4 + 1 by have := HG.out; omega), HM.out _ _ _ (HM.out _ _ _ (HM.out _ _ _ (HM.out _ _ _ HB.out)))⟩
end Go.Proofs.Ytdbhagnnpjcpmaa
namespace Go.Proofs.Ytdbhagnnpjcpmaa
open Go.RowKit Go.Maps
set_option linter.unusedSimpArgs false
set_option linter.unusedVariables false

set_option maxRecDepth 100000 in
theorem sload_nil (w : World) : Calls Try.prog 24 #[.pointer none] w fun e w' => e = .returned (.tuple #[.agg #[.int .i64 0, .int .i64 0, .int .i64 0, .slice none 0 0], .int .i64 1]) ∧ Below w.heap.size w w' := by
  have hz := zero32
  have hbld : ∀ w, (Instr.build 32 #[]).run Try.prog w = .ok (.agg #[.int .i64 0, .int .i64 0, .int .i64 0, .slice none 0 0]) w := fun w => run_build w 32 _ _ (by kernel_rfl)
  go_enter Try.func24, Try.ntmps24
  go_upto_region 1 with fail
  refine wp_world (fun U => Blk U w.heap.size 32 [.int .i64 0, .int .i64 0, .int .i64 0, .slice none 0 0] ∧ Below w.heap.size w U) ⟨Blk.new w 32 [.int .i64 0, .int .i64 0, .int .i64 0, .slice none 0 0], (Below.refl _ _).alloc (Nat.le_refl _) _⟩ ?_
  rintro U ⟨b2, hb⟩
  obtain ⟨g2, hg2⟩ : ∃ g, g = w.heap.size := ⟨_, rfl⟩
  rw [← hg2] at b2
  rw [← hg2]
  have HG := Lib.hid hg2
  have b2c := b2.cells
  have b2f := b2.frees
  clear hg2
  go_wp2
  refine bodyPost_ret (results_sup rfl rfl rfl ((((b2.set_ 0 _).set_ 1 _).set_ 2 _).set_ 3 _)) rfl ?_
  have hm : ∀ (k : Nat) (u : Value) (W : World), Below w.heap.size w W → Below w.heap.size w (W.setCell ⟨g2, k, none⟩ u) := fun k u W h => h.setCell (show w.heap.size ≤ g2 by have := HG.out; omega) u
  exact ⟨rfl, hm _ _ _ (hm _ _ _ (hm _ _ _ (hm _ _ _ hb)))⟩
set_option maxRecDepth 100000 in
theorem ssave_nil (w : World) (s : Value) (v0 v1 v2 v3 : Value) (hs : s = .agg #[v0, v1, v2, v3]) : Calls Try.prog 13 #[.pointer none, s] w fun e w' => e = .returned (.int .i64 1) ∧ Below w.heap.size w w' := by
  subst hs
  go_enter Try.func13, Try.ntmps13
  go_upto_region 1 with fail
  have hb := (Below.refl w.heap.size w).alloc (Nat.le_refl _) (.cells #[v0, v1, v2, v3] 32)
  go_quiet (fail)
  go_wp2
  go_ret
  exact ⟨rfl, below_drewN hb _⟩
end Go.Proofs.Ytdbhagnnpjcpmaa
