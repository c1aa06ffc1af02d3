/- The reference's disk: Power. Conditions: fewer than 2^40 versions of a sector; the picks lie outside the disk. -/
import Derived.Test.YtdbhagnnpjcpmaaRfRots
namespace Go.Proofs.Ytdbhagnnpjcpmaa
open Go.RowKit
set_option linter.unusedSimpArgs false
set_option linter.unusedVariables false

def pickX (t : Dsk) (ps : List Int) (i k : Nat) : List UInt8 := if i < ps.length ∧ 0 < pmod (ps.getD i 0) (t.vers k).length then (t.vers k).getD (pmod (ps.getD i 0) (t.vers k).length - 1) [] else t.lies k
theorem upd_power (t : Dsk) (ps : List Int) (i k : Nat) : updD t k (pickX t ps i k) [] = powerStep t ps i k := by
  unfold powerStep pickX
  split
  · exact dsk_ext rfl rfl rfl rfl rfl
  · refine dsk_ext rfl ?_ rfl rfl rfl
    funext j
    show (if j = k then t.lies k else t.lies j) = t.lies j
    by_cases e : j = k
    · subst e; simp
    · rw [if_neg e]
theorem pmod_ref (x : Int) (V : Nat) : (Int.tmod x ((V : Int) + 1) < 0 ∧ Int.tmod x ((V : Int) + 1) + (V : Int) + 1 = (pmod x V : Int)) ∨ (0 ≤ Int.tmod x ((V : Int) + 1) ∧ Int.tmod x ((V : Int) + 1) = (pmod x V : Int)) := by
  obtain ⟨h1, h2, h3⟩ := pmod_go x V
  have h4 := pmod_le x V
  by_cases h : Int.tmod x ((V : Int) + 1) < 0
  · left
    refine ⟨h, ?_⟩
    rw [Int.emod_eq_of_lt (by omega) (by omega)] at h3
    omega
  · right
    refine ⟨by omega, ?_⟩
    rw [Int.add_emod, Int.emod_self, Int.add_zero, Int.emod_emod_of_dvd _ (Int.dvd_refl _), Int.emod_eq_of_lt (by omega) (by omega)] at h3
    exact h3
theorem pickX_len {w : World} {base : Nat} {r : Rw} {t : Dsk} {ps : List Int} {i k : Nat} (h : Rk w base r t) (hk : k < t.n) : (pickX t ps i k).length = 256 := by
  unfold pickX
  split
  · next c =>
    have hp := pmod_le (ps.getD i 0) (t.vers k).length
    have hq : pmod (ps.getD i 0) (t.vers k).length - 1 < (t.vers k).length := by omega
    rw [List.getD_eq_getElem?_getD, List.getElem?_eq_getElem hq]
    exact (h.len k hk).2 _ (List.getElem_mem _)
  · exact (h.len k hk).1
theorem Rk.uncut {w : World} {base : Nat} {r : Rw} {s : Dsk} (h : Rk w base r s) : Rch w (w.setCell ⟨r.g, 1, none⟩ (.bool false)) base r r s.n { s with cut := false } := by
  have K : Kept (fun b => b = r.g) w (w.setCell ⟨r.g, 1, none⟩ (.bool false)) := ⟨rfl, rfl, rfl, by simp, fun b _ hn => Below.heap_setCell w _ _ b hn⟩
  exact h.reblk K h.left (h.blk.set_ 1 _)

set_option maxRecDepth 100000 in
set_option maxHeartbeats 16000000 in
theorem rpower_any {w : World} {base : Nat} {r : Rw} {s : Dsk} (h : Rk w base r s) (hv : ∀ k, k < s.n → (s.vers k).length < 549755813887) {lo m c : Nat} {A : Option Addr} {ps : List Int} (hp : Rd w lo A (iz ps)) (hl : ps.length = m) (hm : m ≤ 4611686018427387904)
    (hA : 0 < m → ∀ b, ablk A = some b → ¬ r.foot s.n b) :
    Calls Try.prog 21 #[.pointer (some ⟨r.g, 0, none⟩), .slice A m c] w fun e w' => e = .returned (.tuple #[]) ∧ ∃ r', Rch w w' base r r' s.n (powerD s ps) := by
  have bc := h.blk.cells
  have bf := h.blk.frees
  have HV := Lib.hid hv
  have HP := Lib.hid hp
  have HL := Lib.hid hl
  have HA := Lib.hid hA
  have h1 := h.uncut
  have D0 := rdirty_any h1.rk
  rw [dirty_cut] at D0
  have H1 := Lib.hid h1
  have HS := Lib.hid h.small
  clear h hv hp hl hA h1
  have D := Lib.hid D0
  clear D0
  go_enter Try.func21, Try.ntmps21
  go_upto_region 2 with ((with_reducible refine Calls.mono D.out ?_); rintro e w1 ⟨Ad, cd, rfl, ho, hb⟩)
  have hCh := H1.out.below hb (Nat.le_refl _)
  have hOff : ∀ b, ablk Ad = some b → ¬ r.foot s.n b := fun b e x => by
    have h1 := (ho.blk e).1
    have h2 := (H1.out.rk.foot_base b x).2
    omega
  have HCh := Lib.hid hCh
  have HO := Lib.hid ho
  have HOff := Lib.hid hOff
  obtain ⟨gd, hgd⟩ : ∃ gd, gd = r.g := ⟨_, rfl⟩
  have HG := Lib.hid hgd
  rw [← hgd]
  clear hCh ho hOff hb D H1 hgd bc bf
  obtain ⟨dl, hdl⟩ : ∃ dl, dl = dirtyL s := ⟨_, rfl⟩
  have hdn : dl.length ≤ 4096 := by
    rw [hdl]
    have h1 : (dirtyL s).length ≤ s.n := by
      have := List.length_filter_le (fun k => !(s.vers k).isEmpty) (List.range s.n)
      rw [List.length_range] at this
      exact this
    exact Nat.le_trans h1 HS.out
  rw [← hdl] at HO ⊢
  have HDL := Lib.hid hdl
  clear hdl
  go_wp2
  go_loopw [5, 6, 7] (fun s5 _ _ wr => ∃ (i : Nat) (r1 : Rw), i ≤ dl.length ∧ s5 = .int .i64 i ∧ Rch w wr base r r1 s.n (powerTo s ps i) ∧ (∃ lo, Own wr lo 3 1 Ad dl.length cd (iv dl)) ∧ ∀ b, ablk Ad = some b → ¬ r1.foot s.n b) (fun s5 _ _ _ => dl.length - (intOf s5).toNat)
  case atStart => exact ⟨0, r, by omega, rfl, HCh.out, ⟨_, HO.out⟩, HOff.out⟩
  case round =>
    clear HCh HO HOff
    obtain ⟨i, r1, hi, rfl, hCh, ⟨lo1, hO⟩, hOff⟩ := hrel
    have HCh := Lib.hid hCh
    have HO := Lib.hid hO
    have HOff := Lib.hid hOff
    clear hCh hO hOff
    by_cases hlt : i < dl.length
    · obtain ⟨k, hk⟩ : ∃ k, k = dl.getD i 0 := ⟨_, rfl⟩
      obtain ⟨gi, rfl, hgl, hgc⟩ := own_iv HO.out hlt
      rw [← hk] at hgc
      have hkn : k < s.n ∧ s.vers k ≠ [] := by rw [hk, HDL.out]; exact dirty_get (by rw [← HDL.out]; exact hlt)
      have hvk : (powerTo s ps i).vers k = s.vers k := powerTo_vers s ps i (fun j hj => by rw [hk, HDL.out]; exact dirty_inj s (by rw [← HDL.out]; exact hlt) hj)
      have hstep : powerTo s ps (i + 1) = powerStep (powerTo s ps i) ps i k := by rw [powerTo, hk, HDL.out]
      obtain ⟨t, ht⟩ : ∃ t, t = powerTo s ps i := ⟨_, rfl⟩
      have hCh := HCh.out
      rw [← ht] at hCh hvk hstep
      have htn : t.n = s.n := hCh.n_
      obtain ⟨V, hV⟩ : ∃ V, V = (t.vers k).length := ⟨_, rfl⟩
      have hV1 : 0 < V ∧ V < 549755813887 := by
        rw [hV, hvk]
        refine ⟨?_, HV.out k hkn.1⟩
        cases hx : s.vers k with
        | nil => exact absurd hx hkn.2
        | cons => simp
      have hkt : k < t.n := by rw [htn]; exact hkn.1
      obtain ⟨b, hA1, hrg⟩ := hCh.rk.range hkt
      rw [← hV] at hrg
      have bc := hCh.rk.blk.cell 0
      rw [hCh.g, ← HG.out, hA1, htn] at bc
      have bc' : wr.cell? ⟨gd, 0, none⟩ = some (.slice (some ⟨b, 0, none⟩) s.n r1.c) := bc
      have HCt := Lib.hid hCh
      have HStep := Lib.hid hstep
      have HVe := Lib.hid hV
      have hs := HS.out
      have HTN := Lib.hid htn
      have HA1 := Lib.hid hA1
      have HRg := Lib.hid hrg
      have hknI : (k : Int) < (s.n : Int) := by omega
      have hkl : k * 2 + 2 ≤ s.n * 2 := by omega
      have hiI : (i : Int) < (dl.length : Int) := by omega
      have hkw : IntKind.i64.wrap (k : Int) = (k : Int) := IntWalk.i64_in _ (by omega)
      have hiw : IntKind.i64.wrap (i : Int) = (i : Int) := IntWalk.i64_in _ (by omega)
      clear hk hkn hvk hstep ht hV htn hCh bc hA1 hrg HCh
      go_upto_region 5 with fail
      have hz102 := zero102
      have hrd := (World.rangeAt_drew wr b (k * 2) [.slice (r1.v k).lA 256 (r1.v k).lc, .slice (r1.v k).vA V (r1.v k).vc]).2 HRg.out
      have bcd : wr.drew.cell? ⟨gd, 0, none⟩ = some (.slice (some ⟨b, 0, none⟩) s.n r1.c) := bc'
      have gcd : wr.drew.cell? ⟨gi, i, none⟩ = some (.int .i64 (k : Int)) := hgc
      have hgl' : gi < wr.drew.heap.size := hgl
      refine wp_region_last (S := fun w' => w'.cell? ⟨gd, 0, none⟩ = some (.slice (some ⟨b, 0, none⟩) s.n r1.c) ∧ w'.cell? ⟨gi, i, none⟩ = some (.int .i64 (k : Int)) ∧ w'.rangeAt b (k * 2) [.slice (r1.v k).lA 256 (r1.v k).lc, .slice (r1.v k).vA V (r1.v k).vc]) 11 (by kernel_rfl) rfl (by kernel_rfl) ?_ ?_
      · exact ⟨bcd, gcd, hrd⟩
      intro hHeld
      simp only [List.take_succ_cons, List.take_zero]
      refine wpAnyH_take (i := 0) (v := ?_) (by simp only [List.getElem?_toArray, List.getElem?_cons_succ, List.getElem?_cons_zero]; rfl) (by kernel_rfl) (by kernel_rfl) (by kernel_rfl) (fun _ _ _ h => h) (Or.inl ⟨by rfl, ?_⟩) hHeld ?_
      rotate_left
      · intro wz hSw; (try dsimp only at hSw); go_simp; try with_reducible rfl
      (try simp only [Act.put, List.setIfInBounds_toArray, List.set_cons_zero, List.set_cons_succ])
      refine wpAnyH_take (i := 1) (v := ?_) (by simp only [List.getElem?_toArray, List.getElem?_cons_succ, List.getElem?_cons_zero]; rfl) (by kernel_rfl) (by kernel_rfl) (by kernel_rfl) (fun _ _ _ h => h) (Or.inl ⟨by rfl, ?_⟩) hHeld ?_
      rotate_left
      · intro wz hSw; (try dsimp only at hSw); go_simp; try with_reducible rfl
      (try simp only [Act.put, List.setIfInBounds_toArray, List.set_cons_zero, List.set_cons_succ])
      refine wpAnyH_take (i := 2) (v := ?_) (by simp only [List.getElem?_toArray, List.getElem?_cons_succ, List.getElem?_cons_zero]; rfl) (by kernel_rfl) (by kernel_rfl) (by kernel_rfl) (fun _ _ _ h => h) (Or.inl ⟨by rfl, ?_⟩) hHeld ?_
      rotate_left
      · intro wz hSw; (try dsimp only at hSw); go_simp; try with_reducible rfl
      (try simp only [Act.put, List.setIfInBounds_toArray, List.set_cons_zero, List.set_cons_succ])
      refine wpAnyH_take (i := 3) (v := ?_) (by simp only [List.getElem?_toArray, List.getElem?_cons_succ, List.getElem?_cons_zero]; rfl) (by kernel_rfl) (by kernel_rfl) (by kernel_rfl) (fun _ _ _ h => h) (Or.inl ⟨by rfl, ?_⟩) hHeld ?_
      rotate_left
      · intro wz hSw; (try dsimp only at hSw); go_simp; try with_reducible rfl
      (try simp only [Act.put, List.setIfInBounds_toArray, List.set_cons_zero, List.set_cons_succ])
      refine wpAnyH_take (i := 4) (v := ?_) (by simp only [List.getElem?_toArray, List.getElem?_cons_succ, List.getElem?_cons_zero]; rfl) (by kernel_rfl) (by kernel_rfl) (by kernel_rfl) (fun _ _ _ h => h) (Or.inl ⟨by rfl, ?_⟩) hHeld ?_
      rotate_left
      · intro wz hSw; (try dsimp only at hSw); go_simp; try with_reducible rfl
      (try simp only [Act.put, List.setIfInBounds_toArray, List.set_cons_zero, List.set_cons_succ])
      refine wpAnyH_take (i := 5) (v := ?_) (by simp only [List.getElem?_toArray, List.getElem?_cons_succ, List.getElem?_cons_zero]; rfl) (by kernel_rfl) (by kernel_rfl) (by kernel_rfl) (fun _ _ _ h => h) (Or.inl ⟨by rfl, ?_⟩) hHeld ?_
      rotate_left
      · intro wz hSw; (try dsimp only at hSw); go_simp; try with_reducible rfl
      (try simp only [Act.put, List.setIfInBounds_toArray, List.set_cons_zero, List.set_cons_succ])
      refine wpAnyH_take (i := 6) (v := ?_) (by simp only [List.getElem?_toArray, List.getElem?_cons_succ, List.getElem?_cons_zero]; rfl) (by kernel_rfl) (by kernel_rfl) (by kernel_rfl) (fun _ _ _ h => h) (Or.inl ⟨by rfl, ?_⟩) hHeld ?_
      rotate_left
      · intro wz hSw; (try dsimp only at hSw); go_simp; try with_reducible rfl
      (try simp only [Act.put, List.setIfInBounds_toArray, List.set_cons_zero, List.set_cons_succ])
      refine wpAnyH_take (i := 7) (v := ?_) (by simp only [List.getElem?_toArray, List.getElem?_cons_succ, List.getElem?_cons_zero]; rfl) (by kernel_rfl) (by kernel_rfl) (by kernel_rfl) (fun _ _ _ h => h) (Or.inl ⟨by rfl, ?_⟩) hHeld ?_
      rotate_left
      · intro wz hSw; (try dsimp only at hSw); go_simp; try with_reducible rfl
      (try simp only [Act.put, List.setIfInBounds_toArray, List.set_cons_zero, List.set_cons_succ])
      refine wpAnyH_take (i := 8) (v := ?_) (by simp only [List.getElem?_toArray, List.getElem?_cons_succ, List.getElem?_cons_zero]; rfl) (by kernel_rfl) (by kernel_rfl) (by kernel_rfl) (fun _ _ _ h => h) (Or.inl ⟨by rfl, ?_⟩) hHeld ?_
      rotate_left
      · intro wz hSw; (try dsimp only at hSw); go_simp; try with_reducible rfl
      (try simp only [Act.put, List.setIfInBounds_toArray, List.set_cons_zero, List.set_cons_succ])
      refine wpAnyH_take (i := 9) (v := .agg #[.slice (r1.v k).lA 256 (r1.v k).lc, .slice (r1.v k).vA V (r1.v k).vc]) (by simp only [List.getElem?_toArray, List.getElem?_cons_succ, List.getElem?_cons_zero]; rfl) (by kernel_rfl) (by kernel_rfl) (by kernel_rfl) (fun _ _ _ h => h) (yieldsIf_load_mid (by rfl) 92 (.tmp 27) rfl b (k * 2) (by rfl) [.slice (r1.v k).lA 256 (r1.v k).lc, .slice (r1.v k).vA V (r1.v k).vc] _ (fun _ hS => hS.2.2) Try.underlying92 rfl (by rw [size102]; rfl)) hHeld ?_
      (try simp only [Act.put, List.setIfInBounds_toArray, List.set_cons_zero, List.set_cons_succ])
      have hal : Below wr.drew.heap.size wr.drew (wr.drew.alloc (.cells #[.slice none 0 0, .slice none 0 0] 92)) := (Below.refl _ _).alloc (Nat.le_refl _) _
      have hbR : b < wr.drew.heap.size := (HCt.out.rk.row.blk (show ablk r1.A = some b by rw [HA1.out]; rfl)).2
      have hgdR : gd < wr.drew.heap.size := by have := HCt.out.rk.blk.lt; rw [HCt.out.g, ← HG.out] at this; exact this
      refine wpAnyH_ready (rs := [10]) (by kernel_rfl) (by simp) ?_
      refine AllReadyH.cons (by simp only [List.getElem?_toArray, List.getElem?_cons_succ, List.getElem?_cons_zero]; rfl) (fun KK hK => ?_) AllReadyH.nil
      go_simp
      refine hK.out _ _ ?_ (fun hHeld => ?_)
      · exact ⟨(hal.cell (p := ⟨gd, 0, none⟩) hgdR).trans bcd, (hal.cell (p := ⟨gi, i, none⟩) hgl').trans gcd, range_kept hrd (hal.block b hbR)⟩
      clear hK KK
      (try simp only [Act.put, List.setIfInBounds_toArray, List.set_cons_zero, List.set_cons_succ])
      have hX0 : Blk (wr.alloc (.cells #[.slice none 0 0, .slice none 0 0] 92)).drew wr.heap.size 92 [.slice none 0 0, .slice none 0 0] := Blk.new wr _ [.slice none 0 0, .slice none 0 0]
      have hB0 : Below wr.heap.size wr (wr.alloc (.cells #[.slice none 0 0, .slice none 0 0] 92)).drew := ((Below.refl _ _).alloc (Nat.le_refl _) _).drew
      have hth : (wr.alloc (.cells #[.slice none 0 0, .slice none 0 0] 92)).drew.there wr.heap.size 0 2 := fun q hq => by
        match q, hq with
        | 0, _ => exact ⟨by rw [Nat.add_zero, hX0.cell 0]; rfl, hX0.frozen 0⟩
        | 1, _ => exact ⟨by rw [Nat.zero_add, hX0.cell 1]; rfl, hX0.frozen 1⟩
      refine wpAnyH_done (by kernel_rfl) ?_ _
      simp only [lastQ]
      refine wp_store_mid 92 (.tmp 6) (.tmp 28) rfl wr.heap.size 0 #[.slice (r1.v k).lA 256 (r1.v k).lc, .slice (r1.v k).vA V (r1.v k).vc] (by first | rfl | (go_simp; rfl)) (by first | rfl | (go_simp; rfl)) hth (by rw [size102]; rfl) (all_oneCell_toArray (two_one _ _ _ _ _ _)) ?_
      (try simp only [Act.put, List.setIfInBounds_toArray, List.set_cons_zero, List.set_cons_succ])
      have hX1 := (hX0.set_ 0 (.slice (r1.v k).lA 256 (r1.v k).lc)).set_ 1 (.slice (r1.v k).vA V (r1.v k).vc)
      simp only [List.set_cons_zero, List.set_cons_succ] at hX1
      have hB1 := (hB0.setCell (show wr.heap.size ≤ (⟨wr.heap.size, 0, none⟩ : Addr).block from Nat.le_refl _) (.slice (r1.v k).lA 256 (r1.v k).lc)).setCell (show wr.heap.size ≤ (⟨wr.heap.size, 1, none⟩ : Addr).block from Nat.le_refl _) (.slice (r1.v k).vA V (r1.v k).vc)
      have hX : Blk _ wr.heap.size 92 _ := hX1
      have hB : Below wr.heap.size wr _ := hB1
      clear hX1 hB1 hX0 hB0 hth hHeld hal hrd bcd gcd bc'
      have hset : (wr.alloc (.cells #[.slice none 0 0, .slice none 0 0] 92)).drew.setCells wr.heap.size 0 [.slice (r1.v k).lA 256 (r1.v k).lc, .slice (r1.v k).vA V (r1.v k).vc] = ((wr.alloc (.cells #[.slice none 0 0, .slice none 0 0] 92)).drew.setCell ⟨wr.heap.size, 0, none⟩ (.slice (r1.v k).lA 256 (r1.v k).lc)).setCell ⟨wr.heap.size, 1, none⟩ (.slice (r1.v k).vA V (r1.v k).vc) := rfl
      rw [← hset] at hX hB
      clear hset
      generalize (wr.alloc (.cells #[.slice none 0 0, .slice none 0 0] 92)).drew.setCells wr.heap.size 0 [.slice (r1.v k).lA 256 (r1.v k).lc, .slice (r1.v k).vA V (r1.v k).vc] = U at *
      obtain ⟨gx, hgx⟩ : ∃ gx, gx = wr.heap.size := ⟨_, rfl⟩
      rw [← hgx] at hX ⊢
      have HGx := Lib.hid hgx
      have hR := HCt.out.rk.below hB (Nat.le_refl _)
      have bx := hX.cells
      have fx := hX.frees
      have HX := Lib.hid hX
      have HB := Lib.hid hB
      clear hX hB hgx
      by_cases him : i < m
      · obtain ⟨bp, op, rfl, _, hbp, hcp⟩ := HP.out (by rw [length_iz, HL.out]; omega)
        have hcp2 := hcp i (by rw [length_iz, HL.out]; exact him)
        obtain ⟨x, hx⟩ : ∃ x, x = ps.getD i 0 := ⟨_, rfl⟩
        have hxe : (iz ps)[i]'(by rw [length_iz, HL.out]; exact him) = .int .i64 x := by
          rw [hx]
          simp only [iz, List.getElem_map]
          rw [List.getD_eq_getElem?_getD, List.getElem?_eq_getElem (by rw [HL.out]; exact him)]
          rfl
        rw [hxe] at hcp2
        have hcw : wr.cell? ⟨bp, op + i, none⟩ = some (.int .i64 x) := (World.cell?_of_block (a := ⟨bp, op + i, none⟩) (HCt.out.K.block bp hbp (HA.out (by omega) bp rfl))).trans hcp2
        have hcx : U.cell? ⟨bp, op + i, none⟩ = some (.int .i64 x) := (HB.out.cell (p := ⟨bp, op + i, none⟩) (Nat.lt_of_lt_of_le hbp HCt.out.K.size)).trans hcw
        have y0 := pmod_ref x V
        obtain ⟨y1, y2, _⟩ := pmod_go x V
        have hple := pmod_le x V
        obtain ⟨y, hy⟩ : ∃ y, y = Int.tmod x ((V : Int) + 1) := ⟨_, rfl⟩
        obtain ⟨p, hp⟩ : ∃ p, p = pmod x V := ⟨_, rfl⟩
        rw [← hy] at y0 y1 y2
        rw [← hp] at y0 hple
        have ey : Int.tmod x ((V : Int) + 1) = y := hy.symm
        have hV2 : IntKind.i64.wrap ((V : Int) + 1) = (V : Int) + 1 := IntWalk.i64_in _ (by omega)
        have ey4 : IntKind.i64.wrap y = y := IntWalk.i64_in _ (by omega)
        have hV0 : ¬ ((V : Int) + 1 = 0) := by omega
        have hiM : (i : Int) < (m : Int) := by omega
        have HX0 := Lib.hid hx
        have HPE := Lib.hid hp
        clear hy hxe hcp2 hcp hx hp hcw
        go_upto_region 7 with fail
        go_quiet (fail)
        have hXd : Blk (U.drewN nq) gx 92 _ := HX.out
        have hBd := below_drewN HB.out nq
        clear bx fx hR HX HB hcx
        generalize U.drewN nq = U2 at *
        have bx := hXd.cells
        have fx := hXd.frees
        have hR := HCt.out.rk.below hBd (Nat.le_refl _)
        have HX := Lib.hid hXd
        have HB := Lib.hid hBd
        clear hXd hBd
        rcases y0 with ⟨ylt, yeq⟩ | ⟨yge, yeq⟩
        · have ynlt : y < 0 := ylt
          have e5 : IntKind.i64.wrap (y + (V : Int)) = y + (V : Int) := IntWalk.i64_in _ (by omega)
          have e6 : IntKind.i64.wrap (y + (V : Int) + 1) = (p : Int) := by rw [yeq]; exact IntWalk.i64_in _ (by omega)
          rcases Nat.eq_zero_or_pos p with h0 | h0
          · exact absurd h0 (by omega)
          · obtain ⟨q, rfl⟩ : ∃ q, p = q + 1 := ⟨p - 1, by omega⟩
            obtain ⟨bv_, Ax, cx, hvA, hvc, hvo⟩ := hR.verAt hkt (q := q) (by rw [← HVe.out]; omega)
            obtain ⟨bv2, Ax2, cx2, hvA2, hvc2, hvo2⟩ := HCt.out.rk.verAt hkt (q := q) (by rw [← HVe.out]; omega)
            have hbv : bv_ = bv2 := by rw [hvA] at hvA2; injection hvA2 with e; injection e
            subst hbv
            have hbl : bv_ < wr.heap.size := ((HCt.out.rk.vers k hkt).1.blk (show ablk (r1.v k).vA = some bv_ by rw [hvA]; rfl)).2
            have hce := (HB.out.cell (p := ⟨bv_, q, none⟩) hbl).symm.trans hvc
            rw [hvc2] at hce
            injection hce with hce
            injection hce with hce1 _ hce2
            subst hce1 hce2
            have hOx : Hid (Own wr base 5 1 Ax2 256 cx2 (bvs (pickX t ps i k))) := Lib.hid (by
              unfold pickX
              rw [← HX0.out, ← HVe.out, ← HPE.out, if_pos ⟨by rw [HL.out]; exact him, h0⟩, Nat.add_sub_cancel]
              exact hvo2)
            rw [hvA] at bx HX
            have hqV : (q : Int) < (V : Int) := by omega
            have eq1 : IntKind.i64.wrap (((q + 1 : Nat) : Int) - 1) = (q : Int) := by rw [IntWalk.i64_in _ (by omega)]; omega
            have eq2 : ((q + 1 : Nat) : Int) - 1 = (q : Int) := by omega
            have eq3 : IntKind.i64.wrap (q : Int) = (q : Int) := IntWalk.i64_in _ (by omega)
            clear hvA hvA2 hvc2 hvo hvo2 hbl
            generalize hAq : Ax2 = Ax at *
            generalize hcq : cx2 = cx at *
            clear hAq hcq
            go_upto_region 13 with fail
            have hX2 : Blk ((U2.setCell ⟨gx, 0, none⟩ (.slice Ax 256 cx)).setCell ⟨gx, 1, none⟩ (.slice none 0 0)) gx 92 [.slice Ax 256 cx, .slice none 0 0] := (HX.out.set_ 0 (.slice Ax 256 cx)).set_ 1 (.slice none 0 0)
            have hB2 : Below wr.heap.size wr ((U2.setCell ⟨gx, 0, none⟩ (.slice Ax 256 cx)).setCell ⟨gx, 1, none⟩ (.slice none 0 0)) := (HB.out.setCell (show wr.heap.size ≤ (⟨gx, 0, none⟩ : Addr).block from Nat.le_of_eq HGx.out.symm) (.slice Ax 256 cx)).setCell (show wr.heap.size ≤ (⟨gx, 1, none⟩ : Addr).block from Nat.le_of_eq HGx.out.symm) (.slice none 0 0)
            refine wp_world (fun W => Blk W gx 92 [.slice Ax 256 cx, .slice none 0 0] ∧ Below wr.heap.size wr W) ⟨hX2, hB2⟩ ?_
            clear hX2 hB2 HX HB bx fx hR
            rintro W ⟨hX, hB⟩
            have hbd : Below wr.heap.size wr W.drew := hB.drew
            have hRd := HCt.out.rk.below hbd (Nat.le_refl _)
            have bg := hRd.blk.cell 0
            rw [HA1.out, HCt.out.g, ← HG.out, HTN.out] at bg
            have hXr : W.drew.rangeAt gx 0 [.slice Ax 256 cx, .slice none 0 0] := fun q v hv => by
              rw [Nat.zero_add, show W.drew.cell? ⟨gx, q, none⟩ = _ from hX.cell q]; exact hv
            have hcells := hRd.cell hkt
            have hth : W.drew.there b (k * 2) 2 := fun q hq => by
              obtain ⟨b2, e2, x1, x2, x3, x4⟩ := hcells
              rw [HA1.out] at e2
              injection e2 with e2
              injection e2 with e2
              subst e2
              match q, hq with
              | 0, _ => exact ⟨by rw [Nat.add_zero, x1]; rfl, x3⟩
              | 1, _ => exact ⟨by rw [x2]; rfl, x4⟩
            have bg' : W.drew.cell? ⟨gd, 0, none⟩ = some (.slice (some ⟨b, 0, none⟩) s.n r1.c) := bg
            have gi' : W.drew.cell? ⟨gi, i, none⟩ = some (.int .i64 (k : Int)) := (hbd.cell (p := ⟨gi, i, none⟩) hgl).trans hgc
            have hgl2 : gi < W.drew.heap.size := by have := hbd.size; omega
            clear bg hcells
            refine wp_region_last (S := fun w' => w'.cell? ⟨gd, 0, none⟩ = some (.slice (some ⟨b, 0, none⟩) s.n r1.c) ∧ w'.cell? ⟨gi, i, none⟩ = some (.int .i64 (k : Int)) ∧ w'.rangeAt gx 0 [.slice Ax 256 cx, .slice none 0 0]) 10 (by kernel_rfl) rfl (by kernel_rfl) ?_ ?_
            · exact ⟨bg', gi', hXr⟩
            intro hHeld
            simp only [List.take_succ_cons, List.take_zero]
            refine wpAnyH_take (i := 0) (v := ?_) (by simp only [List.getElem?_toArray, List.getElem?_cons_succ, List.getElem?_cons_zero]; rfl) (by kernel_rfl) (by kernel_rfl) (by kernel_rfl) (fun _ _ _ h => h) (Or.inl ⟨by rfl, ?_⟩) hHeld ?_
            rotate_left
            · intro wz hSw; (try dsimp only at hSw); go_simp; try with_reducible rfl
            (try simp only [Act.put, List.setIfInBounds_toArray, List.set_cons_zero, List.set_cons_succ])
            refine wpAnyH_take (i := 1) (v := ?_) (by simp only [List.getElem?_toArray, List.getElem?_cons_succ, List.getElem?_cons_zero]; rfl) (by kernel_rfl) (by kernel_rfl) (by kernel_rfl) (fun _ _ _ h => h) (Or.inl ⟨by rfl, ?_⟩) hHeld ?_
            rotate_left
            · intro wz hSw; (try dsimp only at hSw); go_simp; try with_reducible rfl
            (try simp only [Act.put, List.setIfInBounds_toArray, List.set_cons_zero, List.set_cons_succ])
            refine wpAnyH_take (i := 2) (v := ?_) (by simp only [List.getElem?_toArray, List.getElem?_cons_succ, List.getElem?_cons_zero]; rfl) (by kernel_rfl) (by kernel_rfl) (by kernel_rfl) (fun _ _ _ h => h) (Or.inl ⟨by rfl, ?_⟩) hHeld ?_
            rotate_left
            · intro wz hSw; (try dsimp only at hSw); go_simp; try with_reducible rfl
            (try simp only [Act.put, List.setIfInBounds_toArray, List.set_cons_zero, List.set_cons_succ])
            refine wpAnyH_take (i := 3) (v := ?_) (by simp only [List.getElem?_toArray, List.getElem?_cons_succ, List.getElem?_cons_zero]; rfl) (by kernel_rfl) (by kernel_rfl) (by kernel_rfl) (fun _ _ _ h => h) (Or.inl ⟨by rfl, ?_⟩) hHeld ?_
            rotate_left
            · intro wz hSw; (try dsimp only at hSw); go_simp; try with_reducible rfl
            (try simp only [Act.put, List.setIfInBounds_toArray, List.set_cons_zero, List.set_cons_succ])
            refine wpAnyH_take (i := 4) (v := ?_) (by simp only [List.getElem?_toArray, List.getElem?_cons_succ, List.getElem?_cons_zero]; rfl) (by kernel_rfl) (by kernel_rfl) (by kernel_rfl) (fun _ _ _ h => h) (Or.inl ⟨by rfl, ?_⟩) hHeld ?_
            rotate_left
            · intro wz hSw; (try dsimp only at hSw); go_simp; try with_reducible rfl
            (try simp only [Act.put, List.setIfInBounds_toArray, List.set_cons_zero, List.set_cons_succ])
            refine wpAnyH_take (i := 5) (v := ?_) (by simp only [List.getElem?_toArray, List.getElem?_cons_succ, List.getElem?_cons_zero]; rfl) (by kernel_rfl) (by kernel_rfl) (by kernel_rfl) (fun _ _ _ h => h) (Or.inl ⟨by rfl, ?_⟩) hHeld ?_
            rotate_left
            · intro wz hSw; (try dsimp only at hSw); go_simp; try with_reducible rfl
            (try simp only [Act.put, List.setIfInBounds_toArray, List.set_cons_zero, List.set_cons_succ])
            refine wpAnyH_take (i := 6) (v := ?_) (by simp only [List.getElem?_toArray, List.getElem?_cons_succ, List.getElem?_cons_zero]; rfl) (by kernel_rfl) (by kernel_rfl) (by kernel_rfl) (fun _ _ _ h => h) (Or.inl ⟨by rfl, ?_⟩) hHeld ?_
            rotate_left
            · intro wz hSw; (try dsimp only at hSw); go_simp; try with_reducible rfl
            (try simp only [Act.put, List.setIfInBounds_toArray, List.set_cons_zero, List.set_cons_succ])
            refine wpAnyH_take (i := 7) (v := ?_) (by simp only [List.getElem?_toArray, List.getElem?_cons_succ, List.getElem?_cons_zero]; rfl) (by kernel_rfl) (by kernel_rfl) (by kernel_rfl) (fun _ _ _ h => h) (Or.inl ⟨by rfl, ?_⟩) hHeld ?_
            rotate_left
            · intro wz hSw; (try dsimp only at hSw); go_simp; try with_reducible rfl
            (try simp only [Act.put, List.setIfInBounds_toArray, List.set_cons_zero, List.set_cons_succ])
            refine wpAnyH_take (i := 8) (v := .agg #[.slice Ax 256 cx, .slice none 0 0]) (by simp only [List.getElem?_toArray, List.getElem?_cons_succ, List.getElem?_cons_zero]; rfl) (by kernel_rfl) (by kernel_rfl) (by kernel_rfl) (fun _ _ _ h => h) (yieldsIf_load_mid (by rfl) 92 (.tmp 6) rfl gx 0 (by rfl) [.slice Ax 256 cx, .slice none 0 0] _ (fun _ hS => hS.2.2) Try.underlying92 rfl (by rw [size102]; rfl)) hHeld ?_
            (try simp only [Act.put, List.setIfInBounds_toArray, List.set_cons_zero, List.set_cons_succ])
            refine wpAnyH_take (i := 9) (v := ?_) (by simp only [List.getElem?_toArray, List.getElem?_cons_succ, List.getElem?_cons_zero]; rfl) (by kernel_rfl) (by kernel_rfl) (by kernel_rfl) (fun _ _ _ h => h) (Or.inl ⟨by rfl, ?_⟩) hHeld ?_
            rotate_left
            · intro wz hSw; (try dsimp only at hSw); go_simp; try with_reducible rfl
            (try simp only [Act.put, List.setIfInBounds_toArray, List.set_cons_zero, List.set_cons_succ])
            refine wpAnyH_done (by kernel_rfl) ?_ _
            simp only [lastQ]
            refine wp_store_mid 92 (.tmp 69) (.tmp 68) rfl b (k * 2) #[.slice Ax 256 cx, .slice none 0 0] (by first | rfl | (go_simp; rfl)) (by first | rfl | (go_simp; rfl)) hth (by rw [size102]; rfl) (all_oneCell_toArray (two_one _ _ _ _ _ _)) ?_
            (try simp only [Act.put, List.setIfInBounds_toArray, List.set_cons_zero, List.set_cons_succ])
            have hfin := HCt.out.rk.both (w1 := W.drew) hkt HA1.out hbd (hOx.out.below hbd (Nat.le_refl _)) (pickX_len HCt.out.rk hkt) (vA := none) (vc := 0) (vv := []) (ls := []) (Own.nil_ _ _ _ _) .nil (fun y hy => by cases hy) (fun q hq => by cases hq)
            rw [upd_power, ← HStep.out, HTN.out] at hfin
            have hOw := own_kept HO.out hfin.K (fun b e => HOff.out b e)
            have hOf : ∀ y, ablk (some ⟨gi, 0, none⟩ : Option Addr) = some y → ¬ (r1.put k ⟨Ax, cx, none, 0, []⟩).foot s.n y := fun y e z => by
              rcases hfin.foot y z with z | z
              · exact HOff.out y e z
              · have := (HO.out.blk e).2; omega
            have hc2 := HCt.out.trans hfin
            have HF := Lib.hid hc2
            have HOw := Lib.hid hOw
            have HOf := Lib.hid hOf
            clear hfin hc2 hOw hOf hth hXr bg' gi' hHeld hbd hRd hX hB
            have hset : W.drew.setCells b (k * 2) [.slice Ax 256 cx, .slice none 0 0] = (W.drew.setCell ⟨b, k * 2, none⟩ (.slice Ax 256 cx)).setCell ⟨b, k * 2 + 1, none⟩ (.slice none 0 0) := rfl
            simp only [List.length_nil] at HF HOw
            rw [← hset] at HF HOw
            clear hset
            generalize W.drew.setCells b (k * 2) [.slice Ax 256 cx, .slice none 0 0] = W2 at *
            go_wp2
            go_roundw
            case rel => exact ⟨i + 1, _, by omega, by norm_cast, HF.out, ⟨lo1, HOw.out⟩, HOf.out⟩
            case measure => simp only [intOf]; omega
        · subst yeq
          rcases Nat.eq_zero_or_pos p with h0 | h0
          · subst h0
            obtain ⟨Ax, hAx⟩ : ∃ Ax, Ax = (r1.v k).lA := ⟨_, rfl⟩
            obtain ⟨cx, hcx⟩ : ∃ cx, cx = (r1.v k).lc := ⟨_, rfl⟩
            have hOx : Hid (Own wr base 5 1 Ax 256 cx (bvs (pickX t ps i k))) := Lib.hid (by
              unfold pickX
              rw [if_neg (by rw [← HX0.out, ← HVe.out, ← HPE.out]; omega), hAx, hcx]
              exact HCt.out.rk.lies k hkt)
            rw [← hAx, ← hcx] at bx HX
            clear hAx hcx
            go_upto_region 13 with fail
            have hX2 : Blk (U2.setCell ⟨gx, 1, none⟩ (.slice none 0 0)) gx 92 [.slice Ax 256 cx, .slice none 0 0] := HX.out.set_ 1 _
            have hB2 : Below wr.heap.size wr (U2.setCell ⟨gx, 1, none⟩ (.slice none 0 0)) := (HB.out).setCell (show wr.heap.size ≤ (⟨gx, 1, none⟩ : Addr).block from Nat.le_of_eq HGx.out.symm) (.slice none 0 0)
            refine wp_world (fun W => Blk W gx 92 [.slice Ax 256 cx, .slice none 0 0] ∧ Below wr.heap.size wr W) ⟨hX2, hB2⟩ ?_
            clear hX2 hB2 HX HB bx fx hR
            rintro W ⟨hX, hB⟩
            have hbd : Below wr.heap.size wr W.drew := hB.drew
            have hRd := HCt.out.rk.below hbd (Nat.le_refl _)
            have bg := hRd.blk.cell 0
            rw [HA1.out, HCt.out.g, ← HG.out, HTN.out] at bg
            have hXr : W.drew.rangeAt gx 0 [.slice Ax 256 cx, .slice none 0 0] := fun q v hv => by
              rw [Nat.zero_add, show W.drew.cell? ⟨gx, q, none⟩ = _ from hX.cell q]; exact hv
            have hcells := hRd.cell hkt
            have hth : W.drew.there b (k * 2) 2 := fun q hq => by
              obtain ⟨b2, e2, x1, x2, x3, x4⟩ := hcells
              rw [HA1.out] at e2
              injection e2 with e2
              injection e2 with e2
              subst e2
              match q, hq with
              | 0, _ => exact ⟨by rw [Nat.add_zero, x1]; rfl, x3⟩
              | 1, _ => exact ⟨by rw [x2]; rfl, x4⟩
            have bg' : W.drew.cell? ⟨gd, 0, none⟩ = some (.slice (some ⟨b, 0, none⟩) s.n r1.c) := bg
            have gi' : W.drew.cell? ⟨gi, i, none⟩ = some (.int .i64 (k : Int)) := (hbd.cell (p := ⟨gi, i, none⟩) hgl).trans hgc
            have hgl2 : gi < W.drew.heap.size := by have := hbd.size; omega
            clear bg hcells
            refine wp_region_last (S := fun w' => w'.cell? ⟨gd, 0, none⟩ = some (.slice (some ⟨b, 0, none⟩) s.n r1.c) ∧ w'.cell? ⟨gi, i, none⟩ = some (.int .i64 (k : Int)) ∧ w'.rangeAt gx 0 [.slice Ax 256 cx, .slice none 0 0]) 10 (by kernel_rfl) rfl (by kernel_rfl) ?_ ?_
            · exact ⟨bg', gi', hXr⟩
            intro hHeld
            simp only [List.take_succ_cons, List.take_zero]
            refine wpAnyH_take (i := 0) (v := ?_) (by simp only [List.getElem?_toArray, List.getElem?_cons_succ, List.getElem?_cons_zero]; rfl) (by kernel_rfl) (by kernel_rfl) (by kernel_rfl) (fun _ _ _ h => h) (Or.inl ⟨by rfl, ?_⟩) hHeld ?_
            rotate_left
            · intro wz hSw; (try dsimp only at hSw); go_simp; try with_reducible rfl
            (try simp only [Act.put, List.setIfInBounds_toArray, List.set_cons_zero, List.set_cons_succ])
            refine wpAnyH_take (i := 1) (v := ?_) (by simp only [List.getElem?_toArray, List.getElem?_cons_succ, List.getElem?_cons_zero]; rfl) (by kernel_rfl) (by kernel_rfl) (by kernel_rfl) (fun _ _ _ h => h) (Or.inl ⟨by rfl, ?_⟩) hHeld ?_
            rotate_left
            · intro wz hSw; (try dsimp only at hSw); go_simp; try with_reducible rfl
            (try simp only [Act.put, List.setIfInBounds_toArray, List.set_cons_zero, List.set_cons_succ])
            refine wpAnyH_take (i := 2) (v := ?_) (by simp only [List.getElem?_toArray, List.getElem?_cons_succ, List.getElem?_cons_zero]; rfl) (by kernel_rfl) (by kernel_rfl) (by kernel_rfl) (fun _ _ _ h => h) (Or.inl ⟨by rfl, ?_⟩) hHeld ?_
            rotate_left
            · intro wz hSw; (try dsimp only at hSw); go_simp; try with_reducible rfl
            (try simp only [Act.put, List.setIfInBounds_toArray, List.set_cons_zero, List.set_cons_succ])
            refine wpAnyH_take (i := 3) (v := ?_) (by simp only [List.getElem?_toArray, List.getElem?_cons_succ, List.getElem?_cons_zero]; rfl) (by kernel_rfl) (by kernel_rfl) (by kernel_rfl) (fun _ _ _ h => h) (Or.inl ⟨by rfl, ?_⟩) hHeld ?_
            rotate_left
            · intro wz hSw; (try dsimp only at hSw); go_simp; try with_reducible rfl
            (try simp only [Act.put, List.setIfInBounds_toArray, List.set_cons_zero, List.set_cons_succ])
            refine wpAnyH_take (i := 4) (v := ?_) (by simp only [List.getElem?_toArray, List.getElem?_cons_succ, List.getElem?_cons_zero]; rfl) (by kernel_rfl) (by kernel_rfl) (by kernel_rfl) (fun _ _ _ h => h) (Or.inl ⟨by rfl, ?_⟩) hHeld ?_
            rotate_left
            · intro wz hSw; (try dsimp only at hSw); go_simp; try with_reducible rfl
            (try simp only [Act.put, List.setIfInBounds_toArray, List.set_cons_zero, List.set_cons_succ])
            refine wpAnyH_take (i := 5) (v := ?_) (by simp only [List.getElem?_toArray, List.getElem?_cons_succ, List.getElem?_cons_zero]; rfl) (by kernel_rfl) (by kernel_rfl) (by kernel_rfl) (fun _ _ _ h => h) (Or.inl ⟨by rfl, ?_⟩) hHeld ?_
            rotate_left
            · intro wz hSw; (try dsimp only at hSw); go_simp; try with_reducible rfl
            (try simp only [Act.put, List.setIfInBounds_toArray, List.set_cons_zero, List.set_cons_succ])
            refine wpAnyH_take (i := 6) (v := ?_) (by simp only [List.getElem?_toArray, List.getElem?_cons_succ, List.getElem?_cons_zero]; rfl) (by kernel_rfl) (by kernel_rfl) (by kernel_rfl) (fun _ _ _ h => h) (Or.inl ⟨by rfl, ?_⟩) hHeld ?_
            rotate_left
            · intro wz hSw; (try dsimp only at hSw); go_simp; try with_reducible rfl
            (try simp only [Act.put, List.setIfInBounds_toArray, List.set_cons_zero, List.set_cons_succ])
            refine wpAnyH_take (i := 7) (v := ?_) (by simp only [List.getElem?_toArray, List.getElem?_cons_succ, List.getElem?_cons_zero]; rfl) (by kernel_rfl) (by kernel_rfl) (by kernel_rfl) (fun _ _ _ h => h) (Or.inl ⟨by rfl, ?_⟩) hHeld ?_
            rotate_left
            · intro wz hSw; (try dsimp only at hSw); go_simp; try with_reducible rfl
            (try simp only [Act.put, List.setIfInBounds_toArray, List.set_cons_zero, List.set_cons_succ])
            refine wpAnyH_take (i := 8) (v := .agg #[.slice Ax 256 cx, .slice none 0 0]) (by simp only [List.getElem?_toArray, List.getElem?_cons_succ, List.getElem?_cons_zero]; rfl) (by kernel_rfl) (by kernel_rfl) (by kernel_rfl) (fun _ _ _ h => h) (yieldsIf_load_mid (by rfl) 92 (.tmp 6) rfl gx 0 (by rfl) [.slice Ax 256 cx, .slice none 0 0] _ (fun _ hS => hS.2.2) Try.underlying92 rfl (by rw [size102]; rfl)) hHeld ?_
            (try simp only [Act.put, List.setIfInBounds_toArray, List.set_cons_zero, List.set_cons_succ])
            refine wpAnyH_take (i := 9) (v := ?_) (by simp only [List.getElem?_toArray, List.getElem?_cons_succ, List.getElem?_cons_zero]; rfl) (by kernel_rfl) (by kernel_rfl) (by kernel_rfl) (fun _ _ _ h => h) (Or.inl ⟨by rfl, ?_⟩) hHeld ?_
            rotate_left
            · intro wz hSw; (try dsimp only at hSw); go_simp; try with_reducible rfl
            (try simp only [Act.put, List.setIfInBounds_toArray, List.set_cons_zero, List.set_cons_succ])
            refine wpAnyH_done (by kernel_rfl) ?_ _
            simp only [lastQ]
            refine wp_store_mid 92 (.tmp 69) (.tmp 68) rfl b (k * 2) #[.slice Ax 256 cx, .slice none 0 0] (by first | rfl | (go_simp; rfl)) (by first | rfl | (go_simp; rfl)) hth (by rw [size102]; rfl) (all_oneCell_toArray (two_one _ _ _ _ _ _)) ?_
            (try simp only [Act.put, List.setIfInBounds_toArray, List.set_cons_zero, List.set_cons_succ])
            have hfin := HCt.out.rk.both (w1 := W.drew) hkt HA1.out hbd (hOx.out.below hbd (Nat.le_refl _)) (pickX_len HCt.out.rk hkt) (vA := none) (vc := 0) (vv := []) (ls := []) (Own.nil_ _ _ _ _) .nil (fun y hy => by cases hy) (fun q hq => by cases hq)
            rw [upd_power, ← HStep.out, HTN.out] at hfin
            have hOw := own_kept HO.out hfin.K (fun b e => HOff.out b e)
            have hOf : ∀ y, ablk (some ⟨gi, 0, none⟩ : Option Addr) = some y → ¬ (r1.put k ⟨Ax, cx, none, 0, []⟩).foot s.n y := fun y e z => by
              rcases hfin.foot y z with z | z
              · exact HOff.out y e z
              · have := (HO.out.blk e).2; omega
            have hc2 := HCt.out.trans hfin
            have HF := Lib.hid hc2
            have HOw := Lib.hid hOw
            have HOf := Lib.hid hOf
            clear hfin hc2 hOw hOf hth hXr bg' gi' hHeld hbd hRd hX hB
            have hset : W.drew.setCells b (k * 2) [.slice Ax 256 cx, .slice none 0 0] = (W.drew.setCell ⟨b, k * 2, none⟩ (.slice Ax 256 cx)).setCell ⟨b, k * 2 + 1, none⟩ (.slice none 0 0) := rfl
            simp only [List.length_nil] at HF HOw
            rw [← hset] at HF HOw
            clear hset
            generalize W.drew.setCells b (k * 2) [.slice Ax 256 cx, .slice none 0 0] = W2 at *
            go_wp2
            go_roundw
            case rel => exact ⟨i + 1, _, by omega, by norm_cast, HF.out, ⟨lo1, HOw.out⟩, HOf.out⟩
            case measure => simp only [intOf]; omega
          · obtain ⟨q, rfl⟩ : ∃ q, p = q + 1 := ⟨p - 1, by omega⟩
            obtain ⟨bv_, Ax, cx, hvA, hvc, hvo⟩ := hR.verAt hkt (q := q) (by rw [← HVe.out]; omega)
            obtain ⟨bv2, Ax2, cx2, hvA2, hvc2, hvo2⟩ := HCt.out.rk.verAt hkt (q := q) (by rw [← HVe.out]; omega)
            have hbv : bv_ = bv2 := by rw [hvA] at hvA2; injection hvA2 with e; injection e
            subst hbv
            have hbl : bv_ < wr.heap.size := ((HCt.out.rk.vers k hkt).1.blk (show ablk (r1.v k).vA = some bv_ by rw [hvA]; rfl)).2
            have hce := (HB.out.cell (p := ⟨bv_, q, none⟩) hbl).symm.trans hvc
            rw [hvc2] at hce
            injection hce with hce
            injection hce with hce1 _ hce2
            subst hce1 hce2
            have hOx : Hid (Own wr base 5 1 Ax2 256 cx2 (bvs (pickX t ps i k))) := Lib.hid (by
              unfold pickX
              rw [← HX0.out, ← HVe.out, ← HPE.out, if_pos ⟨by rw [HL.out]; exact him, h0⟩, Nat.add_sub_cancel]
              exact hvo2)
            rw [hvA] at bx HX
            have hqV : (q : Int) < (V : Int) := by omega
            have eq1 : IntKind.i64.wrap (((q + 1 : Nat) : Int) - 1) = (q : Int) := by rw [IntWalk.i64_in _ (by omega)]; omega
            have eq2 : ((q + 1 : Nat) : Int) - 1 = (q : Int) := by omega
            have eq3 : IntKind.i64.wrap (q : Int) = (q : Int) := IntWalk.i64_in _ (by omega)
            clear hvA hvA2 hvc2 hvo hvo2 hbl
            generalize hAq : Ax2 = Ax at *
            generalize hcq : cx2 = cx at *
            clear hAq hcq
            go_upto_region 13 with fail
            have hX2 : Blk ((U2.setCell ⟨gx, 0, none⟩ (.slice Ax 256 cx)).setCell ⟨gx, 1, none⟩ (.slice none 0 0)) gx 92 [.slice Ax 256 cx, .slice none 0 0] := (HX.out.set_ 0 (.slice Ax 256 cx)).set_ 1 (.slice none 0 0)
            have hB2 : Below wr.heap.size wr ((U2.setCell ⟨gx, 0, none⟩ (.slice Ax 256 cx)).setCell ⟨gx, 1, none⟩ (.slice none 0 0)) := (HB.out.setCell (show wr.heap.size ≤ (⟨gx, 0, none⟩ : Addr).block from Nat.le_of_eq HGx.out.symm) (.slice Ax 256 cx)).setCell (show wr.heap.size ≤ (⟨gx, 1, none⟩ : Addr).block from Nat.le_of_eq HGx.out.symm) (.slice none 0 0)
            refine wp_world (fun W => Blk W gx 92 [.slice Ax 256 cx, .slice none 0 0] ∧ Below wr.heap.size wr W) ⟨hX2, hB2⟩ ?_
            clear hX2 hB2 HX HB bx fx hR
            rintro W ⟨hX, hB⟩
            have hbd : Below wr.heap.size wr W.drew := hB.drew
            have hRd := HCt.out.rk.below hbd (Nat.le_refl _)
            have bg := hRd.blk.cell 0
            rw [HA1.out, HCt.out.g, ← HG.out, HTN.out] at bg
            have hXr : W.drew.rangeAt gx 0 [.slice Ax 256 cx, .slice none 0 0] := fun q v hv => by
              rw [Nat.zero_add, show W.drew.cell? ⟨gx, q, none⟩ = _ from hX.cell q]; exact hv
            have hcells := hRd.cell hkt
            have hth : W.drew.there b (k * 2) 2 := fun q hq => by
              obtain ⟨b2, e2, x1, x2, x3, x4⟩ := hcells
              rw [HA1.out] at e2
              injection e2 with e2
              injection e2 with e2
              subst e2
              match q, hq with
              | 0, _ => exact ⟨by rw [Nat.add_zero, x1]; rfl, x3⟩
              | 1, _ => exact ⟨by rw [x2]; rfl, x4⟩
            have bg' : W.drew.cell? ⟨gd, 0, none⟩ = some (.slice (some ⟨b, 0, none⟩) s.n r1.c) := bg
            have gi' : W.drew.cell? ⟨gi, i, none⟩ = some (.int .i64 (k : Int)) := (hbd.cell (p := ⟨gi, i, none⟩) hgl).trans hgc
            have hgl2 : gi < W.drew.heap.size := by have := hbd.size; omega
            clear bg hcells
            refine wp_region_last (S := fun w' => w'.cell? ⟨gd, 0, none⟩ = some (.slice (some ⟨b, 0, none⟩) s.n r1.c) ∧ w'.cell? ⟨gi, i, none⟩ = some (.int .i64 (k : Int)) ∧ w'.rangeAt gx 0 [.slice Ax 256 cx, .slice none 0 0]) 10 (by kernel_rfl) rfl (by kernel_rfl) ?_ ?_
            · exact ⟨bg', gi', hXr⟩
            intro hHeld
            simp only [List.take_succ_cons, List.take_zero]
            refine wpAnyH_take (i := 0) (v := ?_) (by simp only [List.getElem?_toArray, List.getElem?_cons_succ, List.getElem?_cons_zero]; rfl) (by kernel_rfl) (by kernel_rfl) (by kernel_rfl) (fun _ _ _ h => h) (Or.inl ⟨by rfl, ?_⟩) hHeld ?_
            rotate_left
            · intro wz hSw; (try dsimp only at hSw); go_simp; try with_reducible rfl
            (try simp only [Act.put, List.setIfInBounds_toArray, List.set_cons_zero, List.set_cons_succ])
            refine wpAnyH_take (i := 1) (v := ?_) (by simp only [List.getElem?_toArray, List.getElem?_cons_succ, List.getElem?_cons_zero]; rfl) (by kernel_rfl) (by kernel_rfl) (by kernel_rfl) (fun _ _ _ h => h) (Or.inl ⟨by rfl, ?_⟩) hHeld ?_
            rotate_left
            · intro wz hSw; (try dsimp only at hSw); go_simp; try with_reducible rfl
            (try simp only [Act.put, List.setIfInBounds_toArray, List.set_cons_zero, List.set_cons_succ])
            refine wpAnyH_take (i := 2) (v := ?_) (by simp only [List.getElem?_toArray, List.getElem?_cons_succ, List.getElem?_cons_zero]; rfl) (by kernel_rfl) (by kernel_rfl) (by kernel_rfl) (fun _ _ _ h => h) (Or.inl ⟨by rfl, ?_⟩) hHeld ?_
            rotate_left
            · intro wz hSw; (try dsimp only at hSw); go_simp; try with_reducible rfl
            (try simp only [Act.put, List.setIfInBounds_toArray, List.set_cons_zero, List.set_cons_succ])
            refine wpAnyH_take (i := 3) (v := ?_) (by simp only [List.getElem?_toArray, List.getElem?_cons_succ, List.getElem?_cons_zero]; rfl) (by kernel_rfl) (by kernel_rfl) (by kernel_rfl) (fun _ _ _ h => h) (Or.inl ⟨by rfl, ?_⟩) hHeld ?_
            rotate_left
            · intro wz hSw; (try dsimp only at hSw); go_simp; try with_reducible rfl
            (try simp only [Act.put, List.setIfInBounds_toArray, List.set_cons_zero, List.set_cons_succ])
            refine wpAnyH_take (i := 4) (v := ?_) (by simp only [List.getElem?_toArray, List.getElem?_cons_succ, List.getElem?_cons_zero]; rfl) (by kernel_rfl) (by kernel_rfl) (by kernel_rfl) (fun _ _ _ h => h) (Or.inl ⟨by rfl, ?_⟩) hHeld ?_
            rotate_left
            · intro wz hSw; (try dsimp only at hSw); go_simp; try with_reducible rfl
            (try simp only [Act.put, List.setIfInBounds_toArray, List.set_cons_zero, List.set_cons_succ])
            refine wpAnyH_take (i := 5) (v := ?_) (by simp only [List.getElem?_toArray, List.getElem?_cons_succ, List.getElem?_cons_zero]; rfl) (by kernel_rfl) (by kernel_rfl) (by kernel_rfl) (fun _ _ _ h => h) (Or.inl ⟨by rfl, ?_⟩) hHeld ?_
            rotate_left
            · intro wz hSw; (try dsimp only at hSw); go_simp; try with_reducible rfl
            (try simp only [Act.put, List.setIfInBounds_toArray, List.set_cons_zero, List.set_cons_succ])
            refine wpAnyH_take (i := 6) (v := ?_) (by simp only [List.getElem?_toArray, List.getElem?_cons_succ, List.getElem?_cons_zero]; rfl) (by kernel_rfl) (by kernel_rfl) (by kernel_rfl) (fun _ _ _ h => h) (Or.inl ⟨by rfl, ?_⟩) hHeld ?_
            rotate_left
            · intro wz hSw; (try dsimp only at hSw); go_simp; try with_reducible rfl
            (try simp only [Act.put, List.setIfInBounds_toArray, List.set_cons_zero, List.set_cons_succ])
            refine wpAnyH_take (i := 7) (v := ?_) (by simp only [List.getElem?_toArray, List.getElem?_cons_succ, List.getElem?_cons_zero]; rfl) (by kernel_rfl) (by kernel_rfl) (by kernel_rfl) (fun _ _ _ h => h) (Or.inl ⟨by rfl, ?_⟩) hHeld ?_
            rotate_left
            · intro wz hSw; (try dsimp only at hSw); go_simp; try with_reducible rfl
            (try simp only [Act.put, List.setIfInBounds_toArray, List.set_cons_zero, List.set_cons_succ])
            refine wpAnyH_take (i := 8) (v := .agg #[.slice Ax 256 cx, .slice none 0 0]) (by simp only [List.getElem?_toArray, List.getElem?_cons_succ, List.getElem?_cons_zero]; rfl) (by kernel_rfl) (by kernel_rfl) (by kernel_rfl) (fun _ _ _ h => h) (yieldsIf_load_mid (by rfl) 92 (.tmp 6) rfl gx 0 (by rfl) [.slice Ax 256 cx, .slice none 0 0] _ (fun _ hS => hS.2.2) Try.underlying92 rfl (by rw [size102]; rfl)) hHeld ?_
            (try simp only [Act.put, List.setIfInBounds_toArray, List.set_cons_zero, List.set_cons_succ])
            refine wpAnyH_take (i := 9) (v := ?_) (by simp only [List.getElem?_toArray, List.getElem?_cons_succ, List.getElem?_cons_zero]; rfl) (by kernel_rfl) (by kernel_rfl) (by kernel_rfl) (fun _ _ _ h => h) (Or.inl ⟨by rfl, ?_⟩) hHeld ?_
            rotate_left
            · intro wz hSw; (try dsimp only at hSw); go_simp; try with_reducible rfl
            (try simp only [Act.put, List.setIfInBounds_toArray, List.set_cons_zero, List.set_cons_succ])
            refine wpAnyH_done (by kernel_rfl) ?_ _
            simp only [lastQ]
            refine wp_store_mid 92 (.tmp 69) (.tmp 68) rfl b (k * 2) #[.slice Ax 256 cx, .slice none 0 0] (by first | rfl | (go_simp; rfl)) (by first | rfl | (go_simp; rfl)) hth (by rw [size102]; rfl) (all_oneCell_toArray (two_one _ _ _ _ _ _)) ?_
            (try simp only [Act.put, List.setIfInBounds_toArray, List.set_cons_zero, List.set_cons_succ])
            have hfin := HCt.out.rk.both (w1 := W.drew) hkt HA1.out hbd (hOx.out.below hbd (Nat.le_refl _)) (pickX_len HCt.out.rk hkt) (vA := none) (vc := 0) (vv := []) (ls := []) (Own.nil_ _ _ _ _) .nil (fun y hy => by cases hy) (fun q hq => by cases hq)
            rw [upd_power, ← HStep.out, HTN.out] at hfin
            have hOw := own_kept HO.out hfin.K (fun b e => HOff.out b e)
            have hOf : ∀ y, ablk (some ⟨gi, 0, none⟩ : Option Addr) = some y → ¬ (r1.put k ⟨Ax, cx, none, 0, []⟩).foot s.n y := fun y e z => by
              rcases hfin.foot y z with z | z
              · exact HOff.out y e z
              · have := (HO.out.blk e).2; omega
            have hc2 := HCt.out.trans hfin
            have HF := Lib.hid hc2
            have HOw := Lib.hid hOw
            have HOf := Lib.hid hOf
            clear hfin hc2 hOw hOf hth hXr bg' gi' hHeld hbd hRd hX hB
            have hset : W.drew.setCells b (k * 2) [.slice Ax 256 cx, .slice none 0 0] = (W.drew.setCell ⟨b, k * 2, none⟩ (.slice Ax 256 cx)).setCell ⟨b, k * 2 + 1, none⟩ (.slice none 0 0) := rfl
            simp only [List.length_nil] at HF HOw
            rw [← hset] at HF HOw
            clear hset
            generalize W.drew.setCells b (k * 2) [.slice Ax 256 cx, .slice none 0 0] = W2 at *
            go_wp2
            go_roundw
            case rel => exact ⟨i + 1, _, by omega, by norm_cast, HF.out, ⟨lo1, HOw.out⟩, HOf.out⟩
            case measure => simp only [intOf]; omega
      · have hiM : ¬ (i : Int) < (m : Int) := by omega
        obtain ⟨Ax, hAx⟩ : ∃ Ax, Ax = (r1.v k).lA := ⟨_, rfl⟩
        obtain ⟨cx, hcx⟩ : ∃ cx, cx = (r1.v k).lc := ⟨_, rfl⟩
        have hOx : Hid (Own wr base 5 1 Ax 256 cx (bvs (pickX t ps i k))) := Lib.hid (by
          unfold pickX
          rw [if_neg (by rw [HL.out]; omega), hAx, hcx]
          exact HCt.out.rk.lies k hkt)
        rw [← hAx, ← hcx] at bx HX
        clear hAx hcx
        go_upto_region 13 with fail
        have hX2 : Blk (U.setCell ⟨gx, 1, none⟩ (.slice none 0 0)) gx 92 [.slice Ax 256 cx, .slice none 0 0] := HX.out.set_ 1 _
        have hB2 : Below wr.heap.size wr (U.setCell ⟨gx, 1, none⟩ (.slice none 0 0)) := (HB.out).setCell (show wr.heap.size ≤ (⟨gx, 1, none⟩ : Addr).block from Nat.le_of_eq HGx.out.symm) (.slice none 0 0)
        refine wp_world (fun W => Blk W gx 92 [.slice Ax 256 cx, .slice none 0 0] ∧ Below wr.heap.size wr W) ⟨hX2, hB2⟩ ?_
        clear hX2 hB2 HX HB bx fx hR
        rintro W ⟨hX, hB⟩
        have hbd : Below wr.heap.size wr W.drew := hB.drew
        have hRd := HCt.out.rk.below hbd (Nat.le_refl _)
        have bg := hRd.blk.cell 0
        rw [HA1.out, HCt.out.g, ← HG.out, HTN.out] at bg
        have hXr : W.drew.rangeAt gx 0 [.slice Ax 256 cx, .slice none 0 0] := fun q v hv => by
          rw [Nat.zero_add, show W.drew.cell? ⟨gx, q, none⟩ = _ from hX.cell q]; exact hv
        have hcells := hRd.cell hkt
        have hth : W.drew.there b (k * 2) 2 := fun q hq => by
          obtain ⟨b2, e2, x1, x2, x3, x4⟩ := hcells
          rw [HA1.out] at e2
          injection e2 with e2
          injection e2 with e2
          subst e2
          match q, hq with
          | 0, _ => exact ⟨by rw [Nat.add_zero, x1]; rfl, x3⟩
          | 1, _ => exact ⟨by rw [x2]; rfl, x4⟩
        have bg' : W.drew.cell? ⟨gd, 0, none⟩ = some (.slice (some ⟨b, 0, none⟩) s.n r1.c) := bg
        have gi' : W.drew.cell? ⟨gi, i, none⟩ = some (.int .i64 (k : Int)) := (hbd.cell (p := ⟨gi, i, none⟩) hgl).trans hgc
        have hgl2 : gi < W.drew.heap.size := by have := hbd.size; omega
        clear bg hcells
        refine wp_region_last (S := fun w' => w'.cell? ⟨gd, 0, none⟩ = some (.slice (some ⟨b, 0, none⟩) s.n r1.c) ∧ w'.cell? ⟨gi, i, none⟩ = some (.int .i64 (k : Int)) ∧ w'.rangeAt gx 0 [.slice Ax 256 cx, .slice none 0 0]) 10 (by kernel_rfl) rfl (by kernel_rfl) ?_ ?_
        · exact ⟨bg', gi', hXr⟩
        intro hHeld
        simp only [List.take_succ_cons, List.take_zero]
        refine wpAnyH_take (i := 0) (v := ?_) (by simp only [List.getElem?_toArray, List.getElem?_cons_succ, List.getElem?_cons_zero]; rfl) (by kernel_rfl) (by kernel_rfl) (by kernel_rfl) (fun _ _ _ h => h) (Or.inl ⟨by rfl, ?_⟩) hHeld ?_
        rotate_left
        · intro wz hSw; (try dsimp only at hSw); go_simp; try with_reducible rfl
        (try simp only [Act.put, List.setIfInBounds_toArray, List.set_cons_zero, List.set_cons_succ])
        refine wpAnyH_take (i := 1) (v := ?_) (by simp only [List.getElem?_toArray, List.getElem?_cons_succ, List.getElem?_cons_zero]; rfl) (by kernel_rfl) (by kernel_rfl) (by kernel_rfl) (fun _ _ _ h => h) (Or.inl ⟨by rfl, ?_⟩) hHeld ?_
        rotate_left
        · intro wz hSw; (try dsimp only at hSw); go_simp; try with_reducible rfl
        (try simp only [Act.put, List.setIfInBounds_toArray, List.set_cons_zero, List.set_cons_succ])
        refine wpAnyH_take (i := 2) (v := ?_) (by simp only [List.getElem?_toArray, List.getElem?_cons_succ, List.getElem?_cons_zero]; rfl) (by kernel_rfl) (by kernel_rfl) (by kernel_rfl) (fun _ _ _ h => h) (Or.inl ⟨by rfl, ?_⟩) hHeld ?_
        rotate_left
        · intro wz hSw; (try dsimp only at hSw); go_simp; try with_reducible rfl
        (try simp only [Act.put, List.setIfInBounds_toArray, List.set_cons_zero, List.set_cons_succ])
        refine wpAnyH_take (i := 3) (v := ?_) (by simp only [List.getElem?_toArray, List.getElem?_cons_succ, List.getElem?_cons_zero]; rfl) (by kernel_rfl) (by kernel_rfl) (by kernel_rfl) (fun _ _ _ h => h) (Or.inl ⟨by rfl, ?_⟩) hHeld ?_
        rotate_left
        · intro wz hSw; (try dsimp only at hSw); go_simp; try with_reducible rfl
        (try simp only [Act.put, List.setIfInBounds_toArray, List.set_cons_zero, List.set_cons_succ])
        refine wpAnyH_take (i := 4) (v := ?_) (by simp only [List.getElem?_toArray, List.getElem?_cons_succ, List.getElem?_cons_zero]; rfl) (by kernel_rfl) (by kernel_rfl) (by kernel_rfl) (fun _ _ _ h => h) (Or.inl ⟨by rfl, ?_⟩) hHeld ?_
        rotate_left
        · intro wz hSw; (try dsimp only at hSw); go_simp; try with_reducible rfl
        (try simp only [Act.put, List.setIfInBounds_toArray, List.set_cons_zero, List.set_cons_succ])
        refine wpAnyH_take (i := 5) (v := ?_) (by simp only [List.getElem?_toArray, List.getElem?_cons_succ, List.getElem?_cons_zero]; rfl) (by kernel_rfl) (by kernel_rfl) (by kernel_rfl) (fun _ _ _ h => h) (Or.inl ⟨by rfl, ?_⟩) hHeld ?_
        rotate_left
        · intro wz hSw; (try dsimp only at hSw); go_simp; try with_reducible rfl
        (try simp only [Act.put, List.setIfInBounds_toArray, List.set_cons_zero, List.set_cons_succ])
        refine wpAnyH_take (i := 6) (v := ?_) (by simp only [List.getElem?_toArray, List.getElem?_cons_succ, List.getElem?_cons_zero]; rfl) (by kernel_rfl) (by kernel_rfl) (by kernel_rfl) (fun _ _ _ h => h) (Or.inl ⟨by rfl, ?_⟩) hHeld ?_
        rotate_left
        · intro wz hSw; (try dsimp only at hSw); go_simp; try with_reducible rfl
        (try simp only [Act.put, List.setIfInBounds_toArray, List.set_cons_zero, List.set_cons_succ])
        refine wpAnyH_take (i := 7) (v := ?_) (by simp only [List.getElem?_toArray, List.getElem?_cons_succ, List.getElem?_cons_zero]; rfl) (by kernel_rfl) (by kernel_rfl) (by kernel_rfl) (fun _ _ _ h => h) (Or.inl ⟨by rfl, ?_⟩) hHeld ?_
        rotate_left
        · intro wz hSw; (try dsimp only at hSw); go_simp; try with_reducible rfl
        (try simp only [Act.put, List.setIfInBounds_toArray, List.set_cons_zero, List.set_cons_succ])
        refine wpAnyH_take (i := 8) (v := .agg #[.slice Ax 256 cx, .slice none 0 0]) (by simp only [List.getElem?_toArray, List.getElem?_cons_succ, List.getElem?_cons_zero]; rfl) (by kernel_rfl) (by kernel_rfl) (by kernel_rfl) (fun _ _ _ h => h) (yieldsIf_load_mid (by rfl) 92 (.tmp 6) rfl gx 0 (by rfl) [.slice Ax 256 cx, .slice none 0 0] _ (fun _ hS => hS.2.2) Try.underlying92 rfl (by rw [size102]; rfl)) hHeld ?_
        (try simp only [Act.put, List.setIfInBounds_toArray, List.set_cons_zero, List.set_cons_succ])
        refine wpAnyH_take (i := 9) (v := ?_) (by simp only [List.getElem?_toArray, List.getElem?_cons_succ, List.getElem?_cons_zero]; rfl) (by kernel_rfl) (by kernel_rfl) (by kernel_rfl) (fun _ _ _ h => h) (Or.inl ⟨by rfl, ?_⟩) hHeld ?_
        rotate_left
        · intro wz hSw; (try dsimp only at hSw); go_simp; try with_reducible rfl
        (try simp only [Act.put, List.setIfInBounds_toArray, List.set_cons_zero, List.set_cons_succ])
        refine wpAnyH_done (by kernel_rfl) ?_ _
        simp only [lastQ]
        refine wp_store_mid 92 (.tmp 69) (.tmp 68) rfl b (k * 2) #[.slice Ax 256 cx, .slice none 0 0] (by first | rfl | (go_simp; rfl)) (by first | rfl | (go_simp; rfl)) hth (by rw [size102]; rfl) (all_oneCell_toArray (two_one _ _ _ _ _ _)) ?_
        (try simp only [Act.put, List.setIfInBounds_toArray, List.set_cons_zero, List.set_cons_succ])
        have hfin := HCt.out.rk.both (w1 := W.drew) hkt HA1.out hbd (hOx.out.below hbd (Nat.le_refl _)) (pickX_len HCt.out.rk hkt) (vA := none) (vc := 0) (vv := []) (ls := []) (Own.nil_ _ _ _ _) .nil (fun y hy => by cases hy) (fun q hq => by cases hq)
        rw [upd_power, ← HStep.out, HTN.out] at hfin
        have hOw := own_kept HO.out hfin.K (fun b e => HOff.out b e)
        have hOf : ∀ y, ablk (some ⟨gi, 0, none⟩ : Option Addr) = some y → ¬ (r1.put k ⟨Ax, cx, none, 0, []⟩).foot s.n y := fun y e z => by
          rcases hfin.foot y z with z | z
          · exact HOff.out y e z
          · have := (HO.out.blk e).2; omega
        have hc2 := HCt.out.trans hfin
        have HF := Lib.hid hc2
        have HOw := Lib.hid hOw
        have HOf := Lib.hid hOf
        clear hfin hc2 hOw hOf hth hXr bg' gi' hHeld hbd hRd hX hB
        have hset : W.drew.setCells b (k * 2) [.slice Ax 256 cx, .slice none 0 0] = (W.drew.setCell ⟨b, k * 2, none⟩ (.slice Ax 256 cx)).setCell ⟨b, k * 2 + 1, none⟩ (.slice none 0 0) := rfl
        simp only [List.length_nil] at HF HOw
        rw [← hset] at HF HOw
        clear hset
        generalize W.drew.setCells b (k * 2) [.slice Ax 256 cx, .slice none 0 0] = W2 at *
        go_wp2
        go_roundw
        case rel => exact ⟨i + 1, _, by omega, by norm_cast, HF.out, ⟨lo1, HOw.out⟩, HOf.out⟩
        case measure => simp only [intOf]; omega
    · obtain rfl : i = dl.length := by omega
      go_wp2
      go_end0
      refine ⟨rfl, r1, ?_⟩
      have hc := HCh.out
      unfold powerD
      rw [HDL.out] at hc
      exact hc
end Go.Proofs.Ytdbhagnnpjcpmaa
