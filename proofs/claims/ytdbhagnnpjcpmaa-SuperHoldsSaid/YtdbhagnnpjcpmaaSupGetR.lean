/- kistref10.Get reads a superblock as the plain function does. -/
import Derived.Test.YtdbhagnnpjcpmaaSupGets
import Derived.Test.YtdbhagnnpjcpmaaSupPut2
import Derived.Test.YtdbhagnnpjcpmaaLastOp
import Derived.Deep.RegionHeld3
namespace Go.Proofs.Ytdbhagnnpjcpmaa
open Go.RowKit

set_option maxHeartbeats 1000000 in
theorem rsget_len {A : Option Addr} {m c : Nat} {w : World} (hm : m ≠ 256) :
    Calls Try.prog 59 #[.slice A m c] w fun e w' => e = .returned (.tuple #[.agg #[.int .i64 0, .int .i64 0, .int .i64 0, .slice none 0 0], .bool false]) ∧ Below w.heap.size w w' := by
  have h1 : ((m : Int) == 256) = false := beq_eq_false_iff_ne.2 (by omega)
  have hz := zero32
  go_enter Try.func59, Try.ntmps59
  go_wp2
  refine bodyPost_ret (v := .tuple #[.agg #[.int .i64 0, .int .i64 0, .int .i64 0, .slice none 0 0], .bool false]) (by simp [results, Try.results59, go_sem]) rfl ⟨rfl, ?_⟩
  exact (Below.refl _ _).alloc (Nat.le_refl _) _

theorem below_cell' {w V : World} {b o : Nat} {v : Value} (h : Below w.heap.size w V) (hb : b < w.heap.size) (hc : w.cell? ⟨b, o, none⟩ = some v) : V.cell? ⟨b, o, none⟩ = some v := (h.cell (p := ⟨b, o, none⟩) hb).trans hc
theorem value_at (i k : Nat) {b o c lo : Nat} {l : List UInt8} {w W : World} (hb : Bs w lo (some ⟨b, o, none⟩) 256 c l) (hW : Below w.heap.size w W) (hk : k ≤ 4) (hi : i + k ≤ 256) :
    Calls Try.prog 84 #[.slice (some ⟨b, o + i, none⟩) k (c - i)] W fun e w' => e = .returned (.int .i64 (leN (part l i k) : Nat)) ∧ W = w' := by
  have hq := hb.cut i (i + k) (by omega) (by omega)
  rw [Nat.add_sub_cancel_left] at hq
  exact value_any (hq.below hW (Nat.le_refl _)) hk

set_option maxRecDepth 100000 in
set_option maxHeartbeats 4000000 in
theorem rsget_main {A : Option Addr} {c lo : Nat} {l : List UInt8} {w : World} (hb : Bs w lo A 256 c l) :
    Calls Try.prog 59 #[.slice A 256 c] w (SGet w (getS l)) := by
  obtain ⟨b, o, rfl, _, hbs⟩ := hb.at_ (by omega)
  have c14 := hb.cell 14 (by omega)
  have hz := zero32
  have HB := Lib.hid hb
  have hl := Lib.hid hb.1
  have hc1 := hb.2.1
  have hc2 := hb.2.2.1
  have hc4 : ¬ c = 4 := by omega
  have hc8 : ¬ c = 8 := by omega
  have hc10 : ¬ c = 10 := by omega
  have hcA : (8 : Int) ≤ (c : Int) := by omega
  have hcB : (10 : Int) ≤ (c : Int) := by omega
  have hcC : (14 : Int) ≤ (c : Int) := by omega
  clear hb
  have HG : Hid (getS l = if l.length = 256 ∧ (l.getD 14 0).toNat ≤ 8 ∧ supOk (supD l) ∧ putS (supD l) = l then some (supD l) else none) := rfl
  have HD : Hid (supD l = ⟨leN (part l 4 4), leN (part l 8 2), leN (part l 10 4), (List.range (l.getD 14 0).toNat).map (verD l)⟩) := rfl
  have h256 := (l.getD 14 0).toNat_lt
  generalize (l.getD 14 0).toNat = N at *
  have V1 : Hid (∀ W, Below w.heap.size w W → Calls Try.prog 84 #[.slice (some ⟨b, o + 4, none⟩) 4 (c - 4)] W fun e w' => e = .returned (.int .i64 (leN (part l 4 4) : Nat)) ∧ W = w') := fun W hW => value_at 4 4 HB.out hW (by omega) (by omega)
  have V2 : Hid (∀ W, Below w.heap.size w W → Calls Try.prog 84 #[.slice (some ⟨b, o + 8, none⟩) 2 (c - 8)] W fun e w' => e = .returned (.int .i64 (leN (part l 8 2) : Nat)) ∧ W = w') := fun W hW => value_at 8 2 HB.out hW (by omega) (by omega)
  have V3 : Hid (∀ W, Below w.heap.size w W → Calls Try.prog 84 #[.slice (some ⟨b, o + 10, none⟩) 4 (c - 10)] W fun e w' => e = .returned (.int .i64 (leN (part l 10 4) : Nat)) ∧ W = w') := fun W hW => value_at 10 4 HB.out hW (by omega) (by omega)
  generalize leN (part l 4 4) = G at *
  generalize leN (part l 8 2) = S at *
  generalize leN (part l 10 4) = X at *
  go_enter Try.func59, Try.ntmps59
  go_upto_region 3 with fail
  refine wp_world (fun V => Blk V w.heap.size 32 [.int .i64 0, .int .i64 0, .int .i64 0, .slice none 0 0] ∧ Below w.heap.size w V ∧ V.heap.size = w.heap.size + 1)
    ⟨Blk.new _ _ [.int .i64 0, .int .i64 0, .int .i64 0, .slice none 0 0], (Below.refl _ _).alloc (Nat.le_refl _) _, by simp⟩ ?_
  rintro V ⟨hR, hV, hsV⟩
  have c14' := Lib.hid c14
  have hV0 : Below w.heap.size w V.drew := hV.drew
  have hV1 : Below w.heap.size w (V.drew.alloc (.cells #[.int .i64 0, .int .i64 0, .int .i64 0, .slice none 0 0] 32)) := hV.drew.alloc hV.size _
  go_cut [4] (fun s4 wx => s4 = .pointer (some ⟨w.heap.size + 1, 0, none⟩) ∧ Blk wx (w.heap.size + 1) 32 [.int .i64 G, .int .i64 S, .int .i64 X, .slice none 0 0] ∧ Blk wx w.heap.size 32 [.int .i64 0, .int .i64 0, .int .i64 0, .slice none 0 0] ∧ Below w.heap.size w wx ∧ wx.heap.size = w.heap.size + 2)
  case first =>
    go_region_held3 (fun w' => True) (first | trivial)
      (first
        | ((with_reducible refine Calls.mono (V1.out _ ?_) ?_); (first | (with_reducible exact hV0) | (with_reducible exact hV1) | exact hV1); rintro e w9 ⟨rfl, rfl⟩)
        | ((with_reducible refine Calls.mono (V2.out _ ?_) ?_); (first | (with_reducible exact hV0) | (with_reducible exact hV1) | exact hV1); rintro e w9 ⟨rfl, rfl⟩)
        | ((with_reducible refine Calls.mono (V3.out _ ?_) ?_); (first | (with_reducible exact hV0) | (with_reducible exact hV1) | exact hV1); rintro e w9 ⟨rfl, rfl⟩))
    all_goals go_wp2_with fail
    all_goals go_meet
    all_goals exact ⟨rfl, (Blk.new_at (cs := [.int .i64 G, .int .i64 S, .int .i64 X, .slice none 0 0]) hsV.symm).drew, (hR.alloc _).drew, (hV.alloc hV.size _).drew, by show (World.alloc _ _).heap.size = _; simp; omega⟩
  case rest =>
    obtain ⟨rfl, hS, hR2, hW, hsW⟩ := hcut
    clear V1 V2 V3 hV0 hV1 hR c14
    have c14 := below_cell' hW hbs c14'.out
    by_cases h8 : N ≤ 8
    rotate_left
    · have hRf := hR2.frees
      have hRc := hR2.cells
      have d8 : 8 < N := by omega
      have HG2 : Hid (getS l = none) := by
        show _ = _
        rw [HG.out]
        exact if_neg (fun h => h8 h.2.1)
      clear h8
      go_wp2
      refine bodyPost_ret (results_sup rfl rfl rfl ((((hR2.set_ 0 _).set_ 1 _).set_ 2 _).set_ 3 _)) rfl ?_
      rw [HG2.out]
      exact sget_none rfl ((((hW.setCell (Nat.le_refl _) _).setCell (Nat.le_refl _) _).setCell (Nat.le_refl _) _).setCell (Nat.le_refl _) _)
    · go_wp2
      go_loopw [6, 7] (fun s6 s7 wr => ∃ (i : Nat) (A4 : Option Addr) (c4 : Nat), i ≤ N ∧ s6 = .int .i64 i ∧ Blk wr w.heap.size 32 [.int .i64 0, .int .i64 0, .int .i64 0, .slice none 0 0] ∧ Blk wr (w.heap.size + 1) 32 [.int .i64 G, .int .i64 S, .int .i64 X, .slice A4 i c4] ∧ Own wr (w.heap.size + 2) 97 4 A4 i c4 (vcs ((List.range i).map (verD l))) ∧ Below w.heap.size w wr ∧ w.heap.size + 2 ≤ wr.heap.size)
        (fun s6 _ _ => N - (intOf s6).toNat)
      case atStart => exact ⟨0, none, 0, Nat.zero_le _, rfl, hR2, hS, Own.nil_ _ _ _ _, hW, by omega⟩
      case round =>
        clear hR2 hS hW hsW c14 hsV hV
        obtain ⟨i, A4, c4, hi, rfl, hR, hS, ho, hV, hz3⟩ := hrel
        by_cases hlt : i < N
        · have n2 : some (w.heap.size + 1) ≠ ablk A4 := own_ne ho (by omega)
          have n0 : some w.heap.size ≠ ablk A4 := own_ne ho (by omega)
          have hc3 := hS.cell 3
          simp only [List.getElem?_cons_zero, List.getElem?_cons_succ] at hc3
          have HR := Lib.hid hR
          have HS := Lib.hid hS
          have HO := Lib.hid ho
          have HX := Lib.hid (vers_snoc l i)
          have HVD : Hid (verD l i = ⟨leN (part l (15 + 11 * i) 4), leN (part l (15 + 11 * i + 4) 2), leN (part l (15 + 11 * i + 6) 4), (l.getD (15 + 11 * i + 10) 0) == 1⟩) := rfl
          have v1 : (15 : Int) + 11 * (i : Int) = ((15 + 11 * i : Nat) : Int) := by omega
          have v2 : (26 : Int) + 11 * (i : Int) = ((15 + 11 * i : Nat) : Int) + 11 := by omega
          have hP : 15 + 11 * i + 11 ≤ 256 := by omega
          have ci := Lib.hid hi
          clear hi hR hS ho
          generalize 15 + 11 * i = P at *
          have hy := (HB.out.below hV (Nat.le_refl _)).cell (P + 10) (by omega)
          rw [← Nat.add_assoc] at hy
          have hy0 := HB.out.cell (P + 10) (by omega)
          rw [← Nat.add_assoc] at hy0
          generalize l.getD (P + 10) 0 = y at *
          have hy0 := Lib.hid hy0
          have V1 := Lib.hid (value_at (W := wr.drew) P 4 HB.out hV.drew (by omega) (by omega))
          have V2 := Lib.hid (value_at (W := wr.drew) (P + 4) 2 HB.out hV.drew (by omega) (by omega))
          have V3 := Lib.hid (value_at (W := wr.drew) (P + 6) 4 HB.out hV.drew (by omega) (by omega))
          rw [← Nat.add_assoc, ← Nat.sub_sub] at V2 V3
          have hCc : c - P ≤ c := Nat.sub_le _ _
          have hC11 : 11 ≤ c - P := by omega
          have hPc : ¬ c = P := by omega
          have hP26 : (P : Int) + 11 ≤ (c : Int) := by omega
          have hP0 : (P : Int) ≤ (P : Int) + 11 := by omega
          obtain ⟨C, hCP⟩ : ∃ C, c - P = C := ⟨_, rfl⟩
          rw [hCP] at V1 V2 V3 hC11
          have hC4 : ¬ C = 4 := by omega
          have hC6 : ¬ C = 6 := by omega
          have hCa : (4 : Int) ≤ (C : Int) := by omega
          have hCb : (6 : Int) ≤ (C : Int) := by omega
          have hCd : (10 : Int) ≤ (C : Int) := by omega
          have hza : w.heap.size + 1 < wr.heap.size := by omega
          have hzb : ¬ w.heap.size + 1 = wr.heap.size := by omega
          have hzc : ¬ wr.heap.size = w.heap.size + 1 := by omega
          have hbw : b < wr.heap.size := by omega
          have hbx : ¬ b = wr.heap.size := by omega
          have hby : ¬ wr.heap.size = b := by omega
          have hbn : ¬ b = w.heap.size + 1 := by omega
          have hbm : ¬ w.heap.size + 1 = b := by omega
          go_upto_region 11 with fail
          refine wp_region_last (S := fun w' => w'.cell? ⟨w.heap.size + 1, 3, none⟩ = some (.slice A4 i c4) ∧ w'.cell? ⟨b, o + P + 10, none⟩ = some (.int .u8 (y.toNat : Int))) 19 (by kernel_rfl) rfl (by kernel_rfl) ?_ ?_
          · exact ⟨hc3, hy⟩
          intro hHeld
          simp only [List.take_succ_cons, List.take_zero, List.replicate_succ, List.replicate_zero] -- laid out
          refine wpAnyH_take (i := 0) (v := ?_) (by simp only [List.getElem?_toArray, List.getElem?_cons_succ, List.getElem?_cons_zero]; rfl) (by kernel_rfl) (by kernel_rfl) (by kernel_rfl) (fun _ _ _ h => h) (Or.inl ⟨by rfl, ?_⟩) hHeld ?_
          rotate_left
          · intro wz hSw; (try dsimp only at hSw); go_simp; try with_reducible rfl
          (try simp only [Act.put, List.setIfInBounds_toArray, List.set_cons_zero, List.set_cons_succ])
          refine wpAnyH_take (i := 1) (v := ?_) (by simp only [List.getElem?_toArray, List.getElem?_cons_succ, List.getElem?_cons_zero]; rfl) (by kernel_rfl) (by kernel_rfl) (by kernel_rfl) (fun _ _ _ h => h) (Or.inl ⟨by rfl, ?_⟩) hHeld ?_
          rotate_left
          · intro wz hSw; (try dsimp only at hSw); go_simp; try with_reducible rfl
          (try simp only [Act.put, List.setIfInBounds_toArray, List.set_cons_zero, List.set_cons_succ])
          refine wpAnyH_take (i := 2) (v := ?_) (by simp only [List.getElem?_toArray, List.getElem?_cons_succ, List.getElem?_cons_zero]; rfl) (by kernel_rfl) (by kernel_rfl) (by kernel_rfl) (fun _ _ _ h => h) (Or.inl ⟨by rfl, ?_⟩) hHeld ?_
          rotate_left
          · intro wz hSw; (try dsimp only at hSw); go_simp; try with_reducible rfl
          (try simp only [Act.put, List.setIfInBounds_toArray, List.set_cons_zero, List.set_cons_succ])
          refine wpAnyH_take (i := 3) (v := ?_) (by simp only [List.getElem?_toArray, List.getElem?_cons_succ, List.getElem?_cons_zero]; rfl) (by kernel_rfl) (by kernel_rfl) (by kernel_rfl) (fun _ _ _ h => h) (Or.inl ⟨by rfl, ?_⟩) hHeld ?_
          rotate_left
          · intro wz hSw; (try dsimp only at hSw); go_simp; try with_reducible rfl
          (try simp only [Act.put, List.setIfInBounds_toArray, List.set_cons_zero, List.set_cons_succ])
          refine wpAnyH_take (i := 5) (v := ?_) (by simp only [List.getElem?_toArray, List.getElem?_cons_succ, List.getElem?_cons_zero]; rfl) (by kernel_rfl) (by kernel_rfl) (by kernel_rfl) (fun _ _ _ h => h) (Or.inl ⟨by rfl, ?_⟩) hHeld ?_
          rotate_left
          · intro wz hSw; (try dsimp only at hSw); go_simp; try with_reducible rfl
          (try simp only [Act.put, List.setIfInBounds_toArray, List.set_cons_zero, List.set_cons_succ])
          refine wpAnyH_take (i := 6) (v := ?_) (by simp only [List.getElem?_toArray, List.getElem?_cons_succ, List.getElem?_cons_zero]; rfl) (by kernel_rfl) (by kernel_rfl) (by kernel_rfl) (fun _ _ _ h => h) (Or.inl ⟨by rfl, ?_⟩) hHeld ?_
          rotate_left
          · intro wz hSw; (try dsimp only at hSw); go_simp; try with_reducible rfl
          (try simp only [Act.put, List.setIfInBounds_toArray, List.set_cons_zero, List.set_cons_succ])
          refine wpAnyH_take (i := 8) (v := ?_) (by simp only [List.getElem?_toArray, List.getElem?_cons_succ, List.getElem?_cons_zero]; rfl) (by kernel_rfl) (by kernel_rfl) (by kernel_rfl) (fun _ _ _ h => h) (Or.inl ⟨by rfl, ?_⟩) hHeld ?_
          rotate_left
          · intro wz hSw; (try dsimp only at hSw); go_simp; try with_reducible rfl
          (try simp only [Act.put, List.setIfInBounds_toArray, List.set_cons_zero, List.set_cons_succ])
          refine wpAnyH_take (i := 9) (v := ?_) (by simp only [List.getElem?_toArray, List.getElem?_cons_succ, List.getElem?_cons_zero]; rfl) (by kernel_rfl) (by kernel_rfl) (by kernel_rfl) (fun _ _ _ h => h) (Or.inl ⟨by rfl, ?_⟩) hHeld ?_
          rotate_left
          · intro wz hSw; (try dsimp only at hSw); go_simp; try with_reducible rfl
          (try simp only [Act.put, List.setIfInBounds_toArray, List.set_cons_zero, List.set_cons_succ])
          refine wpAnyH_take (i := 11) (v := ?_) (by simp only [List.getElem?_toArray, List.getElem?_cons_succ, List.getElem?_cons_zero]; rfl) (by kernel_rfl) (by kernel_rfl) (by kernel_rfl) (fun _ _ _ h => h) (Or.inl ⟨by rfl, ?_⟩) hHeld ?_
          rotate_left
          · intro wz hSw; (try dsimp only at hSw); go_simp; try with_reducible rfl
          (try simp only [Act.put, List.setIfInBounds_toArray, List.set_cons_zero, List.set_cons_succ])
          refine wpAnyH_take (i := 12) (v := ?_) (by simp only [List.getElem?_toArray, List.getElem?_cons_succ, List.getElem?_cons_zero]; rfl) (by kernel_rfl) (by kernel_rfl) (by kernel_rfl) (fun _ _ _ h => h) (Or.inl ⟨by rfl, ?_⟩) hHeld ?_
          rotate_left
          · intro wz hSw; (try dsimp only at hSw); go_simp; try with_reducible rfl
          (try simp only [Act.put, List.setIfInBounds_toArray, List.set_cons_zero, List.set_cons_succ])
          refine wpAnyH_take (i := 13) (v := ?_) (by simp only [List.getElem?_toArray, List.getElem?_cons_succ, List.getElem?_cons_zero]; rfl) (by kernel_rfl) (by kernel_rfl) (by kernel_rfl) (fun _ _ _ h => h) (Or.inl ⟨by rfl, ?_⟩) hHeld ?_
          rotate_left
          · intro wz hSw; (try dsimp only at hSw); go_simp; try with_reducible rfl
          (try simp only [Act.put, List.setIfInBounds_toArray, List.set_cons_zero, List.set_cons_succ])
          refine wpAnyH_take (i := 14) (v := ?_) (by simp only [List.getElem?_toArray, List.getElem?_cons_succ, List.getElem?_cons_zero]; rfl) (by kernel_rfl) (by kernel_rfl) (by kernel_rfl) (fun _ _ _ h => h) (Or.inl ⟨by rfl, ?_⟩) hHeld ?_
          rotate_left
          · intro wz hSw; (try dsimp only at hSw); go_simp; try with_reducible rfl
          (try simp only [Act.put, List.setIfInBounds_toArray, List.set_cons_zero, List.set_cons_succ])
          refine wpAnyH_ready (rs := [4]) (by kernel_rfl) (by simp) ?_
          refine AllReadyH.cons (by simp only [List.getElem?_toArray, List.getElem?_cons_succ, List.getElem?_cons_zero]; rfl) (fun K hK => ?_) AllReadyH.nil
          go_simp; ((with_reducible refine Calls.mono V1.out ?_); rintro e w9 ⟨rfl, rfl⟩); go_wp2_with fail
          refine hK.out _ _ ?_ (fun hHeld => ?_)
          · exact hHeld
          clear hK K
          (try simp only [Act.put, List.setIfInBounds_toArray, List.set_cons_zero, List.set_cons_succ])
          refine wpAnyH_ready (rs := [7]) (by kernel_rfl) (by simp) ?_
          refine AllReadyH.cons (by simp only [List.getElem?_toArray, List.getElem?_cons_succ, List.getElem?_cons_zero]; rfl) (fun K hK => ?_) AllReadyH.nil
          go_simp; ((with_reducible refine Calls.mono V2.out ?_); rintro e w9 ⟨rfl, rfl⟩); go_wp2_with fail
          refine hK.out _ _ ?_ (fun hHeld => ?_)
          · exact hHeld
          clear hK K
          (try simp only [Act.put, List.setIfInBounds_toArray, List.set_cons_zero, List.set_cons_succ])
          refine wpAnyH_ready (rs := [10]) (by kernel_rfl) (by simp) ?_
          refine AllReadyH.cons (by simp only [List.getElem?_toArray, List.getElem?_cons_succ, List.getElem?_cons_zero]; rfl) (fun K hK => ?_) AllReadyH.nil
          go_simp; ((with_reducible refine Calls.mono V3.out ?_); rintro e w9 ⟨rfl, rfl⟩); go_wp2_with fail
          refine hK.out _ _ ?_ (fun hHeld => ?_)
          · exact hHeld
          clear hK K
          (try simp only [Act.put, List.setIfInBounds_toArray, List.set_cons_zero, List.set_cons_succ])
          refine wpAnyH_take (i := 15) (v := ?_) (by simp only [List.getElem?_toArray, List.getElem?_cons_succ, List.getElem?_cons_zero]; rfl) (by kernel_rfl) (by kernel_rfl) (by kernel_rfl) (fun _ _ _ h => h) (Or.inl ⟨by rfl, ?_⟩) hHeld ?_
          rotate_left
          · intro wz hSw; (try dsimp only at hSw); go_simp; try with_reducible rfl
          (try simp only [Act.put, List.setIfInBounds_toArray, List.set_cons_zero, List.set_cons_succ])
          refine wpAnyH_ready (rs := [16]) (by kernel_rfl) (by simp) ?_
          refine AllReadyH.cons (by simp only [List.getElem?_toArray, List.getElem?_cons_succ, List.getElem?_cons_zero]; rfl) (fun K hK => ?_) AllReadyH.nil
          go_simp
          refine hK.out _ _ ?_ (fun hHeld => ?_)
          · go_keep
          clear hK K
          (try simp only [Act.put, List.setIfInBounds_toArray, List.set_cons_zero, List.set_cons_succ])
          refine wpAnyH_ready (rs := [17]) (by kernel_rfl) (by simp) ?_
          refine AllReadyH.cons (by simp only [List.getElem?_toArray, List.getElem?_cons_succ, List.getElem?_cons_zero]; rfl) (fun K hK => ?_) AllReadyH.nil
          (refine step_app rfl (.tmp 46) (.tmp 61) 30 rfl 97 4 Try.underlying30 info57 rfl (by omega) rfl (HO.out.drew.alloc _) rfl (rd_vc ⟨leN (part l P 4), leN (part l (P + 4) 2), leN (part l (P + 6) 4), ((y.toNat : Int) == 1)⟩ rfl) rfl (vcs_oneCell _) (by have := ci.out; omega) (by have := ci.out; omega) (by simp; omega) ?_; intro A5 c5 w5 ho5 hg5 _; have S5 := (HS.out.drew.alloc (.cells #[.int .i64 (leN (part l P 4)), .int .i64 (leN (part l (P + 4) 2)), .int .i64 (leN (part l (P + 6) 4)), .bool ((y.toNat : Int) == 1)] 97)).grown hg5 n2; have F5 := S5.frozen 3; have E5 : w5.cell? ⟨w.heap.size + 1, 3, none⟩ = some (.slice A4 i c4) := S5.cell 3; have K5 := below_cell' (below_own (hV.drew.alloc hV.size _) (HO.out.drew.alloc _) hg5 (by omega) (by have := hV.size; simp <;> omega)) hbs hy0.out)
          refine hK.out _ _ ?_ (fun hHeld => ?_)
          · exact ⟨E5, K5⟩
          clear hK K
          (try simp only [Act.put, List.setIfInBounds_toArray, List.set_cons_zero, List.set_cons_succ])
          refine wpAnyH_take (i := 18) (v := ?_) (by simp only [List.getElem?_toArray, List.getElem?_cons_succ, List.getElem?_cons_zero]; rfl) (by kernel_rfl) (by kernel_rfl) (by kernel_rfl) (fun _ _ _ h => h) (Or.inl ⟨by rfl, ?_⟩) hHeld ?_
          rotate_left
          · intro wz hSw; (try dsimp only at hSw); go_simp; try with_reducible rfl
          (try simp only [Act.put, List.setIfInBounds_toArray, List.set_cons_zero, List.set_cons_succ])
          refine wpAnyH_done (by kernel_rfl) ?_ _
          simp only [lastQ]
          go_simp
          go_wp2
          go_roundw
          case rel =>
            refine ⟨i + 1, A5, c5, by omega, by go_num, ((HR.out.drew.alloc _).grown hg5 n0).far (by simp) _, S5.set_ 3 _, ?_, (below_own (hV.drew.alloc hV.size _) (HO.out.drew.alloc _) hg5 (by omega) (by have := hV.size; simp <;> omega)).setCell (by simp <;> omega) _, by have := hg5.size; simp at this; simp <;> omega⟩
            rw [HX.out, vcs_append, HVD.out, ← beq_one]
            exact ho5.far (by simp) _
          case measure => simp [intOf]; omega
        · obtain rfl : i = N := by omega
          have hlen : ((List.range i).map (verD l)).length = i := by simp
          have hvr := own_vr ho
          have HS' : Hid (supD l = ⟨G, S, X, (List.range i).map (verD l)⟩) := HD
          generalize (List.range i).map (verD l) = vs at *
          have HLn := Lib.hid hlen
          have P1 := Lib.hid (rsput_any ⟨G, S, X, vs⟩ hvr)
          simp only at P1
          have hSc := hS.cells
          have HR := Lib.hid hR
          have HS := Lib.hid hS
          have HV := Lib.hid hvr
          clear ho hlen hvr hR hS HD
          go_upto_region 13 with ((with_reducible refine Calls.mono P1.out ?_); rintro e w5 (⟨hok, A5, c5, rfl, ho5, hb5⟩ | ⟨hok, rfl, hb5⟩))
          · have b5 : Below w.heap.size w w5 := hV.trans (hb5.mono hV.size)
            have E1 := Lib.hid (same_any (own_bs ho5) (HB.out.below b5 (Nat.le_refl _)))
            have R5 := Lib.hid (HR.out.below hb5 (by omega))
            have S5 := Lib.hid (HS.out.below hb5 (by omega))
            have V5 := Lib.hid (HV.out.below hb5 (Nat.le_refl _))
            have HOK := Lib.hid hok
            clear hSc ho5 hok
            go_upto_region 14 with ((with_reducible refine Calls.mono E1.out ?_); rintro e w6 ⟨rfl, q6, rfl⟩)
            have R6 := R5.out.drewN q6
            have S6 := S5.out.drewN q6
            have V6 := Lib.hid (V5.out.drewN q6)
            have b6 := below_drewN b5 q6
            have hR5f := R6.frees
            have hR5c := R6.cells
            have hS5c := S6.cells
            by_cases he : putS ⟨(G : Int), S, X, vs⟩ = l
            · have HG2 : Hid (getS l = some ⟨G, S, X, vs⟩) := by
                show _ = _
                rw [HG.out, HS'.out]
                exact if_pos ⟨hl.out, h8, HOK.out, he⟩
              have de : decide (putS ⟨(G : Int), S, X, vs⟩ = l) = true := decide_eq_true he
              rw [de]
              clear he de
              go_wp2
              refine bodyPost_ret (results_sup rfl rfl rfl ((((R6.set_ 0 _).set_ 1 _).set_ 2 _).set_ 3 _)) rfl ?_
              rw [HG2.out]
              obtain rfl := HLn.out
              exact ⟨A4, c4, rfl, ((((V6.out.far (by simp) _).far (by simp) _).far (by simp) _).far (by simp) _).weak (by omega), (((b6.setCell (Nat.le_refl _) _).setCell (Nat.le_refl _) _).setCell (Nat.le_refl _) _).setCell (Nat.le_refl _) _⟩
            · have HG2 : Hid (getS l = none) := by
                show _ = _
                rw [HG.out, HS'.out]
                exact if_neg (fun h => he h.2.2.2)
              have de : decide (putS ⟨(G : Int), S, X, vs⟩ = l) = false := decide_eq_false he
              rw [de]
              clear he de
              go_wp2
              refine bodyPost_ret (results_sup rfl rfl rfl ((((R6.set_ 0 _).set_ 1 _).set_ 2 _).set_ 3 _)) rfl ?_
              rw [HG2.out]
              exact sget_none rfl ((((b6.setCell (Nat.le_refl _) _).setCell (Nat.le_refl _) _).setCell (Nat.le_refl _) _).setCell (Nat.le_refl _) _)
          · have b5 : Below w.heap.size w w5 := hV.trans (hb5.mono hV.size)
            have E1 := Lib.hid (same_any (Bs.nil_ w5 0) (HB.out.below b5 (Nat.le_refl _)))
            have R5 := Lib.hid (HR.out.below hb5 (by omega))
            have HG2 : Hid (getS l = none) := by
              show _ = _
              rw [HG.out, HS'.out]
              exact if_neg (fun h => hok h.2.2.1)
            clear hSc hok
            go_upto_region 14 with ((with_reducible refine Calls.mono E1.out ?_); rintro e w6 ⟨rfl, q6, rfl⟩)
            have R6 := R5.out.drewN q6
            have b6 := below_drewN b5 q6
            have hR5f := R6.frees
            have hR5c := R6.cells
            generalize decide (([] : List UInt8) = l) = dd at *
            go_wp2
            refine bodyPost_ret (results_sup rfl rfl rfl ((((R6.set_ 0 _).set_ 1 _).set_ 2 _).set_ 3 _)) rfl ?_
            rw [HG2.out]
            exact sget_none rfl ((((b6.setCell (Nat.le_refl _) _).setCell (Nat.le_refl _) _).setCell (Nat.le_refl _) _).setCell (Nat.le_refl _) _)

theorem rsget_any {A : Option Addr} {m c lo : Nat} {l : List UInt8} {w : World} (hb : Bs w lo A m c l) :
    Calls Try.prog 59 #[.slice A m c] w (SGet w (getS l)) := by
  by_cases hm : m = 256
  · subst hm
    exact rsget_main hb
  · rw [getS_len (by rw [hb.1]; exact hm)]
    exact (rsget_len hm).mono fun e w' h => sget_none h.1 h.2
end Go.Proofs.Ytdbhagnnpjcpmaa
