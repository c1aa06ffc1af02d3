/- A bit of a disk's sector is turned, where it has no versions: disk.Rot. Condition: no versions. -/
import Derived.Test.YtnclebnodkkgnaaDkFlush
import Derived.Test.YtnclebnodkkgnaaFlip
namespace Go.Proofs.Ytnclebnodkkgnaa
open Go.RowKit Go.Maps

section
variable {w : World} {b o idx : Nat} {l : List UInt8} {x : UInt8}
theorem range_set (h : w.rangeAt b o (bvs l)) (hi : idx < l.length) : (w.setCell ⟨b, o + idx, none⟩ (bv x)).rangeAt b o (bvs (l.set idx x)) := fun j v hv => by
  have hj : j < l.length := by have := (List.getElem?_eq_some_iff.1 hv).1; rw [length_bvs, List.length_set] at this; exact this
  by_cases e : j = idx
  · subst e
    have h1 := h j (bv l[j]) (by rw [bvs, List.getElem?_map, List.getElem?_eq_getElem hj]; rfl)
    rw [World.cell?_setCell_same _ _ _ h1]
    rw [bvs, List.getElem?_map, List.getElem?_set_self hj] at hv
    exact hv
  · have hne : (⟨b, o + idx, none⟩ : Addr) ≠ ⟨b, o + j, none⟩ := fun e2 => by injection e2 with _ e2; omega
    rw [World.cell?_setCell_other _ _ _ _ hne]
    refine h j v ?_
    rw [bvs, List.getElem?_map, List.getElem?_set_ne (Ne.symm e)] at hv
    rw [bvs, List.getElem?_map]
    exact hv
theorem range_out {o' : Nat} {cs : List Value} (h : w.rangeAt b o cs) (ho : o' < o ∨ o + cs.length ≤ o') (v : Value) : (w.setCell ⟨b, o', none⟩ v).rangeAt b o cs := fun j u hu => by
  have hj : j < cs.length := (List.getElem?_eq_some_iff.1 hu).1
  have hne : (⟨b, o', none⟩ : Addr) ≠ ⟨b, o + j, none⟩ := fun e2 => by injection e2 with _ e2; omega
  rw [World.cell?_setCell_other _ _ _ _ hne]
  exact h j u hu
theorem there_set {o' n : Nat} (h : w.there b o n) (v : Value) : (w.setCell ⟨b, o', none⟩ v).there b o n := by
  have := World.there_setCells h b o' [v]
  exact this
end
theorem Dk.bit {w : World} {base : Nat} {d : Dw} {s : Dsk} (h : Dk w base d s) {k i : Nat} (hk : k < s.n) (hi : i < 256) (x : UInt8) :
    Dk (w.setCell ⟨d.L, k * 256 + i, none⟩ (bv x)) base d (layD s k ((s.lies k).set i x)) := by
  have K : Kept (fun b => b = d.L) w (w.setCell ⟨d.L, k * 256 + i, none⟩ (bv x)) := ⟨rfl, rfl, rfl, by simp, fun b _ hn => Below.heap_setCell w _ _ b hn⟩
  refine h.onL K (fun j hj => ?_) (fun j hj => ?_) (there_set h.there _) (rowAt_set h.lty _ _)
  · by_cases e : j = k
    · subst e
      rw [if_pos rfl]
      exact range_set (h.lies j hj) (by rw [(h.len j hj).1]; exact hi)
    · rw [if_neg e]
      refine range_out (h.lies j hj) ?_ _
      rw [length_bvs, (h.len j hj).1]
      omega
  · by_cases e : j = k
    · subst e; rw [if_pos rfl, List.length_set]; exact (h.len j hj).1
    · rw [if_neg e]; exact (h.len j hj).1

set_option maxRecDepth 100000 in
set_option maxHeartbeats 2000000 in
theorem drot_flat {w : World} {base : Nat} {d : Dw} {s : Dsk} (h : Dk w base d s) {k i : Nat} (hk : k < s.n) (hi : i < 2048) (hv : s.vers k = []) :
    Calls Try.prog 21 #[.pointer (some ⟨d.g, 0, none⟩), .int .i64 ((k * 2048 + i : Nat) : Int)] w fun e w' => e = .returned (.int .i64 0) ∧ Dk w' base d (layD s k (flip (s.lies k) i)) ∧ Kept (fun b => b = d.L) w w' := by
  have bc := h.blk.cells
  have hs := h.small
  have hkn : (k : Int) < (s.n : Int) := by omega
  have hlk := fun (w' : World) (hw : w'.heap[d.M]? = w.heap[d.M]?) => h.look hk hw
  rw [hv] at hlk
  have hi8 : i / 8 < 256 := by omega
  have hcy : w.cell? ⟨d.L, k * 256 + i / 8, none⟩ = some (.int .u8 (((s.lies k).getD (i / 8) 0).toNat : Int)) := by
    have := h.lies k hk (i / 8) (bv ((s.lies k).getD (i / 8) 0)) (by rw [bvs, List.getElem?_map, List.getD_eq_getElem?_getD, List.getElem?_eq_getElem (by rw [(h.len k hk).1]; exact hi8)]; rfl)
    exact this
  have hfz : w.frozen? ⟨d.L, k * 256 + i / 8, none⟩ = false := by
    have := (h.there (k * 256 + i / 8) (by omega)).2
    rwa [Nat.zero_add] at this
  have HB := fun (x : UInt8) => h.bit hk hi8 x
  have HFl : Hid (flip (s.lies k) i = (s.lies k).set (i / 8) (UInt8.ofNat (((s.lies k).getD (i / 8) 0).toNat ^^^ 2 ^ (i % 8)))) := rfl
  have HH := Lib.hid h
  have HBB := Lib.hid HB
  have HLK := Lib.hid hlk
  have hr8 : i % 8 < 8 := Nat.mod_lt _ (by omega)
  obtain ⟨bit, hbit⟩ : ∃ bit, bit = k * 2048 + i := ⟨_, rfl⟩
  rw [← hbit]
  obtain ⟨a, ha⟩ : ∃ a, a = i / 8 := ⟨_, rfl⟩
  obtain ⟨r, hr⟩ : ∃ r, r = i % 8 := ⟨_, rfl⟩
  rw [← ha] at hi8 hcy hfz HBB HFl
  rw [← hr] at HFl hr8
  have q1 : (bit : Int) / 2048 = (k : Int) := by omega
  have q2 : (bit : Int) % 2048 = (i : Int) := by omega
  have d1 : decide ((2048 : Int) * (s.n : Int) ≤ (bit : Int)) = false := decide_eq_false (by omega)
  have q3 : (i : Int) / 8 = (a : Int) := by omega
  have q4 : (i : Int) % 8 = (r : Int) := by omega
  have hb0 : bit ≤ 8388608 := by omega
  clear h hv HB hlk hbit
  generalize (s.lies k).getD a 0 = y at *
  clear ha hr
  go_enter Try.func21, Try.ntmps21
  go_upto_region 4 with fail
  have q5 : (a : Int) < 256 := by omega
  have q6 : IntKind.i64.wrap (a : Int) = (a : Int) := IntWalk.i64_in _ (by omega)
  have q8 : (i : Int).tmod 8 = (r : Int) := by rw [Int.tmod_eq_emod_of_nonneg (by omega)]; exact q4
  have q7 : IntKind.i64.wrap (r : Int) = (r : Int) := IntWalk.i64_in _ (by omega)
  refine wp_region_last (S := fun w' => w'.cell? ⟨d.g, 0, none⟩ = some (.slice (some ⟨d.L, 0, none⟩) s.n d.lc) ∧ w'.cell? ⟨d.L, k * 256 + a, none⟩ = some (.int .u8 (y.toNat : Int))) 16 (by kernel_rfl) rfl (by kernel_rfl) ?_ ?_
  · exact ⟨bc 0, hcy⟩
  intro hHeld
  simp only [List.take_succ_cons, List.take_zero]
  refine wpAnyH_take (i := 0) (v := ?_) (by simp only [List.getElem?_toArray, List.getElem?_cons_succ, List.getElem?_cons_zero]; rfl) (by kernel_rfl) (by kernel_rfl) (by kernel_rfl) (fun _ _ _ h => h) (Or.inl ⟨by rfl, ?_⟩) hHeld ?_
  rotate_left
  · intro wz hSw; (try dsimp only at hSw); go_simp; try with_reducible rfl
  (try simp only [Act.put, List.setIfInBounds_toArray, List.set_cons_zero, List.set_cons_succ])
  refine wpAnyH_take (i := 1) (v := ?_) (by simp only [List.getElem?_toArray, List.getElem?_cons_succ, List.getElem?_cons_zero]; rfl) (by kernel_rfl) (by kernel_rfl) (by kernel_rfl) (fun _ _ _ h => h) (Or.inl ⟨by rfl, ?_⟩) hHeld ?_
  rotate_left
  · intro wz hSw; (try dsimp only at hSw); go_simp; try with_reducible rfl
  (try simp only [Act.put, List.setIfInBounds_toArray, List.set_cons_zero, List.set_cons_succ])
  refine wpAnyH_take (i := 2) (v := ?_) (by simp only [List.getElem?_toArray, List.getElem?_cons_succ, List.getElem?_cons_zero]; rfl) (by kernel_rfl) (by kernel_rfl) (by kernel_rfl) (fun _ _ _ h => h) (Or.inl ⟨by rfl, ?_⟩) hHeld ?_
  rotate_left
  · intro wz hSw; (try dsimp only at hSw); go_simp; try with_reducible rfl
  (try simp only [Act.put, List.setIfInBounds_toArray, List.set_cons_zero, List.set_cons_succ])
  refine wpAnyH_take (i := 3) (v := ?_) (by simp only [List.getElem?_toArray, List.getElem?_cons_succ, List.getElem?_cons_zero]; rfl) (by kernel_rfl) (by kernel_rfl) (by kernel_rfl) (fun _ _ _ h => h) (Or.inl ⟨by rfl, ?_⟩) hHeld ?_
  rotate_left
  · intro wz hSw; (try dsimp only at hSw); go_simp; try with_reducible rfl
  (try simp only [Act.put, List.setIfInBounds_toArray, List.set_cons_zero, List.set_cons_succ])
  refine wpAnyH_take (i := 4) (v := ?_) (by simp only [List.getElem?_toArray, List.getElem?_cons_succ, List.getElem?_cons_zero]; rfl) (by kernel_rfl) (by kernel_rfl) (by kernel_rfl) (fun _ _ _ h => h) (Or.inl ⟨by rfl, ?_⟩) hHeld ?_
  rotate_left
  · intro wz hSw; (try dsimp only at hSw); go_simp; try with_reducible rfl
  (try simp only [Act.put, List.setIfInBounds_toArray, List.set_cons_zero, List.set_cons_succ])
  refine wpAnyH_take (i := 5) (v := ?_) (by simp only [List.getElem?_toArray, List.getElem?_cons_succ, List.getElem?_cons_zero]; rfl) (by kernel_rfl) (by kernel_rfl) (by kernel_rfl) (fun _ _ _ h => h) (Or.inl ⟨by rfl, ?_⟩) hHeld ?_
  rotate_left
  · intro wz hSw; (try dsimp only at hSw); go_simp; try with_reducible rfl
  (try simp only [Act.put, List.setIfInBounds_toArray, List.set_cons_zero, List.set_cons_succ])
  refine wpAnyH_take (i := 6) (v := ?_) (by simp only [List.getElem?_toArray, List.getElem?_cons_succ, List.getElem?_cons_zero]; rfl) (by kernel_rfl) (by kernel_rfl) (by kernel_rfl) (fun _ _ _ h => h) (Or.inl ⟨by rfl, ?_⟩) hHeld ?_
  rotate_left
  · intro wz hSw; (try dsimp only at hSw); go_simp; try with_reducible rfl
  (try simp only [Act.put, List.setIfInBounds_toArray, List.set_cons_zero, List.set_cons_succ])
  refine wpAnyH_take (i := 7) (v := ?_) (by simp only [List.getElem?_toArray, List.getElem?_cons_succ, List.getElem?_cons_zero]; rfl) (by kernel_rfl) (by kernel_rfl) (by kernel_rfl) (fun _ _ _ h => h) (Or.inl ⟨by rfl, ?_⟩) hHeld ?_
  rotate_left
  · intro wz hSw; (try dsimp only at hSw); go_simp; try with_reducible rfl
  (try simp only [Act.put, List.setIfInBounds_toArray, List.set_cons_zero, List.set_cons_succ])
  refine wpAnyH_take (i := 8) (v := ?_) (by simp only [List.getElem?_toArray, List.getElem?_cons_succ, List.getElem?_cons_zero]; rfl) (by kernel_rfl) (by kernel_rfl) (by kernel_rfl) (fun _ _ _ h => h) (Or.inl ⟨by rfl, ?_⟩) hHeld ?_
  rotate_left
  · intro wz hSw; (try dsimp only at hSw); go_simp; try with_reducible rfl
  (try simp only [Act.put, List.setIfInBounds_toArray, List.set_cons_zero, List.set_cons_succ])
  refine wpAnyH_take (i := 9) (v := ?_) (by simp only [List.getElem?_toArray, List.getElem?_cons_succ, List.getElem?_cons_zero]; rfl) (by kernel_rfl) (by kernel_rfl) (by kernel_rfl) (fun _ _ _ h => h) (Or.inl ⟨by rfl, ?_⟩) hHeld ?_
  rotate_left
  · intro wz hSw; (try dsimp only at hSw); go_simp; try with_reducible rfl
  (try simp only [Act.put, List.setIfInBounds_toArray, List.set_cons_zero, List.set_cons_succ])
  refine wpAnyH_take (i := 10) (v := ?_) (by simp only [List.getElem?_toArray, List.getElem?_cons_succ, List.getElem?_cons_zero]; rfl) (by kernel_rfl) (by kernel_rfl) (by kernel_rfl) (fun _ _ _ h => h) (Or.inl ⟨by rfl, ?_⟩) hHeld ?_
  rotate_left
  · intro wz hSw; (try dsimp only at hSw); go_simp; try with_reducible rfl
  (try simp only [Act.put, List.setIfInBounds_toArray, List.set_cons_zero, List.set_cons_succ])
  refine wpAnyH_take (i := 11) (v := ?_) (by simp only [List.getElem?_toArray, List.getElem?_cons_succ, List.getElem?_cons_zero]; rfl) (by kernel_rfl) (by kernel_rfl) (by kernel_rfl) (fun _ _ _ h => h) (Or.inl ⟨by rfl, ?_⟩) hHeld ?_
  rotate_left
  · intro wz hSw; (try dsimp only at hSw); go_simp; try with_reducible rfl
  (try simp only [Act.put, List.setIfInBounds_toArray, List.set_cons_zero, List.set_cons_succ])
  refine wpAnyH_take (i := 12) (v := ?_) (by simp only [List.getElem?_toArray, List.getElem?_cons_succ, List.getElem?_cons_zero]; rfl) (by kernel_rfl) (by kernel_rfl) (by kernel_rfl) (fun _ _ _ h => h) (Or.inl ⟨by rfl, ?_⟩) hHeld ?_
  rotate_left
  · intro wz hSw; (try dsimp only at hSw); go_simp; try with_reducible rfl
  (try simp only [Act.put, List.setIfInBounds_toArray, List.set_cons_zero, List.set_cons_succ])
  refine wpAnyH_take (i := 13) (v := ?_) (by simp only [List.getElem?_toArray, List.getElem?_cons_succ, List.getElem?_cons_zero]; rfl) (by kernel_rfl) (by kernel_rfl) (by kernel_rfl) (fun _ _ _ h => h) (Or.inl ⟨by rfl, ?_⟩) hHeld ?_
  rotate_left
  · intro wz hSw; (try dsimp only at hSw); go_simp; try with_reducible rfl
  (try simp only [Act.put, List.setIfInBounds_toArray, List.set_cons_zero, List.set_cons_succ])
  refine wpAnyH_take (i := 14) (v := ?_) (by simp only [List.getElem?_toArray, List.getElem?_cons_succ, List.getElem?_cons_zero]; rfl) (by kernel_rfl) (by kernel_rfl) (by kernel_rfl) (fun _ _ _ h => h) (Or.inl ⟨by rfl, ?_⟩) hHeld ?_
  rotate_left
  · intro wz hSw; (try dsimp only at hSw); go_simp; try with_reducible rfl
  (try simp only [Act.put, List.setIfInBounds_toArray, List.set_cons_zero, List.set_cons_succ])
  refine wpAnyH_take (i := 15) (v := ?_) (by simp only [List.getElem?_toArray, List.getElem?_cons_succ, List.getElem?_cons_zero]; rfl) (by kernel_rfl) (by kernel_rfl) (by kernel_rfl) (fun _ _ _ h => h) (Or.inl ⟨by rfl, ?_⟩) hHeld ?_
  rotate_left
  · intro wz hSw; (try dsimp only at hSw); go_simp; try with_reducible rfl
  (try simp only [Act.put, List.setIfInBounds_toArray, List.set_cons_zero, List.set_cons_succ])
  refine wpAnyH_done (by kernel_rfl) ?_ _
  simp only [lastQ]
  go_simp
  clear hHeld
  go_upto_region 5 with fail
  rw [IntKind.wrap_u8, flip_val y r hr8]
  refine wp_world (fun U => Dk U base d (layD s k (flip (s.lies k) i)) ∧ Kept (fun b => b = d.L) w U ∧ U.heap[d.M]? = w.heap[d.M]?) ⟨?_, ?_, ?_⟩ ?_
  · rw [HFl.out]
    exact (HBB.out _).drewN 1
  · exact ⟨rfl, rfl, rfl, by simp, fun b _ hn => Below.heap_setCell w _ _ b hn⟩
  · exact Below.heap_setCell w _ _ d.M HH.out.ne.2.2
  rintro U ⟨hU, hK, hM⟩
  have lk := HLK.out U hM
  rw [List.length_nil] at lk
  have bc := hU.blk.cells
  have HU := Lib.hid hU
  clear hU hM hcy hfz
  go_wp2
  refine wp_loop_rounds 1 ?_
  rw [rounds_succ]
  go_wp2
  go_ret
  exact ⟨rfl, HU.out, hK⟩
end Go.Proofs.Ytnclebnodkkgnaa
