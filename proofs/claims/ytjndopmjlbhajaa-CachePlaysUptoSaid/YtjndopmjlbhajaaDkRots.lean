/- A bit of a disk's sector is turned, where it has no versions: disk.Rot. Condition: no versions. -/
import Derived.Test.YtjndopmjlbhajaaDkFls
import Derived.Test.YtjndopmjlbhajaaFlip
import Derived.Test.YtjndopmjlbhajaaDkDel
namespace Go.Proofs.Ytjndopmjlbhajaa
open Go.RowKit Go.Maps

section
variable {w : World} {b o idx : Nat} {l : List UInt8} {x : UInt8}
theorem range_set (h : w.rangeAt b o (bvs l)) (hi : idx < l.length) : (w.setCell ⟨b, o + idx, none⟩ (bv x)).rangeAt b o (bvs (l.set idx x)) := fun j v hv => by
  have hj : j < l.length := by have := (List.getElem?_eq_some_iff.1 hv).1; rw [length_bvs, List.length_set] at this; exact this
  by_cases e : j = idx
  · subst e
    have h1 := h j (bv l[j]) (by rw [bvs, List.getElem?_map, List.getElem?_eq_getElem hj]; rfl)
    rw [World.cell?_setCell_same _ _ _ h1]
    rw [bvs, List.getElem?_map, List.getElem?_set_self hj] at hv
    exact hv
  · have hne : (⟨b, o + idx, none⟩ : Addr) ≠ ⟨b, o + j, none⟩ := fun e2 => by injection e2 with _ e2; omega
    rw [World.cell?_setCell_other _ _ _ _ hne]
    refine h j v ?_
    rw [bvs, List.getElem?_map, List.getElem?_set_ne (Ne.symm e)] at hv
    rw [bvs, List.getElem?_map]
    exact hv
theorem range_out {o' : Nat} {cs : List Value} (h : w.rangeAt b o cs) (ho : o' < o ∨ o + cs.length ≤ o') (v : Value) : (w.setCell ⟨b, o', none⟩ v).rangeAt b o cs := fun j u hu => by
  have hj : j < cs.length := (List.getElem?_eq_some_iff.1 hu).1
  have hne : (⟨b, o', none⟩ : Addr) ≠ ⟨b, o + j, none⟩ := fun e2 => by injection e2 with _ e2; omega
  rw [World.cell?_setCell_other _ _ _ _ hne]
  exact h j u hu
theorem there_set {o' n : Nat} (h : w.there b o n) (v : Value) : (w.setCell ⟨b, o', none⟩ v).there b o n := by
  have := World.there_setCells h b o' [v]
  exact this
end
theorem Dk.bit {w : World} {base : Nat} {d : Dw} {s : Dsk} (h : Dk w base d s) {k i : Nat} (hk : k < s.n) (hi : i < 256) (x : UInt8) :
    Dk (w.setCell ⟨d.L, k * 256 + i, none⟩ (bv x)) base d (layD s k ((s.lies k).set i x)) := by
  have K : Kept (fun b => b = d.L) w (w.setCell ⟨d.L, k * 256 + i, none⟩ (bv x)) := ⟨rfl, rfl, rfl, by simp, fun b _ hn => Below.heap_setCell w _ _ b hn⟩
  refine h.onL K (fun j hj => ?_) (fun j hj => ?_) (there_set h.there _) (rowAt_set h.lty _ _)
  · by_cases e : j = k
    · subst e
      rw [if_pos rfl]
      exact range_set (h.lies j hj) (by rw [(h.len j hj).1]; exact hi)
    · rw [if_neg e]
      refine range_out (h.lies j hj) ?_ _
      rw [length_bvs, (h.len j hj).1]
      omega
  · by_cases e : j = k
    · subst e; rw [if_pos rfl, List.length_set]; exact (h.len j hj).1
    · rw [if_neg e]; exact (h.len j hj).1

set_option maxRecDepth 100000 in
set_option maxHeartbeats 2000000 in
theorem drot_flat {w : World} {base : Nat} {d : Dw} {s : Dsk} (h : Dk w base d s) {k i : Nat} (hk : k < s.n) (hi : i < 2048) (hv : s.vers k = []) :
    Calls Try.prog 48 #[.pointer (some ⟨d.g, 0, none⟩), .int .i64 ((k * 2048 + i : Nat) : Int)] w fun e w' => e = .returned (.int .i64 0) ∧ Dk w' base d (layD s k (flip (s.lies k) i)) ∧ Kept (fun b => b = d.L) w w' := by
  have bc := h.blk.cells
  have hs := h.small
  have hkn : (k : Int) < (s.n : Int) := by omega
  have hlk := fun (w' : World) (hw : w'.heap[d.M]? = w.heap[d.M]?) => h.look hk hw
  rw [hv] at hlk
  have hi8 : i / 8 < 256 := by omega
  have hcy : w.cell? ⟨d.L, k * 256 + i / 8, none⟩ = some (.int .u8 (((s.lies k).getD (i / 8) 0).toNat : Int)) := by
    have := h.lies k hk (i / 8) (bv ((s.lies k).getD (i / 8) 0)) (by rw [bvs, List.getElem?_map, List.getD_eq_getElem?_getD, List.getElem?_eq_getElem (by rw [(h.len k hk).1]; exact hi8)]; rfl)
    exact this
  have hfz : w.frozen? ⟨d.L, k * 256 + i / 8, none⟩ = false := by
    have := (h.there (k * 256 + i / 8) (by omega)).2
    rwa [Nat.zero_add] at this
  have HB := fun (x : UInt8) => h.bit hk hi8 x
  have HFl : Hid (flip (s.lies k) i = (s.lies k).set (i / 8) (UInt8.ofNat (((s.lies k).getD (i / 8) 0).toNat ^^^ 2 ^ (i % 8)))) := rfl
  have HH := Lib.hid h
  have HBB := Lib.hid HB
  have HLK := Lib.hid hlk
  have hr8 : i % 8 < 8 := Nat.mod_lt _ (by omega)
  obtain ⟨bit, hbit⟩ : ∃ bit, bit = k * 2048 + i := ⟨_, rfl⟩
  rw [← hbit]
  obtain ⟨a, ha⟩ : ∃ a, a = i / 8 := ⟨_, rfl⟩
  obtain ⟨r, hr⟩ : ∃ r, r = i % 8 := ⟨_, rfl⟩
  rw [← ha] at hi8 hcy hfz HBB HFl
  rw [← hr] at HFl hr8
  have q1 : (bit : Int) / 2048 = (k : Int) := by omega
  have q2 : (bit : Int) % 2048 = (i : Int) := by omega
  have d1 : decide ((2048 : Int) * (s.n : Int) ≤ (bit : Int)) = false := decide_eq_false (by omega)
  have q3 : (i : Int) / 8 = (a : Int) := by omega
  have q4 : (i : Int) % 8 = (r : Int) := by omega
  have hb0 : bit ≤ 8388608 := by omega
  clear h hv HB hlk hbit
  generalize (s.lies k).getD a 0 = y at *
  clear ha hr
  go_enter Try.func48, Try.ntmps48
  go_upto_region 4 with fail
  have q5 : (a : Int) < 256 := by omega
  have q6 : IntKind.i64.wrap (a : Int) = (a : Int) := IntWalk.i64_in _ (by omega)
  have q8 : (i : Int).tmod 8 = (r : Int) := by rw [Int.tmod_eq_emod_of_nonneg (by omega)]; exact q4
  have q7 : IntKind.i64.wrap (r : Int) = (r : Int) := IntWalk.i64_in _ (by omega)
  refine wp_region_last (S := fun w' => w'.cell? ⟨d.g, 0, none⟩ = some (.slice (some ⟨d.L, 0, none⟩) s.n d.lc) ∧ w'.cell? ⟨d.L, k * 256 + a, none⟩ = some (.int .u8 (y.toNat : Int))) 16 (by kernel_rfl) rfl (by kernel_rfl) ?_ ?_
  · exact ⟨bc 0, hcy⟩
  intro hHeld
  simp only [List.take_succ_cons, List.take_zero]
  refine wpAnyH_take (i := 0) (v := ?_) (by simp only [List.getElem?_toArray, List.getElem?_cons_succ, List.getElem?_cons_zero]; rfl) (by kernel_rfl) (by kernel_rfl) (by kernel_rfl) (fun _ _ _ h => h) (Or.inl ⟨by rfl, ?_⟩) hHeld ?_
  rotate_left
  · intro wz hSw; (try dsimp only at hSw); go_simp; try with_reducible rfl
  (try simp only [Act.put, List.setIfInBounds_toArray, List.set_cons_zero, List.set_cons_succ])
  refine wpAnyH_take (i := 1) (v := ?_) (by simp only [List.getElem?_toArray, List.getElem?_cons_succ, List.getElem?_cons_zero]; rfl) (by kernel_rfl) (by kernel_rfl) (by kernel_rfl) (fun _ _ _ h => h) (Or.inl ⟨by rfl, ?_⟩) hHeld ?_
  rotate_left
  · intro wz hSw; (try dsimp only at hSw); go_simp; try with_reducible rfl
  (try simp only [Act.put, List.setIfInBounds_toArray, List.set_cons_zero, List.set_cons_succ])
  refine wpAnyH_take (i := 2) (v := ?_) (by simp only [List.getElem?_toArray, List.getElem?_cons_succ, List.getElem?_cons_zero]; rfl) (by kernel_rfl) (by kernel_rfl) (by kernel_rfl) (fun _ _ _ h => h) (Or.inl ⟨by rfl, ?_⟩) hHeld ?_
  rotate_left
  · intro wz hSw; (try dsimp only at hSw); go_simp; try with_reducible rfl
  (try simp only [Act.put, List.setIfInBounds_toArray, List.set_cons_zero, List.set_cons_succ])
  refine wpAnyH_take (i := 3) (v := ?_) (by simp only [List.getElem?_toArray, List.getElem?_cons_succ, List.getElem?_cons_zero]; rfl) (by kernel_rfl) (by kernel_rfl) (by kernel_rfl) (fun _ _ _ h => h) (Or.inl ⟨by rfl, ?_⟩) hHeld ?_
  rotate_left
  · intro wz hSw; (try dsimp only at hSw); go_simp; try with_reducible rfl
  (try simp only [Act.put, List.setIfInBounds_toArray, List.set_cons_zero, List.set_cons_succ])
  refine wpAnyH_take (i := 4) (v := ?_) (by simp only [List.getElem?_toArray, List.getElem?_cons_succ, List.getElem?_cons_zero]; rfl) (by kernel_rfl) (by kernel_rfl) (by kernel_rfl) (fun _ _ _ h => h) (Or.inl ⟨by rfl, ?_⟩) hHeld ?_
  rotate_left
  · intro wz hSw; (try dsimp only at hSw); go_simp; try with_reducible rfl
  (try simp only [Act.put, List.setIfInBounds_toArray, List.set_cons_zero, List.set_cons_succ])
  refine wpAnyH_take (i := 5) (v := ?_) (by simp only [List.getElem?_toArray, List.getElem?_cons_succ, List.getElem?_cons_zero]; rfl) (by kernel_rfl) (by kernel_rfl) (by kernel_rfl) (fun _ _ _ h => h) (Or.inl ⟨by rfl, ?_⟩) hHeld ?_
  rotate_left
  · intro wz hSw; (try dsimp only at hSw); go_simp; try with_reducible rfl
  (try simp only [Act.put, List.setIfInBounds_toArray, List.set_cons_zero, List.set_cons_succ])
  refine wpAnyH_take (i := 6) (v := ?_) (by simp only [List.getElem?_toArray, List.getElem?_cons_succ, List.getElem?_cons_zero]; rfl) (by kernel_rfl) (by kernel_rfl) (by kernel_rfl) (fun _ _ _ h => h) (Or.inl ⟨by rfl, ?_⟩) hHeld ?_
  rotate_left
  · intro wz hSw; (try dsimp only at hSw); go_simp; try with_reducible rfl
  (try simp only [Act.put, List.setIfInBounds_toArray, List.set_cons_zero, List.set_cons_succ])
  refine wpAnyH_take (i := 7) (v := ?_) (by simp only [List.getElem?_toArray, List.getElem?_cons_succ, List.getElem?_cons_zero]; rfl) (by kernel_rfl) (by kernel_rfl) (by kernel_rfl) (fun _ _ _ h => h) (Or.inl ⟨by rfl, ?_⟩) hHeld ?_
  rotate_left
  · intro wz hSw; (try dsimp only at hSw); go_simp; try with_reducible rfl
  (try simp only [Act.put, List.setIfInBounds_toArray, List.set_cons_zero, List.set_cons_succ])
  refine wpAnyH_take (i := 8) (v := ?_) (by simp only [List.getElem?_toArray, List.getElem?_cons_succ, List.getElem?_cons_zero]; rfl) (by kernel_rfl) (by kernel_rfl) (by kernel_rfl) (fun _ _ _ h => h) (Or.inl ⟨by rfl, ?_⟩) hHeld ?_
  rotate_left
  · intro wz hSw; (try dsimp only at hSw); go_simp; try with_reducible rfl
  (try simp only [Act.put, List.setIfInBounds_toArray, List.set_cons_zero, List.set_cons_succ])
  refine wpAnyH_take (i := 9) (v := ?_) (by simp only [List.getElem?_toArray, List.getElem?_cons_succ, List.getElem?_cons_zero]; rfl) (by kernel_rfl) (by kernel_rfl) (by kernel_rfl) (fun _ _ _ h => h) (Or.inl ⟨by rfl, ?_⟩) hHeld ?_
  rotate_left
  · intro wz hSw; (try dsimp only at hSw); go_simp; try with_reducible rfl
  (try simp only [Act.put, List.setIfInBounds_toArray, List.set_cons_zero, List.set_cons_succ])
  refine wpAnyH_take (i := 10) (v := ?_) (by simp only [List.getElem?_toArray, List.getElem?_cons_succ, List.getElem?_cons_zero]; rfl) (by kernel_rfl) (by kernel_rfl) (by kernel_rfl) (fun _ _ _ h => h) (Or.inl ⟨by rfl, ?_⟩) hHeld ?_
  rotate_left
  · intro wz hSw; (try dsimp only at hSw); go_simp; try with_reducible rfl
  (try simp only [Act.put, List.setIfInBounds_toArray, List.set_cons_zero, List.set_cons_succ])
  refine wpAnyH_take (i := 11) (v := ?_) (by simp only [List.getElem?_toArray, List.getElem?_cons_succ, List.getElem?_cons_zero]; rfl) (by kernel_rfl) (by kernel_rfl) (by kernel_rfl) (fun _ _ _ h => h) (Or.inl ⟨by rfl, ?_⟩) hHeld ?_
  rotate_left
  · intro wz hSw; (try dsimp only at hSw); go_simp; try with_reducible rfl
  (try simp only [Act.put, List.setIfInBounds_toArray, List.set_cons_zero, List.set_cons_succ])
  refine wpAnyH_take (i := 12) (v := ?_) (by simp only [List.getElem?_toArray, List.getElem?_cons_succ, List.getElem?_cons_zero]; rfl) (by kernel_rfl) (by kernel_rfl) (by kernel_rfl) (fun _ _ _ h => h) (Or.inl ⟨by rfl, ?_⟩) hHeld ?_
  rotate_left
  · intro wz hSw; (try dsimp only at hSw); go_simp; try with_reducible rfl
  (try simp only [Act.put, List.setIfInBounds_toArray, List.set_cons_zero, List.set_cons_succ])
  refine wpAnyH_take (i := 13) (v := ?_) (by simp only [List.getElem?_toArray, List.getElem?_cons_succ, List.getElem?_cons_zero]; rfl) (by kernel_rfl) (by kernel_rfl) (by kernel_rfl) (fun _ _ _ h => h) (Or.inl ⟨by rfl, ?_⟩) hHeld ?_
  rotate_left
  · intro wz hSw; (try dsimp only at hSw); go_simp; try with_reducible rfl
  (try simp only [Act.put, List.setIfInBounds_toArray, List.set_cons_zero, List.set_cons_succ])
  refine wpAnyH_take (i := 14) (v := ?_) (by simp only [List.getElem?_toArray, List.getElem?_cons_succ, List.getElem?_cons_zero]; rfl) (by kernel_rfl) (by kernel_rfl) (by kernel_rfl) (fun _ _ _ h => h) (Or.inl ⟨by rfl, ?_⟩) hHeld ?_
  rotate_left
  · intro wz hSw; (try dsimp only at hSw); go_simp; try with_reducible rfl
  (try simp only [Act.put, List.setIfInBounds_toArray, List.set_cons_zero, List.set_cons_succ])
  refine wpAnyH_take (i := 15) (v := ?_) (by simp only [List.getElem?_toArray, List.getElem?_cons_succ, List.getElem?_cons_zero]; rfl) (by kernel_rfl) (by kernel_rfl) (by kernel_rfl) (fun _ _ _ h => h) (Or.inl ⟨by rfl, ?_⟩) hHeld ?_
  rotate_left
  · intro wz hSw; (try dsimp only at hSw); go_simp; try with_reducible rfl
  (try simp only [Act.put, List.setIfInBounds_toArray, List.set_cons_zero, List.set_cons_succ])
  refine wpAnyH_done (by kernel_rfl) ?_ _
  simp only [lastQ]
  go_simp
  clear hHeld
  go_upto_region 5 with fail
  rw [IntKind.wrap_u8, flip_val y r hr8]
  refine wp_world (fun U => Dk U base d (layD s k (flip (s.lies k) i)) ∧ Kept (fun b => b = d.L) w U ∧ U.heap[d.M]? = w.heap[d.M]?) ⟨?_, ?_, ?_⟩ ?_
  · rw [HFl.out]
    exact (HBB.out _).drewN 1
  · exact ⟨rfl, rfl, rfl, by simp, fun b _ hn => Below.heap_setCell w _ _ b hn⟩
  · exact Below.heap_setCell w _ _ d.M HH.out.ne.2.2
  rintro U ⟨hU, hK, hM⟩
  have lk := HLK.out U hM
  rw [List.length_nil] at lk
  have bc := hU.blk.cells
  have HU := Lib.hid hU
  clear hU hM hcy hfz
  go_wp2
  refine wp_loop_rounds 1 ?_
  rw [rounds_succ]
  go_wp2
  go_ret
  exact ⟨rfl, HU.out, hK⟩
end Go.Proofs.Ytjndopmjlbhajaa
namespace Go.Proofs.Ytjndopmjlbhajaa
open Go.RowKit Go.Maps
set_option linter.unusedSimpArgs false
set_option linter.unusedVariables false

theorem flat_set {l : List (List UInt8)} (hl : ∀ x ∈ l, x.length = 256) {j a : Nat} (hj : j < l.length) (ha : a < 256) (y : UInt8) : l.flatten.set (j * 256 + a) y = (l.set j ((l.getD j []).set a y)).flatten := by
  induction l generalizing j with
  | nil => simp at hj
  | cons x l ih =>
    have hx := hl x (by simp)
    cases j with
    | zero =>
      simp only [Nat.zero_mul, Nat.zero_add, List.flatten_cons, List.set_cons_zero, List.getD_cons_zero]
      rw [List.set_append_left _ _ (by omega)]
    | succ j =>
      simp only [List.flatten_cons, List.set_cons_succ, List.getD_cons_succ]
      rw [List.set_append_right _ _ (by omega), hx, show (j + 1) * 256 + a - 256 = j * 256 + a by omega, ih (fun z hz => hl z (by simp [hz])) (by simpa using hj)]
def vsetD (t : Dsk) (k j : Nat) (x : List UInt8) : Dsk := { t with vers := fun m => if m = k then (t.vers k).set j x else t.vers m }
theorem Dk.vbit {w : World} {base : Nat} {d : Dw} {t : Dsk} (h : Dk w base d t) {k j a b : Nat} (hk : k < t.n) (hj : j < (t.vers k).length) (ha : a < 256) (hA : (d.v k).A = some ⟨b, 0, none⟩) (y : UInt8) :
    Ch w (w.setCell ⟨b, j * 256 + a, none⟩ (bv y)) base d d (vsetD t k j (((t.vers k).getD j []).set a y)) := by
  have hb : ablk (d.v k).A = some b := by rw [hA]; rfl
  have K : Kept (fun x => x = b) w (w.setCell ⟨b, j * 256 + a, none⟩ (bv y)) := ⟨rfl, rfl, rfl, by simp, fun x _ hn => Below.heap_setCell w _ _ x hn⟩
  have nL : ¬ d.L = b := fun e => h.apL k (by rw [hb, e])
  have nM : ¬ d.M = b := fun e => h.apM k (by rw [hb, e])
  have nG : ¬ d.g = b := fun e => h.apG k (by rw [hb, e])
  have hvo : ∀ m, m ≠ k → (vsetD t k j (((t.vers k).getD j []).set a y)).vers m = t.vers m := fun m hm => by show (if m = k then _ else _) = _; rw [if_neg hm]
  have hvk : (vsetD t k j (((t.vers k).getD j []).set a y)).vers k = (t.vers k).set j (((t.vers k).getD j []).set a y) := by show (if k = k then _ else _) = _; rw [if_pos rfl]
  have hlen : ∀ m, ((vsetD t k j (((t.vers k).getD j []).set a y)).vers m).length = (t.vers m).length := fun m => by
    by_cases e : m = k
    · subst e; rw [hvk, List.length_set]
    · rw [hvo m e]
  obtain ⟨D, hD⟩ := h.map
  refine ⟨⟨K.blk h.blk nG, Nat.lt_of_lt_of_le h.llt K.size, fun m hm => range_kept (h.lies m hm) (K.block d.L h.llt nL), there_kept h.there (K.block d.L h.llt nL), ⟨D, ownsMap_block hD.1 (K.block d.M h.mlt nM), fun m hm => ?_, fun z hz => ?_⟩, fun m hm => ?_, h.out, h.apart, h.apL, fun m hm => ⟨(h.len m hm).1, ?_⟩, h.small, h.left, h.bases, h.ne, rowAt_block h.lty (K.block d.L h.llt nL)⟩, rfl, K.mono (fun x _ e => .inr (.inr (.inr ⟨k, by rw [hb, e]⟩))), fun x hx => .inl hx⟩
  · rw [hlen]; exact hD.2.1 m hm
  · obtain ⟨m, h1, h2, h3⟩ := hD.2.2 z hz
    refine ⟨m, h1, h2, fun e => h3 ?_⟩
    have := hlen m
    rw [e] at this
    exact List.eq_nil_of_length_eq_zero this.symm
  · rw [hlen]
    by_cases e : m = k
    · subst e
      have h1 := h.vers m hm
      rw [hA] at h1 ⊢
      have h2 := h1.set_ (j * 256 + a) (bv y)
      rw [bvs_set, flat_set (h.len m hm).2 hj ha] at h2
      rw [hvk]
      exact h2
    · rw [hvo m e]
      exact own_kept (h.vers m hm) K (fun x hx e2 => by
        rcases h.apart m k e with h3 | h3
        · rw [h3] at hx; cases hx
        · exact h3 (by rw [hx, hb, e2]))
  · intro x hx
    by_cases e : m = k
    · subst e
      rw [hvk] at hx
      rcases List.mem_or_eq_of_mem_set hx with h1 | h1
      · exact (h.len m hm).2 x h1
      · rw [h1, List.length_set]
        refine (h.len m hm).2 _ ?_
        rw [List.getD_eq_getElem?_getD, List.getElem?_eq_getElem hj]
        exact List.getElem_mem _
    · rw [hvo m e] at hx; exact (h.len m hm).2 x hx

def rotTo (s : Dsk) (k i j : Nat) : Dsk := { layD s k (flip (s.lies k) i) with vers := fun m => if m = k then ((s.vers k).take j).map (fun x => flip x i) ++ (s.vers k).drop j else s.vers m }
def rotD (s : Dsk) (k i : Nat) : Dsk := rotTo s k i (s.vers k).length
theorem rotTo_0 (s : Dsk) (k i : Nat) : rotTo s k i 0 = layD s k (flip (s.lies k) i) := by
  unfold rotTo
  have : (fun m => if m = k then ((s.vers k).take 0).map (fun x => flip x i) ++ (s.vers k).drop 0 else s.vers m) = s.vers := by
    funext m
    by_cases e : m = k
    · subst e; simp
    · rw [if_neg e]
  rw [this]
  rfl
theorem rotTo_vers (s : Dsk) {k i j : Nat} : (rotTo s k i j).vers k = ((s.vers k).take j).map (fun x => flip x i) ++ (s.vers k).drop j := by
  show (if k = k then _ else _) = _
  rw [if_pos rfl]
theorem rotTo_len (s : Dsk) {k i j : Nat} : ((rotTo s k i j).vers k).length = (s.vers k).length := by
  rw [rotTo_vers, List.length_append, List.length_map, List.length_take, List.length_drop]; omega
theorem rotTo_get (s : Dsk) {k i j : Nat} (hj : j < (s.vers k).length) : ((rotTo s k i j).vers k).getD j [] = (s.vers k).getD j [] := by
  rw [rotTo_vers, List.getD_eq_getElem?_getD, List.getD_eq_getElem?_getD, List.getElem?_append_right (by simp; omega), List.length_map, List.length_take, Nat.min_eq_left (by omega), Nat.sub_self, List.getElem?_drop, Nat.add_zero]
theorem dsk_ext : ∀ {t u : Dsk}, t.n = u.n → t.lies = u.lies → t.vers = u.vers → t.cut = u.cut → t.left = u.left → t = u
  | ⟨_, _, _, _, _⟩, ⟨_, _, _, _, _⟩, rfl, rfl, rfl, rfl, rfl => rfl
theorem rotTo_succ (s : Dsk) {k i j : Nat} (hj : j < (s.vers k).length) : rotTo s k i (j + 1) = vsetD (rotTo s k i j) k j (flip ((s.vers k).getD j []) i) := by
  have hv : (rotTo s k i (j + 1)).vers = (vsetD (rotTo s k i j) k j (flip ((s.vers k).getD j []) i)).vers := by
    funext m
    show (if m = k then _ else _) = (if m = k then _ else _)
    by_cases e : m = k
    · rw [if_pos e, if_pos e, rotTo_vers]
      have hx : (s.vers k).getD j [] = (s.vers k)[j] := by rw [List.getD_eq_getElem?_getD, List.getElem?_eq_getElem hj]; rfl
      rw [hx, List.take_succ_eq_append_getElem hj, List.map_append, List.drop_eq_getElem_cons hj, List.set_append_right _ _ (by simp; omega)]
      simp only [List.length_map, List.length_take, List.map_cons, List.map_nil]
      rw [Nat.min_eq_left (by omega), Nat.sub_self, List.set_cons_zero, List.append_assoc]
      rfl
    · rw [if_neg e, if_neg e]
      show _ = (if m = k then _ else _)
      rw [if_neg e]
  exact dsk_ext rfl rfl hv rfl rfl

set_option maxRecDepth 100000 in
set_option maxHeartbeats 8000000 in
theorem drot_any {w : World} {base : Nat} {d : Dw} {s : Dsk} (h : Dk w base d s) {k i : Nat} (hk : k < s.n) (hi : i < 2048) (hv : (s.vers k).length < 549755813887) :
    Calls Try.prog 48 #[.pointer (some ⟨d.g, 0, none⟩), .int .i64 ((k * 2048 + i : Nat) : Int)] w fun e w' => e = .returned (.int .i64 0) ∧ Ch w w' base d d (rotD s k i) := by
  have bc := h.blk.cells
  have hs := h.small
  have hkn : (k : Int) < (s.n : Int) := by omega
  have hlk := fun (w' : World) (hw : w'.heap[d.M]? = w.heap[d.M]?) => h.look hk hw
  have hi8 : i / 8 < 256 := by omega
  have hcy : w.cell? ⟨d.L, k * 256 + i / 8, none⟩ = some (.int .u8 (((s.lies k).getD (i / 8) 0).toNat : Int)) := by
    have := h.lies k hk (i / 8) (bv ((s.lies k).getD (i / 8) 0)) (by rw [bvs, List.getElem?_map, List.getD_eq_getElem?_getD, List.getElem?_eq_getElem (by rw [(h.len k hk).1]; exact hi8)]; rfl)
    exact this
  have hfz : w.frozen? ⟨d.L, k * 256 + i / 8, none⟩ = false := by
    have := (h.there (k * 256 + i / 8) (by omega)).2
    rwa [Nat.zero_add] at this
  have HB := fun (x : UInt8) => h.bit hk hi8 x
  have HFl : Hid (flip (s.lies k) i = (s.lies k).set (i / 8) (UInt8.ofNat (((s.lies k).getD (i / 8) 0).toNat ^^^ 2 ^ (i % 8)))) := rfl
  have HH := Lib.hid h
  have HBB := Lib.hid HB
  have HLK := Lib.hid hlk
  have hr8 : i % 8 < 8 := Nat.mod_lt _ (by omega)
  obtain ⟨bit, hbit⟩ : ∃ bit, bit = k * 2048 + i := ⟨_, rfl⟩
  rw [← hbit]
  obtain ⟨a, ha⟩ : ∃ a, a = i / 8 := ⟨_, rfl⟩
  obtain ⟨r, hr⟩ : ∃ r, r = i % 8 := ⟨_, rfl⟩
  rw [← ha] at hi8 hcy hfz HBB HFl
  rw [← hr] at HFl hr8
  have q1 : (bit : Int) / 2048 = (k : Int) := by omega
  have q2 : (bit : Int) % 2048 = (i : Int) := by omega
  have d1 : decide ((2048 : Int) * (s.n : Int) ≤ (bit : Int)) = false := decide_eq_false (by omega)
  have q3 : (i : Int) / 8 = (a : Int) := by omega
  have q4 : (i : Int) % 8 = (r : Int) := by omega
  have hb0 : bit ≤ 8388608 := by omega
  have HVl := Lib.hid hv
  have Hi := Lib.hid ha
  have Hr := Lib.hid hr
  clear h hv HB hlk hbit
  obtain ⟨y, hy⟩ : ∃ y, y = (s.lies k).getD a 0 := ⟨_, rfl⟩
  rw [← hy] at hcy HFl
  clear hy
  clear ha hr
  go_enter Try.func48, Try.ntmps48
  go_upto_region 4 with fail
  have q5 : (a : Int) < 256 := by omega
  have q6 : IntKind.i64.wrap (a : Int) = (a : Int) := IntWalk.i64_in _ (by omega)
  have q8 : (i : Int).tmod 8 = (r : Int) := by rw [Int.tmod_eq_emod_of_nonneg (by omega)]; exact q4
  have q7 : IntKind.i64.wrap (r : Int) = (r : Int) := IntWalk.i64_in _ (by omega)
  refine wp_region_last (S := fun w' => w'.cell? ⟨d.g, 0, none⟩ = some (.slice (some ⟨d.L, 0, none⟩) s.n d.lc) ∧ w'.cell? ⟨d.L, k * 256 + a, none⟩ = some (.int .u8 (y.toNat : Int))) 16 (by kernel_rfl) rfl (by kernel_rfl) ?_ ?_
  · exact ⟨bc 0, hcy⟩
  intro hHeld
  simp only [List.take_succ_cons, List.take_zero]
  refine wpAnyH_take (i := 0) (v := ?_) (by simp only [List.getElem?_toArray, List.getElem?_cons_succ, List.getElem?_cons_zero]; rfl) (by kernel_rfl) (by kernel_rfl) (by kernel_rfl) (fun _ _ _ h => h) (Or.inl ⟨by rfl, ?_⟩) hHeld ?_
  rotate_left
  · intro wz hSw; (try dsimp only at hSw); go_simp; try with_reducible rfl
  (try simp only [Act.put, List.setIfInBounds_toArray, List.set_cons_zero, List.set_cons_succ])
  refine wpAnyH_take (i := 1) (v := ?_) (by simp only [List.getElem?_toArray, List.getElem?_cons_succ, List.getElem?_cons_zero]; rfl) (by kernel_rfl) (by kernel_rfl) (by kernel_rfl) (fun _ _ _ h => h) (Or.inl ⟨by rfl, ?_⟩) hHeld ?_
  rotate_left
  · intro wz hSw; (try dsimp only at hSw); go_simp; try with_reducible rfl
  (try simp only [Act.put, List.setIfInBounds_toArray, List.set_cons_zero, List.set_cons_succ])
  refine wpAnyH_take (i := 2) (v := ?_) (by simp only [List.getElem?_toArray, List.getElem?_cons_succ, List.getElem?_cons_zero]; rfl) (by kernel_rfl) (by kernel_rfl) (by kernel_rfl) (fun _ _ _ h => h) (Or.inl ⟨by rfl, ?_⟩) hHeld ?_
  rotate_left
  · intro wz hSw; (try dsimp only at hSw); go_simp; try with_reducible rfl
  (try simp only [Act.put, List.setIfInBounds_toArray, List.set_cons_zero, List.set_cons_succ])
  refine wpAnyH_take (i := 3) (v := ?_) (by simp only [List.getElem?_toArray, List.getElem?_cons_succ, List.getElem?_cons_zero]; rfl) (by kernel_rfl) (by kernel_rfl) (by kernel_rfl) (fun _ _ _ h => h) (Or.inl ⟨by rfl, ?_⟩) hHeld ?_
  rotate_left
  · intro wz hSw; (try dsimp only at hSw); go_simp; try with_reducible rfl
  (try simp only [Act.put, List.setIfInBounds_toArray, List.set_cons_zero, List.set_cons_succ])
  refine wpAnyH_take (i := 4) (v := ?_) (by simp only [List.getElem?_toArray, List.getElem?_cons_succ, List.getElem?_cons_zero]; rfl) (by kernel_rfl) (by kernel_rfl) (by kernel_rfl) (fun _ _ _ h => h) (Or.inl ⟨by rfl, ?_⟩) hHeld ?_
  rotate_left
  · intro wz hSw; (try dsimp only at hSw); go_simp; try with_reducible rfl
  (try simp only [Act.put, List.setIfInBounds_toArray, List.set_cons_zero, List.set_cons_succ])
  refine wpAnyH_take (i := 5) (v := ?_) (by simp only [List.getElem?_toArray, List.getElem?_cons_succ, List.getElem?_cons_zero]; rfl) (by kernel_rfl) (by kernel_rfl) (by kernel_rfl) (fun _ _ _ h => h) (Or.inl ⟨by rfl, ?_⟩) hHeld ?_
  rotate_left
  · intro wz hSw; (try dsimp only at hSw); go_simp; try with_reducible rfl
  (try simp only [Act.put, List.setIfInBounds_toArray, List.set_cons_zero, List.set_cons_succ])
  refine wpAnyH_take (i := 6) (v := ?_) (by simp only [List.getElem?_toArray, List.getElem?_cons_succ, List.getElem?_cons_zero]; rfl) (by kernel_rfl) (by kernel_rfl) (by kernel_rfl) (fun _ _ _ h => h) (Or.inl ⟨by rfl, ?_⟩) hHeld ?_
  rotate_left
  · intro wz hSw; (try dsimp only at hSw); go_simp; try with_reducible rfl
  (try simp only [Act.put, List.setIfInBounds_toArray, List.set_cons_zero, List.set_cons_succ])
  refine wpAnyH_take (i := 7) (v := ?_) (by simp only [List.getElem?_toArray, List.getElem?_cons_succ, List.getElem?_cons_zero]; rfl) (by kernel_rfl) (by kernel_rfl) (by kernel_rfl) (fun _ _ _ h => h) (Or.inl ⟨by rfl, ?_⟩) hHeld ?_
  rotate_left
  · intro wz hSw; (try dsimp only at hSw); go_simp; try with_reducible rfl
  (try simp only [Act.put, List.setIfInBounds_toArray, List.set_cons_zero, List.set_cons_succ])
  refine wpAnyH_take (i := 8) (v := ?_) (by simp only [List.getElem?_toArray, List.getElem?_cons_succ, List.getElem?_cons_zero]; rfl) (by kernel_rfl) (by kernel_rfl) (by kernel_rfl) (fun _ _ _ h => h) (Or.inl ⟨by rfl, ?_⟩) hHeld ?_
  rotate_left
  · intro wz hSw; (try dsimp only at hSw); go_simp; try with_reducible rfl
  (try simp only [Act.put, List.setIfInBounds_toArray, List.set_cons_zero, List.set_cons_succ])
  refine wpAnyH_take (i := 9) (v := ?_) (by simp only [List.getElem?_toArray, List.getElem?_cons_succ, List.getElem?_cons_zero]; rfl) (by kernel_rfl) (by kernel_rfl) (by kernel_rfl) (fun _ _ _ h => h) (Or.inl ⟨by rfl, ?_⟩) hHeld ?_
  rotate_left
  · intro wz hSw; (try dsimp only at hSw); go_simp; try with_reducible rfl
  (try simp only [Act.put, List.setIfInBounds_toArray, List.set_cons_zero, List.set_cons_succ])
  refine wpAnyH_take (i := 10) (v := ?_) (by simp only [List.getElem?_toArray, List.getElem?_cons_succ, List.getElem?_cons_zero]; rfl) (by kernel_rfl) (by kernel_rfl) (by kernel_rfl) (fun _ _ _ h => h) (Or.inl ⟨by rfl, ?_⟩) hHeld ?_
  rotate_left
  · intro wz hSw; (try dsimp only at hSw); go_simp; try with_reducible rfl
  (try simp only [Act.put, List.setIfInBounds_toArray, List.set_cons_zero, List.set_cons_succ])
  refine wpAnyH_take (i := 11) (v := ?_) (by simp only [List.getElem?_toArray, List.getElem?_cons_succ, List.getElem?_cons_zero]; rfl) (by kernel_rfl) (by kernel_rfl) (by kernel_rfl) (fun _ _ _ h => h) (Or.inl ⟨by rfl, ?_⟩) hHeld ?_
  rotate_left
  · intro wz hSw; (try dsimp only at hSw); go_simp; try with_reducible rfl
  (try simp only [Act.put, List.setIfInBounds_toArray, List.set_cons_zero, List.set_cons_succ])
  refine wpAnyH_take (i := 12) (v := ?_) (by simp only [List.getElem?_toArray, List.getElem?_cons_succ, List.getElem?_cons_zero]; rfl) (by kernel_rfl) (by kernel_rfl) (by kernel_rfl) (fun _ _ _ h => h) (Or.inl ⟨by rfl, ?_⟩) hHeld ?_
  rotate_left
  · intro wz hSw; (try dsimp only at hSw); go_simp; try with_reducible rfl
  (try simp only [Act.put, List.setIfInBounds_toArray, List.set_cons_zero, List.set_cons_succ])
  refine wpAnyH_take (i := 13) (v := ?_) (by simp only [List.getElem?_toArray, List.getElem?_cons_succ, List.getElem?_cons_zero]; rfl) (by kernel_rfl) (by kernel_rfl) (by kernel_rfl) (fun _ _ _ h => h) (Or.inl ⟨by rfl, ?_⟩) hHeld ?_
  rotate_left
  · intro wz hSw; (try dsimp only at hSw); go_simp; try with_reducible rfl
  (try simp only [Act.put, List.setIfInBounds_toArray, List.set_cons_zero, List.set_cons_succ])
  refine wpAnyH_take (i := 14) (v := ?_) (by simp only [List.getElem?_toArray, List.getElem?_cons_succ, List.getElem?_cons_zero]; rfl) (by kernel_rfl) (by kernel_rfl) (by kernel_rfl) (fun _ _ _ h => h) (Or.inl ⟨by rfl, ?_⟩) hHeld ?_
  rotate_left
  · intro wz hSw; (try dsimp only at hSw); go_simp; try with_reducible rfl
  (try simp only [Act.put, List.setIfInBounds_toArray, List.set_cons_zero, List.set_cons_succ])
  refine wpAnyH_take (i := 15) (v := ?_) (by simp only [List.getElem?_toArray, List.getElem?_cons_succ, List.getElem?_cons_zero]; rfl) (by kernel_rfl) (by kernel_rfl) (by kernel_rfl) (fun _ _ _ h => h) (Or.inl ⟨by rfl, ?_⟩) hHeld ?_
  rotate_left
  · intro wz hSw; (try dsimp only at hSw); go_simp; try with_reducible rfl
  (try simp only [Act.put, List.setIfInBounds_toArray, List.set_cons_zero, List.set_cons_succ])
  refine wpAnyH_done (by kernel_rfl) ?_ _
  simp only [lastQ]
  go_simp
  clear hHeld
  go_upto_region 5 with fail
  rw [IntKind.wrap_u8, flip_val y r hr8]
  refine wp_world (fun U => Dk U base d (layD s k (flip (s.lies k) i)) ∧ Kept (fun b => b = d.L) w U ∧ U.heap[d.M]? = w.heap[d.M]?) ⟨?_, ?_, ?_⟩ ?_
  · rw [HFl.out]
    exact (HBB.out _).drewN 1
  · exact ⟨rfl, rfl, rfl, by simp, fun b _ hn => Below.heap_setCell w _ _ b hn⟩
  · exact Below.heap_setCell w _ _ d.M HH.out.ne.2.2
  rintro U ⟨hU, hK, hM⟩
  generalize bv (UInt8.ofNat (y.toNat ^^^ 2 ^ r)) = vv
  have hCh : Ch w U base d d (rotTo s k i 0) := by
    rw [rotTo_0]
    exact ⟨hU, rfl, hK.mono (fun b _ e => .inr (.inl e)), fun b hb => .inl hb⟩
  have HCh := Lib.hid hCh
  obtain ⟨V, hV⟩ : ∃ V, V = (s.vers k).length := ⟨_, rfl⟩
  have lk := HLK.out U hM
  rw [← hV] at lk HVl
  have hV9 := HVl.out
  have bc := hU.blk.cells
  have HVe := Lib.hid hV
  clear hU hM hcy hfz hCh hV hK
  go_wp2
  go_loopw [7, 47] (fun _ s47 wr => ∃ j : Nat, j ≤ V ∧ s47 = .int .i64 j ∧ Ch w wr base d d (rotTo s k i j)) (fun _ s47 _ => V - (intOf s47).toNat)
  case atStart => exact ⟨0, by omega, rfl, HCh.out⟩
  case round =>
    clear HCh lk bc
    obtain ⟨j, hj, rfl, hC⟩ := hrel
    have HC := Lib.hid hC
    clear hC
    by_cases hlt : j < V
    · have hjs : j < (s.vers k).length := by rw [← HVe.out]; exact hlt
      have hkt : k < (rotTo s k i j).n := hk
      have hjt : j < ((rotTo s k i j).vers k).length := by rw [rotTo_len]; exact hjs
      obtain ⟨bb, hA, hrg, hzl⟩ := HC.out.dk.ver (k := k) (q := j) hkt hjt
      rw [rotTo_get s hjs] at hrg hzl
      obtain ⟨z, hz⟩ : ∃ z, z = (s.vers k).getD j [] := ⟨_, rfl⟩
      rw [← hz] at hrg hzl
      have hfr : wr.frozen? ⟨bb, j * 256 + a, none⟩ = false := by
        have h1 := HC.out.dk.vers k hkt
        rw [hA] at h1
        exact own_free h1 _
      have hlk2 := fun (w' : World) (hw : w'.heap[d.M]? = wr.heap[d.M]?) => HC.out.dk.look hkt hw
      rw [rotTo_len, ← HVe.out, hA] at hlk2
      have hyc : wr.cell? ⟨bb, j * 256 + a, none⟩ = some (.int .u8 ((z.getD a 0).toNat : Int)) := by
        have := hrg a (bv (z.getD a 0)) (by rw [bvs, List.getElem?_map, List.getD_eq_getElem?_getD, List.getElem?_eq_getElem (by rw [hzl]; exact hi8)]; rfl)
        exact this
      have HVb := Lib.hid (fun y : UInt8 => HC.out.dk.vbit hkt hjt hi8 hA y)
      have hEq : rotTo s k i (j + 1) = vsetD (rotTo s k i j) k j ((((rotTo s k i j).vers k).getD j []).set a (UInt8.ofNat ((z.getD a 0).toNat ^^^ 2 ^ r))) := by
        rw [rotTo_succ s hjs, rotTo_get s hjs, ← hz, flip, ← Hi.out, ← Hr.out]
      have HEq := Lib.hid hEq
      have bc := HC.out.dk.blk.cells
      obtain ⟨y, hy⟩ : ∃ y, y = z.getD a 0 := ⟨_, rfl⟩
      rw [← hy] at hyc HEq
      have hjV : (j : Int) < (V : Int) := by omega
      have hidx : j * 256 + a < V * 256 := by omega
      have q10 : IntKind.i64.wrap (j : Int) = (j : Int) := IntWalk.i64_in _ (by omega)
      have lk := hlk2 wr rfl
      have HLk2 := Lib.hid hlk2
      clear hA hrg hz hzl hEq hy hlk2 hkt hjt hjs
      go_upto_region 8 with fail
      clear lk
      have lk := HLk2.out wr.drew rfl
      refine wp_region_last (S := fun w' => w'.cell? ⟨d.g, 1, none⟩ = some (.map (some d.M)) ∧ (Instr.lookup 62 (.map (some d.M)) (.int .i64 (k : Int)) false).run Try.prog w' = .ok (.slice (some ⟨bb, 0, none⟩) V (d.v k).c) w' ∧ w'.cell? ⟨bb, j * 256 + a, none⟩ = some (.int .u8 (y.toNat : Int))) 18 (by kernel_rfl) rfl (by kernel_rfl) ?_ ?_
      · exact ⟨bc 1, lk, hyc⟩
      intro hHeld
      simp only [List.take_succ_cons, List.take_zero]
      refine wpAnyH_take (i := 0) (v := ?_) (by simp only [List.getElem?_toArray, List.getElem?_cons_succ, List.getElem?_cons_zero]; rfl) (by kernel_rfl) (by kernel_rfl) (by kernel_rfl) (fun _ _ _ h => h) (Or.inl ⟨by rfl, ?_⟩) hHeld ?_
      rotate_left
      · intro wz hSw; (try dsimp only at hSw); go_simp; try with_reducible rfl
      (try simp only [Act.put, List.setIfInBounds_toArray, List.set_cons_zero, List.set_cons_succ])
      refine wpAnyH_take (i := 1) (v := ?_) (by simp only [List.getElem?_toArray, List.getElem?_cons_succ, List.getElem?_cons_zero]; rfl) (by kernel_rfl) (by kernel_rfl) (by kernel_rfl) (fun _ _ _ h => h) (Or.inl ⟨by rfl, ?_⟩) hHeld ?_
      rotate_left
      · intro wz hSw; (try dsimp only at hSw); go_simp; try with_reducible rfl
      (try simp only [Act.put, List.setIfInBounds_toArray, List.set_cons_zero, List.set_cons_succ])
      refine wpAnyH_take (i := 2) (v := ?_) (by simp only [List.getElem?_toArray, List.getElem?_cons_succ, List.getElem?_cons_zero]; rfl) (by kernel_rfl) (by kernel_rfl) (by kernel_rfl) (fun _ _ _ h => h) (Or.inl ⟨by rfl, ?_⟩) hHeld ?_
      rotate_left
      · intro wz hSw; (try dsimp only at hSw); go_simp; try with_reducible rfl
      (try simp only [Act.put, List.setIfInBounds_toArray, List.set_cons_zero, List.set_cons_succ])
      refine wpAnyH_take (i := 3) (v := ?_) (by simp only [List.getElem?_toArray, List.getElem?_cons_succ, List.getElem?_cons_zero]; rfl) (by kernel_rfl) (by kernel_rfl) (by kernel_rfl) (fun _ _ _ h => h) (Or.inl ⟨by rfl, ?_⟩) hHeld ?_
      rotate_left
      · intro wz hSw; (try dsimp only at hSw); go_simp; try with_reducible rfl
      (try simp only [Act.put, List.setIfInBounds_toArray, List.set_cons_zero, List.set_cons_succ])
      refine wpAnyH_take (i := 4) (v := ?_) (by simp only [List.getElem?_toArray, List.getElem?_cons_succ, List.getElem?_cons_zero]; rfl) (by kernel_rfl) (by kernel_rfl) (by kernel_rfl) (fun _ _ _ h => h) (Or.inl ⟨by rfl, ?_⟩) hHeld ?_
      rotate_left
      · intro wz hSw; (try dsimp only at hSw); go_simp; try with_reducible rfl
      (try simp only [Act.put, List.setIfInBounds_toArray, List.set_cons_zero, List.set_cons_succ])
      refine wpAnyH_take (i := 5) (v := ?_) (by simp only [List.getElem?_toArray, List.getElem?_cons_succ, List.getElem?_cons_zero]; rfl) (by kernel_rfl) (by kernel_rfl) (by kernel_rfl) (fun _ _ _ h => h) (Or.inl ⟨by rfl, ?_⟩) hHeld ?_
      rotate_left
      · intro wz hSw; (try dsimp only at hSw); go_simp; try with_reducible rfl
      (try simp only [Act.put, List.setIfInBounds_toArray, List.set_cons_zero, List.set_cons_succ])
      refine wpAnyH_take (i := 6) (v := ?_) (by simp only [List.getElem?_toArray, List.getElem?_cons_succ, List.getElem?_cons_zero]; rfl) (by kernel_rfl) (by kernel_rfl) (by kernel_rfl) (fun _ _ _ h => h) (Or.inl ⟨by rfl, ?_⟩) hHeld ?_
      rotate_left
      · intro wz hSw; (try dsimp only at hSw); go_simp; try with_reducible rfl
      (try simp only [Act.put, List.setIfInBounds_toArray, List.set_cons_zero, List.set_cons_succ])
      refine wpAnyH_take (i := 7) (v := ?_) (by simp only [List.getElem?_toArray, List.getElem?_cons_succ, List.getElem?_cons_zero]; rfl) (by kernel_rfl) (by kernel_rfl) (by kernel_rfl) (fun _ _ _ h => h) (Or.inl ⟨by rfl, ?_⟩) hHeld ?_
      rotate_left
      · intro wz hSw; (try dsimp only at hSw); go_simp; try with_reducible rfl
      (try simp only [Act.put, List.setIfInBounds_toArray, List.set_cons_zero, List.set_cons_succ])
      refine wpAnyH_take (i := 8) (v := ?_) (by simp only [List.getElem?_toArray, List.getElem?_cons_succ, List.getElem?_cons_zero]; rfl) (by kernel_rfl) (by kernel_rfl) (by kernel_rfl) (fun _ _ _ h => h) (Or.inl ⟨by rfl, ?_⟩) hHeld ?_
      rotate_left
      · intro wz hSw; (try dsimp only at hSw); go_simp; try with_reducible rfl
      (try simp only [Act.put, List.setIfInBounds_toArray, List.set_cons_zero, List.set_cons_succ])
      refine wpAnyH_take (i := 9) (v := ?_) (by simp only [List.getElem?_toArray, List.getElem?_cons_succ, List.getElem?_cons_zero]; rfl) (by kernel_rfl) (by kernel_rfl) (by kernel_rfl) (fun _ _ _ h => h) (Or.inl ⟨by rfl, ?_⟩) hHeld ?_
      rotate_left
      · intro wz hSw; (try dsimp only at hSw); go_simp; try with_reducible rfl
      (try simp only [Act.put, List.setIfInBounds_toArray, List.set_cons_zero, List.set_cons_succ])
      refine wpAnyH_take (i := 10) (v := ?_) (by simp only [List.getElem?_toArray, List.getElem?_cons_succ, List.getElem?_cons_zero]; rfl) (by kernel_rfl) (by kernel_rfl) (by kernel_rfl) (fun _ _ _ h => h) (Or.inl ⟨by rfl, ?_⟩) hHeld ?_
      rotate_left
      · intro wz hSw; (try dsimp only at hSw); go_simp; try with_reducible rfl
      (try simp only [Act.put, List.setIfInBounds_toArray, List.set_cons_zero, List.set_cons_succ])
      refine wpAnyH_take (i := 11) (v := ?_) (by simp only [List.getElem?_toArray, List.getElem?_cons_succ, List.getElem?_cons_zero]; rfl) (by kernel_rfl) (by kernel_rfl) (by kernel_rfl) (fun _ _ _ h => h) (Or.inl ⟨by rfl, ?_⟩) hHeld ?_
      rotate_left
      · intro wz hSw; (try dsimp only at hSw); go_simp; try with_reducible rfl
      (try simp only [Act.put, List.setIfInBounds_toArray, List.set_cons_zero, List.set_cons_succ])
      refine wpAnyH_take (i := 12) (v := ?_) (by simp only [List.getElem?_toArray, List.getElem?_cons_succ, List.getElem?_cons_zero]; rfl) (by kernel_rfl) (by kernel_rfl) (by kernel_rfl) (fun _ _ _ h => h) (Or.inl ⟨by rfl, ?_⟩) hHeld ?_
      rotate_left
      · intro wz hSw; (try dsimp only at hSw); go_simp; try with_reducible rfl
      (try simp only [Act.put, List.setIfInBounds_toArray, List.set_cons_zero, List.set_cons_succ])
      refine wpAnyH_take (i := 13) (v := ?_) (by simp only [List.getElem?_toArray, List.getElem?_cons_succ, List.getElem?_cons_zero]; rfl) (by kernel_rfl) (by kernel_rfl) (by kernel_rfl) (fun _ _ _ h => h) (Or.inl ⟨by rfl, ?_⟩) hHeld ?_
      rotate_left
      · intro wz hSw; (try dsimp only at hSw); go_simp; try with_reducible rfl
      (try simp only [Act.put, List.setIfInBounds_toArray, List.set_cons_zero, List.set_cons_succ])
      refine wpAnyH_take (i := 14) (v := ?_) (by simp only [List.getElem?_toArray, List.getElem?_cons_succ, List.getElem?_cons_zero]; rfl) (by kernel_rfl) (by kernel_rfl) (by kernel_rfl) (fun _ _ _ h => h) (Or.inl ⟨by rfl, ?_⟩) hHeld ?_
      rotate_left
      · intro wz hSw; (try dsimp only at hSw); go_simp; try with_reducible rfl
      (try simp only [Act.put, List.setIfInBounds_toArray, List.set_cons_zero, List.set_cons_succ])
      refine wpAnyH_take (i := 15) (v := ?_) (by simp only [List.getElem?_toArray, List.getElem?_cons_succ, List.getElem?_cons_zero]; rfl) (by kernel_rfl) (by kernel_rfl) (by kernel_rfl) (fun _ _ _ h => h) (Or.inl ⟨by rfl, ?_⟩) hHeld ?_
      rotate_left
      · intro wz hSw; (try dsimp only at hSw); go_simp; try with_reducible rfl
      (try simp only [Act.put, List.setIfInBounds_toArray, List.set_cons_zero, List.set_cons_succ])
      refine wpAnyH_take (i := 16) (v := ?_) (by simp only [List.getElem?_toArray, List.getElem?_cons_succ, List.getElem?_cons_zero]; rfl) (by kernel_rfl) (by kernel_rfl) (by kernel_rfl) (fun _ _ _ h => h) (Or.inl ⟨by rfl, ?_⟩) hHeld ?_
      rotate_left
      · intro wz hSw; (try dsimp only at hSw); go_simp; try with_reducible rfl
      (try simp only [Act.put, List.setIfInBounds_toArray, List.set_cons_zero, List.set_cons_succ])
      refine wpAnyH_take (i := 17) (v := ?_) (by simp only [List.getElem?_toArray, List.getElem?_cons_succ, List.getElem?_cons_zero]; rfl) (by kernel_rfl) (by kernel_rfl) (by kernel_rfl) (fun _ _ _ h => h) (Or.inl ⟨by rfl, ?_⟩) hHeld ?_
      rotate_left
      · intro wz hSw; (try dsimp only at hSw); go_simp; try with_reducible rfl
      (try simp only [Act.put, List.setIfInBounds_toArray, List.set_cons_zero, List.set_cons_succ])
      refine wpAnyH_done (by kernel_rfl) ?_ _
      simp only [lastQ]
      go_simp
      clear hHeld lk
      go_upto_region 9 with fail
      rw [IntKind.wrap_u8, flip_val y r hr8]
      have hC2 := (HC.out.trans (HVb.out (UInt8.ofNat (y.toNat ^^^ 2 ^ r)))).below (Below.refl _ _).drew (Nat.le_refl _)
      rw [← HEq.out] at hC2
      have HC2 := Lib.hid hC2
      clear hC2 HEq HVb HLk2 hyc hfr bc
      generalize (wr.setCell ⟨bb, j * 256 + a, none⟩ (bv (UInt8.ofNat (y.toNat ^^^ 2 ^ r)))).drew = w6 at *
      go_wp2
      go_roundw
      case rel => exact ⟨j + 1, by omega, by norm_cast, HC2.out⟩
      case measure => simp only [intOf]; omega
    · obtain rfl : j = V := by omega
      go_wp2
      go_ret
      refine ⟨rfl, ?_⟩
      have h := HC.out
      unfold rotD
      rw [HVe.out] at h
      exact h
end Go.Proofs.Ytjndopmjlbhajaa
namespace Go.Proofs.Ytjndopmjlbhajaa
open Go.RowKit Go.Maps
set_option linter.unusedSimpArgs false
set_option linter.unusedVariables false

def cutLeft (s : Dsk) (n : Int) : Int := if s.cut then min n (max s.left 0) else n
def cutD (s : Dsk) (n : Int) : Dsk := { s with cut := true, left := cutLeft s n }

set_option maxHeartbeats 1000000 in
theorem drot_far {w : World} {base : Nat} {d : Dw} {s : Dsk} (h : Dk w base d s) {k : Int} (hk : k < 0 ∨ 2048 * (s.n : Int) ≤ k) :
    Calls Try.prog 48 #[.pointer (some ⟨d.g, 0, none⟩), .int .i64 k] w fun e w' => e = .returned (.int .i64 2) ∧ w' = w := by
  have bc := h.blk.cells
  have hs := h.small
  clear h
  by_cases h0 : k < 0
  · go_enter Try.func48, Try.ntmps48
    go_wp2
    go_ret
    exact ⟨rfl, rfl⟩
  · have h1 : 2048 * (s.n : Int) ≤ k := by omega
    go_enter Try.func48, Try.ntmps48
    go_wp2
    go_ret
    exact ⟨rfl, rfl⟩
theorem Dk.setCut {w : World} {base : Nat} {d : Dw} {s : Dsk} (h : Dk w base d s) {l : Int} (hl : -9223372036854775808 ≤ l ∧ l ≤ 9223372036854775807) :
    Ch w ((w.setCell ⟨d.g, 2, none⟩ (.bool true)).setCell ⟨d.g, 3, none⟩ (.int .i64 l)) base d d { s with cut := true, left := l } := by
  have K : Kept (fun b => b = d.g) w ((w.setCell ⟨d.g, 2, none⟩ (.bool true)).setCell ⟨d.g, 3, none⟩ (.int .i64 l)) := ⟨rfl, rfl, rfl, by simp, fun b _ hn => (Below.heap_setCell _ _ _ b hn).trans (Below.heap_setCell w _ _ b hn)⟩
  exact ⟨h.reblk K hl ((h.blk.set_ 2 (.bool true)).set_ 3 (.int .i64 l)), rfl, K.mono (fun b _ e => .inl e), fun b hb => .inl hb⟩
end Go.Proofs.Ytjndopmjlbhajaa
