/- Each sector's versions, kept in lists: in an array of twelve. No condition. -/
import Derived.Test.YtnclebnodkkgnaaDkHad
namespace Go.Proofs.Ytnclebnodkkgnaa
open Go.RowKit Go.Maps
set_option linter.unusedVariables false

/-- a slice of bytes in a block of its own, away from the disk -/
def VerE (w : World) (d : Dw) (v : Value) (x : List UInt8) : Prop := ∃ g t, v = .slice (some ⟨g, 0, none⟩) 256 256 ∧ Blk w g t (bvs x) ∧ x.length = 256 ∧ t ≠ 33 ∧ t ≠ 50 ∧ ¬ d.foot g
structure VerI (w : World) (d : Dw) (base g : Nat) (A : Nat → Option Addr) (c : Nat → Nat) (us : Nat → List Value) (xs : Nat → List (List UInt8)) : Prop where
  blk : Blk w g 50 ((List.range 12).map fun k => .slice (A k) (xs k).length (c k))
  off : ¬ d.foot g
  own : ∀ k, k < 12 → Own w base 33 1 (A k) (xs k).length (c k) (us k)
  offA : ∀ k, k < 12 → ∀ b, ablk (A k) = some b → ¬ d.foot b
  apart : ∀ j k, j < 12 → k < 12 → j ≠ k → ablk (A j) = none ∨ ablk (A j) ≠ ablk (A k)
  elt : ∀ k, k < 12 → All2 (VerE w d) (us k) (xs k)
theorem own_other {w : World} {base s n c : Nat} {e t : TypeId} {A : Option Addr} {us cs : List Value} (h : Own w base e s A n c us) {g : Nat} (hg : Blk w g t cs) (hne : t ≠ e) : ablk A ≠ some g := fun e' => by
  rcases h.cases with ⟨rfl, _⟩ | ⟨g', cur, rfl, _, hh, _⟩
  · cases e'
  · have : g' = g := by simpa [ablk] using e'
    subst this
    unfold Blk at hg
    rw [hh] at hg
    simp only [Option.some.injEq, Obj.cells.injEq] at hg
    exact hne hg.2.1.symm
theorem blk_other {w : World} {g j : Nat} {t t' : TypeId} {cs cs' : List Value} (h : Blk w g t cs) (h' : Blk w j t' cs') (hne : t ≠ t') : g ≠ j := fun e => by
  subst e
  unfold Blk at h h'
  rw [h] at h'
  simp only [Option.some.injEq, Obj.cells.injEq] at h'
  exact hne h'.2.1
section
variable {w w' : World} {base bd g : Nat} {d d' : Dw} {s s' : Dsk} {A : Nat → Option Addr} {c : Nat → Nat} {us : Nat → List Value} {xs : Nat → List (List UInt8)}
theorem VerI.new (w : World) (d : Dw) (base : Nat) {s : Dsk} (h : Dk w bd d s) : VerI (w.alloc (.cells ((List.range 12).map fun _ => Value.slice none 0 0).toArray 50)) d base w.heap.size (fun _ => none) (fun _ => 0) (fun _ => []) (fun _ => []) :=
  ⟨Blk.new w _ _, fun e => by have := (h.foot_base _ e).2; omega, fun _ _ => Own.nil_ _ _ _ _, fun _ _ b e => (by cases e), fun _ _ _ _ _ => .inl rfl, fun _ _ => .nil⟩
theorem VerE.kept {F : Nat → Prop} {v : Value} {x : List UInt8} (h : VerE w d v x) (K : Kept F w w') (hF : ∀ b t, Blk w b t (bvs x) → t ≠ 33 → t ≠ 50 → ¬ d.foot b → ¬ F b ∧ ¬ d'.foot b) : VerE w' d' v x := by
  obtain ⟨g, t, h1, h2, h3, h4, h5, h6⟩ := h
  obtain ⟨f1, f2⟩ := hF g t h2 h4 h5 h6
  exact ⟨g, t, h1, K.blk h2 f1, h3, h4, h5, f2⟩
theorem VerI.ch (h : VerI w d base g A c us xs) (k : Ch w w' bd d d' s') : VerI w' d' base g A c us xs :=
  ⟨k.K.blk h.blk h.off, k.away h.off h.blk.lt, fun j hj => own_kept (h.own j hj) k.K (fun b hb => h.offA j hj b hb), fun j hj b hb => k.away (h.offA j hj b hb) ((h.own j hj).blk hb).2, h.apart, fun j hj =>
    all2_imp (fun v x hv => hv.kept k.K (fun b t h1 _ _ h2 => ⟨h2, k.away h2 h1.lt⟩)) (h.elt j hj)⟩
theorem VerI.below (h : VerI w d base g A c us xs) (hb : Below w.heap.size w w') : VerI w' d base g A c us xs :=
  ⟨h.blk.below hb h.blk.lt, h.off, fun j hj => (h.own j hj).below hb (Nat.le_refl _), h.offA, h.apart, fun j hj =>
    all2_imp (fun v x hv => hv.kept (F := fun _ => False) (Kept.of_below hb (Nat.le_refl _)) (fun b t _ _ _ h2 => ⟨fun e => e, h2⟩)) (h.elt j hj)⟩
theorem VerI.cell (h : VerI w d base g A c us xs) {k : Nat} (hk : k < 12) : w.cell? ⟨g, k, none⟩ = some (.slice (A k) (xs k).length (c k)) := by
  rw [h.blk.cell, List.getElem?_map, List.getElem?_range hk]
  rfl
theorem VerI.put (h : VerI w d base g A c us xs) (hd : Dk w bd d s) {k : Nat} (hk : k < 12) {v : Value} {x : List UInt8} (hx : VerE w d v x) {A' : Option Addr} {c' n : Nat} (hn : n = (xs k).length + 1)
    (ho : Own w' base 33 1 A' n c' (us k ++ [v])) (hgr : w.grownBy w' (ablk (A k))) (hA : ablk A' = ablk (A k) ∨ ablk A' = some w.heap.size) :
    VerI (w'.setCell ⟨g, k, none⟩ (.slice A' n c')) d base g (fun j => if j = k then A' else A j) (fun j => if j = k then c' else c j) (fun j => if j = k then us k ++ [v] else us j) (fun j => if j = k then xs k ++ [x] else xs j) ∧
      Kept (fun b => ablk (A k) = some b ∨ b = g) w (w'.setCell ⟨g, k, none⟩ (.slice A' n c')) ∧ Dk (w'.setCell ⟨g, k, none⟩ (.slice A' n c')) bd d s := by
  subst hn
  have K : Kept (fun b => ablk (A k) = some b) w w' := Kept.of_grown hgr (fun b e => e)
  have K2 : Kept (fun y => y = g) w' (w'.setCell ⟨g, k, none⟩ (.slice A' ((xs k).length + 1) c')) := ⟨rfl, rfl, rfl, by simp, fun y _ hn => Below.heap_setCell w' _ _ y hn⟩
  have hgA : ∀ j, j < 12 → ablk (A j) ≠ some g := fun j hj => own_other (h.own j hj) h.blk (by decide)
  have hgw := h.blk.lt
  have hgA' : ablk A' ≠ some g := fun e => by
    rcases hA with e1 | e1
    · exact hgA k hk (e1.symm.trans e)
    · rw [e1] at e
      injection e with e
      omega
  have hdn : ¬ d.foot w.heap.size := fun y => by have := (hd.foot_base _ y).2; omega
  refine ⟨⟨?_, h.off, fun j hj => ?_, fun j hj => ?_, ?_, fun j hj => ?_⟩, (K.mono (F' := fun b => ablk (A k) = some b ∨ b = g) (fun _ _ e => .inl e)).trans K2 (fun _ _ e => .inr e), ?_⟩
  · have hb := (K.blk h.blk (fun e => hgA k hk e)).set_ k (.slice A' ((xs k).length + 1) c')
    have : ((List.range 12).map fun k => Value.slice (A k) (xs k).length (c k)).set k (.slice A' ((xs k).length + 1) c') = (List.range 12).map fun j => .slice (if j = k then A' else A j) (if j = k then xs k ++ [x] else xs j).length (if j = k then c' else c j) := by
      apply List.ext_getElem
      · simp
      · intro j h1 h2
        rw [List.getElem_set, List.getElem_map, List.getElem_map, List.getElem_range]
        by_cases e : k = j
        · subst e; simp
        · rw [if_neg e, if_neg (Ne.symm e), if_neg (Ne.symm e), if_neg (Ne.symm e)]
    rw [← this]
    exact hb
  · by_cases e : j = k
    · subst e
      rw [if_pos rfl, if_pos rfl, if_pos rfl, if_pos rfl, List.length_append]
      exact own_kept ho K2 (fun b hb e => hgA' (by rw [hb, e]))
    · rw [if_neg e, if_neg e, if_neg e, if_neg e]
      refine own_kept (own_kept (h.own j hj) K (fun b hb e' => ?_)) K2 (fun b hb e => hgA j hj (by rw [hb, e]))
      rcases h.apart j k hj hk e with e2 | e2
      · rw [e2] at hb; cases hb
      · exact e2 (hb.trans e'.symm)
  · by_cases e : j = k
    · subst e
      rw [if_pos rfl]
      intro b hb
      rcases hA with e | e
      · exact h.offA j hj b (e ▸ hb)
      · rw [e] at hb
        injection hb with hb
        rw [← hb]; exact hdn
    · rw [if_neg e]; exact h.offA j hj
  · intro i j hi hj hij
    by_cases e1 : i = k
    · subst e1
      rw [if_pos rfl, if_neg (Ne.symm hij)]
      rcases hA with e | e
      · rw [e]; exact h.apart i j hi hj hij
      · right; rw [e]; intro e2
        have := ((h.own j hj).blk (g := w.heap.size) e2.symm).2
        omega
    · rw [if_neg e1]
      by_cases e2 : j = k
      · subst e2
        rw [if_pos rfl]
        rcases hA with e | e
        · rw [e]; exact h.apart i j hi hj hij
        · rcases hq : ablk (A i) with _ | q
          · exact .inl rfl
          · right; rw [e]; intro e2
            have := ((h.own i hi).blk hq).2
            injection e2 with e2
            omega
      · rw [if_neg e2]; exact h.apart i j hi hj hij
  · have up : ∀ v x, VerE w d v x → VerE (w'.setCell ⟨g, k, none⟩ (.slice A' ((xs k).length + 1) c')) d v x := fun v x hv => by
      refine hv.kept ((K.mono (F' := fun b => ablk (A k) = some b ∨ b = g) (fun _ _ e => .inl e)).trans K2 (fun _ _ e => .inr e)) (fun b t h1 h2 h3 h4 => ⟨fun e => ?_, h4⟩)
      rcases e with e | e
      · exact own_other (h.own k hk) h1 h2 e
      · exact blk_other h1 h.blk h3 e
    by_cases e : j = k
    · subst e
      rw [if_pos rfl, if_pos rfl]
      exact all2_append (.cons (up _ _ hx) .nil) (all2_imp up (h.elt j hj))
    · rw [if_neg e, if_neg e]
      exact all2_imp up (h.elt j hj)
  · refine (hd.kept K (fun b hb e => h.offA k hk b e hb)).kept K2 (fun b hb e => h.off (by rw [← e]; exact hb))
theorem VerI.after (h : VerI w d base g A c us xs) {k : Nat} (hk : k < 12) (hgr : w.grownBy w' (ablk (A k))) : w'.cell? ⟨g, k, none⟩ = some (.slice (A k) (xs k).length (c k)) ∧ w'.frozen? ⟨g, k, none⟩ = false := by
  have K : Kept (fun b => ablk (A k) = some b) w w' := Kept.of_grown hgr (fun b e => e)
  have hb := K.blk h.blk (fun e => own_other (h.own k hk) h.blk (by decide) e)
  refine ⟨?_, hb.frozen k⟩
  rw [hb.cell, List.getElem?_map, List.getElem?_range hk]
  rfl
theorem VerI.congr {xs' : Nat → List (List UInt8)} (h : VerI w d base g A c us xs) (e : ∀ k, k < 12 → xs k = xs' k) : VerI w d base g A c us xs' := by
  refine ⟨?_, h.off, fun k hk => by rw [← e k hk]; exact h.own k hk, h.offA, h.apart, fun k hk => by rw [← e k hk]; exact h.elt k hk⟩
  have : ((List.range 12).map fun k => Value.slice (A k) (xs k).length (c k)) = (List.range 12).map fun k => Value.slice (A k) (xs' k).length (c k) :=
    List.map_congr_left fun k hk => by rw [e k (List.mem_range.1 hk)]
  rw [← this]
  exact h.blk
end
end Go.Proofs.Ytnclebnodkkgnaa
