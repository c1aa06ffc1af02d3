/- What was read of each sector, kept in a list; a write at a sector by its number. No condition. -/
import Derived.Test.YtnclebnodkkgnaaDkAgain
import Derived.Test.YtnclebnodkkgnaaDkWhole
namespace Go.Proofs.Ytnclebnodkkgnaa
open Go.RowKit Go.Maps
set_option linter.unusedVariables false

theorem info33h : (Try.prog.info? 33).map (fun i => (i.zero, i.size, i.bytes)) = some (some (.slice none 0 0), 1, 24) := by kernel_rfl
theorem one_slc (A : Option Addr) (n c : Nat) : ∀ u ∈ [Value.slice A n c], u.oneCell' = true := by
  intro u hu
  obtain rfl := List.mem_singleton.1 hu
  rfl
/-- sectors that were read, in a list -/
structure HadI (w : World) (d : Dw) (base : Nat) (A : Option Addr) (n c : Nat) (vs : List Value) (ll : Nat → List UInt8) : Prop where
  own : Own w base 33 1 A n c vs
  off : ∀ b, ablk A = some b → ¬ d.foot b
  at_ : ∀ k, k < n → ∃ g, vs[k]? = some (.slice (some ⟨g, 0, none⟩) 256 256) ∧ Blk w g 93 (bvs (ll k)) ∧ (ll k).length = 256 ∧ ¬ d.foot g
section
variable {w w' : World} {base bd : Nat} {d d' : Dw} {s s' : Dsk} {A : Option Addr} {n c : Nat} {vs : List Value} {ll : Nat → List UInt8}
theorem HadI.nil_ (w : World) (d : Dw) (base : Nat) (ll : Nat → List UInt8) : HadI w d base none 0 0 [] ll := ⟨Own.nil_ _ _ _ _, fun b h => (by cases h), fun k h => absurd h (by omega)⟩
theorem HadI.below (h : HadI w d base A n c vs ll) (hb : Below w.heap.size w w') : HadI w' d base A n c vs ll :=
  ⟨h.own.below hb (Nat.le_refl _), h.off, fun k hk => by
    obtain ⟨g, h1, h2, h3, h4⟩ := h.at_ k hk
    exact ⟨g, h1, h2.below hb h2.lt, h3, h4⟩⟩
theorem HadI.blk_ne (h : HadI w d base A n c vs ll) {g : Nat} {cs : List Value} (hg : Blk w g 93 cs) : ablk A ≠ some g := fun e => by
  rcases h.own.cases with ⟨rfl, _⟩ | ⟨g', cur, rfl, _, hh, _⟩
  · cases e
  · have : g' = g := by simpa [ablk] using e
    subst this
    unfold Blk at hg
    rw [hh] at hg
    simp only [Option.some.injEq, Obj.cells.injEq] at hg
    exact absurd hg.2.1 (by decide)
theorem HadI.ch (h : HadI w d base A n c vs ll) (k : Ch w w' bd d d' s') : HadI w' d' base A n c vs ll :=
  ⟨own_kept h.own k.K (fun b hb => h.off b hb), fun b hb => k.away (h.off b hb) (h.own.blk hb).2, fun j hj => by
    obtain ⟨g, h1, h2, h3, h4⟩ := h.at_ j hj
    exact ⟨g, h1, k.K.blk h2 h4, h3, k.away h4 h2.lt⟩⟩
theorem HadI.snoc (h : HadI w d base A n c vs ll) (hd : Dk w bd d s) {g : Nat} {x : List UInt8} (hx : Blk w g 93 (bvs x)) (hxl : x.length = 256) (hg : ¬ d.foot g) {A' : Option Addr} {c' : Nat}
    (ho : Own w' base 33 1 A' (n + 1) c' (vs ++ [.slice (some ⟨g, 0, none⟩) 256 256])) (hgr : w.grownBy w' (ablk A)) (hA : ablk A' = ablk A ∨ ablk A' = some w.heap.size) :
    HadI w' d base A' (n + 1) c' (vs ++ [.slice (some ⟨g, 0, none⟩) 256 256]) (fun j => if j = n then x else ll j) ∧ Dk w' bd d s := by
  have K : Kept (fun b => ablk A = some b) w w' := Kept.of_grown hgr (fun b e => e)
  have hl := h.own.len1
  refine ⟨⟨ho, fun b hb => ?_, fun k hk => ?_⟩, hd.kept K (fun b hb e => h.off b e hb)⟩
  · rcases hA with e | e
    · exact h.off b (e ▸ hb)
    · rw [e] at hb
      obtain rfl : w.heap.size = b := by simpa using hb
      exact fun y => by have := (hd.foot_base _ y).2; omega
  · by_cases e : k = n
    · subst e
      refine ⟨g, by rw [List.getElem?_append_right (by omega), hl]; simp, ?_, ?_, hg⟩
      · rw [if_pos rfl]; exact K.blk hx (fun e => h.blk_ne hx e)
      · rw [if_pos rfl]; exact hxl
    · obtain ⟨g', h1, h2, h3, h4⟩ := h.at_ k (by omega)
      refine ⟨g', by rw [List.getElem?_append_left (by omega)]; exact h1, ?_, ?_, h4⟩
      · rw [if_neg e]; exact K.blk h2 (fun e => h.blk_ne h2 e)
      · rw [if_neg e]; exact h3
theorem HadI.set_ {a : Nat} (h : HadI w d base (some ⟨a, 0, none⟩) n c vs ll) (hd : Dk w bd d s) {g k : Nat} {x : List UInt8} (hx : Blk w g 93 (bvs x)) (hxl : x.length = 256) (hg : ¬ d.foot g) (hk : k < n) :
    HadI (w.setCell ⟨a, k, none⟩ (.slice (some ⟨g, 0, none⟩) 256 256)) d base (some ⟨a, 0, none⟩) n c (vs.set k (.slice (some ⟨g, 0, none⟩) 256 256)) (fun j => if j = k then x else ll j) ∧ Dk (w.setCell ⟨a, k, none⟩ (.slice (some ⟨g, 0, none⟩) 256 256)) bd d s := by
  have K : Kept (fun y => y = a) w (w.setCell ⟨a, k, none⟩ (.slice (some ⟨g, 0, none⟩) 256 256)) := ⟨rfl, rfl, rfl, by simp, fun y _ hn => Below.heap_setCell w _ _ y hn⟩
  have ha : ¬ d.foot a := h.off a rfl
  have hl := h.own.len1
  have hne : ∀ {j : Nat} {cs : List Value}, Blk w j 93 cs → ¬ j = a := fun hb e => h.blk_ne hb (by rw [e]; rfl)
  refine ⟨⟨h.own.set_ k _, h.off, fun j hj => ?_⟩, hd.kept K (fun b hb e => ha (e ▸ hb))⟩
  by_cases e : j = k
  · subst e
    refine ⟨g, by rw [List.getElem?_set_self (by omega)], ?_, ?_, hg⟩
    · rw [if_pos rfl]; exact K.blk hx (hne hx)
    · rw [if_pos rfl]; exact hxl
  · obtain ⟨g', h1, h2, h3, h4⟩ := h.at_ j hj
    refine ⟨g', by rw [List.getElem?_set_ne (by omega)]; exact h1, ?_, ?_, h4⟩
    · rw [if_neg e]; exact K.blk h2 (hne h2)
    · rw [if_neg e]; exact h3
end
/-- a write at a sector by its number -/
def wrAt (s : Dsk) (k m : Nat) (y : List UInt8) : Dsk := if m = 256 then writeD s k y else s
def wrE (m : Nat) : Int := if m = 256 then 0 else 1
theorem d_write_at {w : World} {base : Nat} {d : Dw} {s : Dsk} (h : Dk w base d s) {k : Nat} (hk : k < s.n) (hv : (s.vers k).length < 549755813887) {g t m : Nat} {y : List UInt8} (hx : Blk w g t (bvs y)) (hy : y.length = m) (hm : m ≤ 9223372036854775807) (hf : ¬ d.foot g) :
    Calls Try.prog 27 #[.pointer (some ⟨d.g, 0, none⟩), .int .i64 k, .slice (some ⟨g, 0, none⟩) m m] w fun e w' => e = .returned (.int .i64 (wrE m)) ∧ ∃ d', Ch w w' base d d' (wrAt s k m y) := by
  by_cases e : m = 256
  · subst e
    unfold wrE wrAt
    rw [if_pos rfl, if_pos rfl]
    refine (dwrite_ok h hk hv (hx.bs0 0 256 256 (Nat.zero_le _) (Nat.le_refl _) (by omega) hy) hf).mono fun e w' ⟨h1, h2⟩ => ⟨h1, Ch.of h2⟩
  · unfold wrE wrAt
    rw [if_neg e, if_neg e]
    exact (dwrite_bad h hk e).mono fun e w' ⟨a, b⟩ => ⟨a, d, by rw [b]; exact Ch.init h⟩
theorem wrAt_n (s : Dsk) (k m : Nat) (y : List UInt8) : (wrAt s k m y).n = s.n := by
  unfold wrAt; split
  · exact writeD_n _ _ _
  · rfl
theorem writeD_vers (s : Dsk) (k j : Nat) (y : List UInt8) : (writeD s k y).lies j = s.lies j ∧ ((writeD s k y).vers j = s.vers j ∨ (j = k ∧ (writeD s k y).vers j = s.vers k ++ [y])) := by
  have h0 : (doneS s).lies = s.lies ∧ (doneS s).vers = s.vers := by unfold doneS; split <;> exact ⟨rfl, rfl⟩
  unfold writeD
  split
  · refine ⟨by show (doneS s).lies j = _; rw [h0.1], ?_⟩
    show (if j = k then (doneS s).vers k ++ [y] else (doneS s).vers j) = _ ∨ j = k ∧ (if j = k then (doneS s).vers k ++ [y] else (doneS s).vers j) = _
    rw [h0.2]
    by_cases e : j = k
    · right; exact ⟨e, by rw [if_pos e]⟩
    · left; rw [if_neg e]
  · exact ⟨by rw [h0.1], .inl (by rw [h0.2])⟩
theorem wrAt_vers (s : Dsk) (k j m : Nat) (y : List UInt8) : (wrAt s k m y).lies j = s.lies j ∧ ((wrAt s k m y).vers j = s.vers j ∨ (j = k ∧ (wrAt s k m y).vers j = s.vers k ++ [y])) := by
  unfold wrAt; split
  · exact writeD_vers s k j y
  · exact ⟨rfl, .inl rfl⟩
theorem has_wrAt {s : Dsk} {k j m : Nat} {y : List UInt8} (e : j ≠ k) : hasD (wrAt s k m y) j = hasD s j := by
  obtain ⟨h1, h2⟩ := wrAt_vers s k j m y
  rcases h2 with h2 | ⟨h2, _⟩
  · unfold hasD; rw [h1, h2]
  · exact absurd h2 e
theorem has_rot {s : Dsk} {k i j : Nat} (e : j ≠ k) : hasD (rotD s k i) j = hasD s j := by
  show ((if j = k then _ else s.vers j : List (List UInt8)).getLast?.getD (if j = k then _ else s.lies j)) = _
  rw [if_neg e, if_neg e]
  rfl
end Go.Proofs.Ytnclebnodkkgnaa
