/- A sector gets versions that lie in a new block. No condition. -/
import Derived.Test.YtdbhagnnpjcpmaaDkDel
import Derived.Test.YtdbhagnnpjcpmaaLibL
namespace Go.Proofs.Ytdbhagnnpjcpmaa
open Go.RowKit Go.Maps

def setV (s : Dsk) (k : Nat) (ls : List (List UInt8)) : Dsk := { s with vers := fun j => if j = k then ls else s.vers j }
section
variable {w w1 w2 : World} {base : Nat} {d : Dw} {s : Dsk}
/-- a sector gets versions that lie in a new block -/
theorem Dk.setv (h : Dk w base d s) {k : Nat} (hk : k < s.n) {ls : List (List UInt8)} (hx : ∀ x ∈ ls, x.length = 256) (hne : ls ≠ []) {A' : Option Addr} {c' m : Nat} {D : DataW Value}
    (ho : Own w1 base 100 256 A' ls.length c' (bvs ls.flatten)) (hg : w.grownBy w1 none) (hf : ∃ b, ablk A' = some b ∧ w.heap.size ≤ b)
    (hD : MapD w d s D) (hm : w2.ownsMap Try.prog 3 RV d.M m (D.put (kl k) (.held (.slice A' ls.length c')))) (hg2 : w1.grownBy w2 (some d.M)) :
    Dk w2 base (d.put k ⟨A', c'⟩) (setV s k ls) ∧ Kept (fun b => b = d.M) w w2 ∧ ∀ b, (d.put k ⟨A', c'⟩).foot b → d.foot b ∨ w.heap.size ≤ b := by
  have hsm := h.small
  have K1 : Kept (fun b => b = d.M) w w1 := Kept.of_grown hg (fun b e => by cases e)
  have K2 : Kept (fun b => b = d.M) w1 w2 := Kept.of_grown hg2 (fun b e => (Option.some.inj e).symm)
  have K : Kept (fun b => b = d.M) w w2 := K1.trans K2 (fun b _ e => e)
  have hkk : ∀ j, j ≠ k → (d.put k ⟨A', c'⟩).v j = d.v j := fun j hj => by show (if j = k then _ else _) = _; rw [if_neg hj]
  have hks : (d.put k ⟨A', c'⟩).v k = ⟨A', c'⟩ := by show (if k = k then _ else _) = _; rw [if_pos rfl]
  have hvk : ∀ j, j ≠ k → (setV s k ls).vers j = s.vers j := fun j hj => by show (if j = k then _ else _) = _; rw [if_neg hj]
  have hvs : (setV s k ls).vers k = ls := by show (if k = k then _ else _) = _; rw [if_pos rfl]
  have hAM : ablk A' ≠ some d.M := fun e => by
    obtain ⟨b, h1, h2⟩ := hf
    rw [h1] at e; have := Option.some.inj e; have := h.mlt; omega
  have hAo : ∀ j b, j ≠ k → ablk (d.v j).A = some b → ablk A' ≠ some b := fun j b hj hb e => by
    obtain ⟨b', h1, h2⟩ := hf
    rw [h1] at e; have := Option.some.inj e; have := h.vlt hb; omega
  refine ⟨⟨K.blk h.blk ?_, Nat.lt_of_lt_of_le h.llt K.size, fun j hj => range_kept (h.lies j hj) (K.block d.L h.llt ?_), there_kept h.there (K.block d.L h.llt ?_), ?_, fun j hj => ?_, fun j hj => ?_, fun i j hij => ?_, fun j => ?_, fun j hj => ?_, h.small, h.left, h.bases, h.ne, rowAt_block h.lty (K.block d.L h.llt (fun e => h.ne.2.2 e.symm))⟩, K.mono (fun b _ e => ?_), fun b hb => ?_⟩
  · intro e
    exact h.ne.2.1 e.symm
  · intro e
    exact h.ne.2.2 e.symm
  · intro e
    exact h.ne.2.2 e.symm
  · have hkeys : ∀ y, has (D.put (kl k) (.held (.slice A' ls.length c'))) y = true → ∃ j, j < s.n ∧ y = kl j ∧ (setV s k ls).vers j ≠ [] := fun y hy => by
      by_cases e : y = kl k
      · exact ⟨k, hk, e, by rw [hvs]; exact hne⟩
      · rw [has_put_other e] at hy
        obtain ⟨j, hj, e2, h2⟩ := hD.2.2 y hy
        have hjk : j ≠ k := fun e3 => e (by rw [e2, e3])
        exact ⟨j, hj, e2, by rw [hvk j hjk]; exact h2⟩
    refine ⟨_, owns_tight hm (show s.n ≤ 9223372036854775807 by omega) (fun y hy => by obtain ⟨j, h1, h2, _⟩ := hkeys y hy; exact ⟨j, h1, h2⟩), fun j hj => ?_, hkeys⟩
    by_cases e : j = k
    · subst e
      rw [atKey_put_same (hD.1.tidy law3).isMap (law3.key (key_kl j (by omega)))]
      rw [hks, hvs]
    · rw [atKey_put_other (kl_ne e), hD.2.1 j hj, hkk j e, hvk j e]
  · by_cases e : j = k
    · subst e
      rw [hks, hvs]
      exact ho.keep hg2 (.inr hAM)
    · rw [hkk j e, hvk j e]
      refine own_kept (h.vers j hj) K (fun b hb => ?_)
      intro e2
      subst e2; exact h.apM j hb
  · have e : j ≠ k := fun e => by have : s.n ≤ j := hj; omega
    rw [hkk j e]
    exact h.out j hj
  · by_cases e1 : i = k
    · subst e1
      rw [hks, hkk j (Ne.symm hij)]
      cases hb : ablk (d.v j).A with
      | none => cases hA : ablk A' with
        | none => exact .inl rfl
        | some a => exact .inr (by simp)
      | some b => exact .inr (hAo j b (Ne.symm hij) hb)
    · by_cases e2 : j = k
      · subst e2
        rw [hks, hkk i e1]
        cases hb : ablk (d.v i).A with
        | none => exact .inl rfl
        | some b => exact .inr (fun e => hAo i b e1 hb e.symm)
      · rw [hkk i e1, hkk j e2]
        exact h.apart i j hij
  · by_cases e : j = k
    · subst e
      rw [hks]
      show ablk A' ≠ some d.L
      intro e2
      obtain ⟨b, h1, h2⟩ := hf
      rw [h1] at e2; have := Option.some.inj e2; have := h.llt; omega
    · rw [hkk j e]; exact h.apL j
  · refine ⟨(h.len j hj).1, fun y hy => ?_⟩
    by_cases e : j = k
    · subst e
      rw [hvs] at hy
      exact hx y hy
    · rw [hvk j e] at hy; exact (h.len j hj).2 y hy
  · exact e
  · rcases hb with hb | hb | hb | ⟨j, hb⟩
    · exact .inl (.inl hb)
    · exact .inl (.inr (.inl hb))
    · exact .inl (.inr (.inr (.inl hb)))
    · by_cases e : j = k
      · subst e
        rw [hks] at hb
        obtain ⟨b', h1, h2⟩ := hf
        rw [show ablk A' = some b' from h1] at hb
        exact .inr (by have := Option.some.inj hb; omega)
      · rw [hkk j e] at hb
        exact .inl (.inr (.inr (.inr ⟨j, hb⟩)))
end
end Go.Proofs.Ytdbhagnnpjcpmaa
namespace Go.Proofs.Ytdbhagnnpjcpmaa
open Go.RowKit Go.Maps
set_option linter.unusedSimpArgs false
set_option linter.unusedVariables false

theorem range_rd {w : World} {b o : Nat} {xs : List Value} (h : w.rangeAt b o xs) (hb : b < w.heap.size) : Rd w 0 (some ⟨b, o, none⟩) xs := fun _ =>
  ⟨b, o, rfl, Nat.zero_le _, hb, fun k hk => h k _ (List.getElem?_eq_getElem hk)⟩

set_option maxRecDepth 100000 in
set_option maxHeartbeats 400000 in
theorem clone93 {b o n c : Nat} {l : List UInt8} {w : World} (h : w.rangeAt b o (bvs l)) (hl : l.length = n * 256) (hb : b < w.heap.size) (hn : n ≤ 549755813887) :
    Calls Try.prog 60 #[.slice (some ⟨b, o, none⟩) n c] w fun e w' => ∃ A' c', e = .returned (.slice A' n c') ∧ Own w' w.heap.size 100 256 A' n c' (bvs l) ∧ Below w.heap.size w w' := by
  have hr := range_rd h hb
  have HL := Lib.hid hl
  have HR := Lib.hid hr
  clear hl h hr
  have q1 := Lib.run_eql_slice_nil (P := Try.prog) w 83 100 (some ⟨b, o, none⟩) n c 0 0 Try.underlying83
  go_enter Try.func60, Try.ntmps60
  go_wp2_with (at_builtin; refine wpList_app rfl (.tmp 5) (.tmp 6) 83 rfl 100 256 Try.underlying83 info93f (by simp [Value.cells]) (by omega) rfl (Own.lit _ _ [] (n := 0) (base := w.heap.size) (by omega) rfl (Nat.le_refl _) rfl) rfl (HR.out.below (B := w.heap.size) ((Below.refl _ _).alloc (Nat.le_refl _) _) (Nat.le_refl _)) (by rw [length_bvs, HL.out]) (bvs_oneCell _) (by omega) (by omega) (by simp) ?_; intro A1 c1 w1 ho1 hg1 _)
  have b1 := below_own (w0 := w) ((Below.refl _ _).alloc (Nat.le_refl _) _) (Own.lit (s := 256) _ 100 [] (n := 0) (base := w.heap.size) (by omega) rfl (Nat.le_refl _) rfl) hg1 (Nat.le_refl _) (by simp)
  rw [Nat.zero_add] at ho1
  go_ret
  exact ⟨A1, c1, rfl, ho1, b1⟩

/-- sectors that lie side by side -/
def rowOf (f : Nat → List UInt8) (n : Nat) : List UInt8 := (List.range n).flatMap f
theorem rowOf_len {f : Nat → List UInt8} {n : Nat} (hf : ∀ k, k < n → (f k).length = 256) : (rowOf f n).length = n * 256 := flat_len hf
theorem row_range {w : World} {b n : Nat} {f : Nat → List UInt8} (hf : ∀ k, k < n → (f k).length = 256) (h : ∀ k, k < n → w.rangeAt b (k * 256) (bvs (f k))) : w.rangeAt b 0 (bvs (rowOf f n)) := fun j v hv => by
  have hj : j < n * 256 := by have := (List.getElem?_eq_some_iff.1 hv).1; rw [length_bvs, rowOf_len hf] at this; exact this
  have hk : j / 256 < n := by omega
  have hg := flat_get hf hk (show j % 256 < 256 by omega)
  rw [show j / 256 * 256 + j % 256 = j by omega] at hg
  have := h (j / 256) hk (j % 256) v (by
    rw [← hv, bvs, bvs, List.getElem?_map, List.getElem?_map]
    unfold rowOf
    rw [hg])
  rw [show j / 256 * 256 + j % 256 = 0 + j by omega] at this
  exact this
theorem range_row {w : World} {b n : Nat} {f : Nat → List UInt8} (hf : ∀ k, k < n → (f k).length = 256) (h : w.rangeAt b 0 (bvs (rowOf f n))) {k : Nat} (hk : k < n) : w.rangeAt b (k * 256) (bvs (f k)) := fun j v hv => by
  have hj : j < 256 := by have := (List.getElem?_eq_some_iff.1 hv).1; rw [length_bvs, hf k hk] at this; exact this
  have hg := flat_get hf hk hj
  have := h (k * 256 + j) v (by
    rw [← hv, bvs, bvs, List.getElem?_map, List.getElem?_map]
    unfold rowOf
    rw [hg])
  rw [Nat.zero_add] at this
  exact this

/-- a disk that was just made, without versions -/
def bareD (s : Dsk) : Dsk := { s with vers := fun _ => [], cut := false, left := 0 }
def bareW (gL c g : Nat) : Dw := ⟨g + 1, gL, g, fun _ => ⟨none, 0⟩, c⟩
theorem Dk.bare {w : World} {base : Nat} {d : Dw} {s : Dsk} (h : Dk w base d s) {w1 : World} {gL c : Nat} (hb : Below w.heap.size w w1) (ho : Own w1 w.heap.size 100 256 (some ⟨gL, 0, none⟩) s.n c (bvs (rowOf s.lies s.n))) :
    Dk ((w1.alloc (.map #[] 0)).alloc (.cells #[.slice (some ⟨gL, 0, none⟩) s.n c, .map (some w1.heap.size), .bool false, .int .i64 0] 86)) w.heap.size (bareW gL c w1.heap.size) (bareD s) := by
  have hsm := h.small
  have hz := hb.size
  obtain ⟨hgb, hgl⟩ := ho.blk (show ablk (some (⟨gL, 0, none⟩ : Addr)) = some gL from rfl)
  have h2 : Below w1.heap.size w1 ((w1.alloc (.map #[] 0)).alloc (.cells #[.slice (some ⟨gL, 0, none⟩) s.n c, .map (some w1.heap.size), .bool false, .int .i64 0] 86)) := ((Below.refl _ _).alloc (Nat.le_refl _) _).alloc (by simp) _
  have hr := rd_range ho.rd
  have hrow : ∀ k, k < s.n → w1.rangeAt gL (k * 256) (bvs (s.lies k)) := fun k hk => range_row (fun k hk => (h.len k hk).1) hr hk
  have hth : w1.there gL 0 (s.n * 256) := fun j hj => by
    have hl : (bvs (rowOf s.lies s.n)).length = s.n * 256 := by rw [length_bvs, rowOf_len (fun k hk => (h.len k hk).1)]
    have hc := hr j _ (List.getElem?_eq_getElem (show j < (bvs (rowOf s.lies s.n)).length by omega))
    refine ⟨by rw [hc]; rfl, ?_⟩
    rcases ho.cases with ⟨h0, _⟩ | ⟨g, cur, hA, _, hh, _⟩
    · cases h0
    · injection hA with hA
      injection hA with hA
      subst hA
      simp [World.frozen?, hh]
  have hblk : ∀ k, k < w1.heap.size → ((w1.alloc (.map #[] 0)).alloc (.cells #[.slice (some ⟨gL, 0, none⟩) s.n c, .map (some w1.heap.size), .bool false, .int .i64 0] 86)).heap[k]? = w1.heap[k]? := fun k hk => h2.block k hk
  refine ⟨?_, by simp [bareW]; omega, fun k hk => range_kept (hrow k hk) (hblk gL hgl), there_kept hth (hblk gL hgl), ⟨.map [], ?_, fun k hk => ?_, fun x hx => ?_⟩, fun k hk => Own.nil_ _ _ _ _, fun k _ => rfl, fun j k _ => .inl rfl, fun k => by simp [bareW], fun k hk => ⟨(h.len k hk).1, fun x hx => by cases hx⟩, h.small, ⟨by show (-9223372036854775808 : Int) ≤ 0; omega, by show (0 : Int) ≤ 9223372036854775807; omega⟩, ⟨by show w.heap.size ≤ w1.heap.size + 1; omega, hgb, hz⟩, ⟨by show gL ≠ w1.heap.size + 1; omega, by show w1.heap.size ≠ w1.heap.size + 1; omega, by show w1.heap.size ≠ gL; omega⟩, ?_⟩
  · exact Blk.new_at (cs := [.slice (some ⟨gL, 0, none⟩) s.n c, .map (some w1.heap.size), .bool false, .int .i64 0]) (by simp [bareW])
  · exact ((World.ownsMap_made (H := Value) w1 Try.prog 3 RV).alloc (.cells #[.slice (some ⟨gL, 0, none⟩) s.n c, .map (some w1.heap.size), .bool false, .int .i64 0] 86)).mono (Nat.zero_le _)
  · rfl
  · cases hx
  · rcases ho.cases with ⟨h0, _⟩ | ⟨g, cur, hA, _, hh, _⟩
    · cases h0
    · injection hA with hA
      injection hA with hA
      subst hA
      exact ⟨cur, (hblk gL hgl).trans hh⟩
end Go.Proofs.Ytdbhagnnpjcpmaa
namespace Go.Proofs.Ytdbhagnnpjcpmaa
open Go.RowKit Go.Maps
set_option linter.unusedSimpArgs false
set_option linter.unusedVariables false

def copyD (s : Dsk) : Dsk := { s with cut := false, left := 0 }
def copyTo (D : DataW Value) (left : Lit → Bool) (s : Dsk) : Dsk := { bareD s with vers := fun k => if has D (kl k) && !left (kl k) then s.vers k else [] }
theorem eqv_vers {w : World} {base : Nat} {d : Dw} {s : Dsk} {v1 v2 : Nat → List (List UInt8)} (h : Dk w base d { s with vers := v1 }) (he : ∀ k, k < s.n → v1 k = v2 k) : Dk w base d { s with vers := v2 } := by
  obtain ⟨D, h1, h2, h3⟩ := h.map
  refine ⟨h.blk, h.llt, h.lies, h.there, ⟨D, h1, fun k hk => ?_, fun x hx => ?_⟩, fun k hk => ?_, h.out, h.apart, h.apL, fun k hk => ⟨(h.len k hk).1, ?_⟩, h.small, h.left, h.bases, h.ne, h.lty⟩
  · show _ = DataW.held (Value.slice (d.v k).A (v2 k).length (d.v k).c)
    rw [← he k hk]; exact h2 k hk
  · obtain ⟨k, hk, e, hv⟩ := h3 x hx
    exact ⟨k, hk, e, by show v2 k ≠ []; rw [← he k hk]; exact hv⟩
  · show Own w base _ 256 (d.v k).A (v2 k).length (d.v k).c (bvs (v2 k).flatten)
    rw [← he k hk]; exact h.vers k hk
  · show ∀ x ∈ v2 k, _
    rw [← he k hk]; exact (h.len k hk).2
theorem copy_step {D : DataW Value} {left : Lit → Bool} {s : Dsk} {k : Nat} (hh : has D (kl k) = true) : setV (copyTo D left s) k (s.vers k) = copyTo D (fun z => left z && !z.sameKey (kl k)) s := by
  have : (setV (copyTo D left s) k (s.vers k)).vers = (copyTo D (fun z => left z && !z.sameKey (kl k)) s).vers := by
    funext j
    show (if j = k then s.vers k else if has D (kl j) && !left (kl j) then s.vers j else []) = (if has D (kl j) && !(left (kl j) && !(kl j).sameKey (kl k)) then s.vers j else [])
    by_cases e : j = k
    · subst e
      rw [if_pos rfl, kl_same, hh]
      simp
    · rw [if_neg e, kl_same, decide_eq_false e]
      simp
  unfold setV copyTo at *
  simp only at *
  rw [this]
theorem copy_none {D : DataW Value} {left : Lit → Bool} {s : Dsk} {k : Nat} (hl : left (kl k) = true) : (copyTo D left s).vers k = [] := by
  show (if has D (kl k) && !left (kl k) then s.vers k else []) = []
  rw [hl]; simp
theorem copy_end {w : World} {d : Dw} {s : Dsk} {D : DataW Value} (h : MapD w d s D) {left : Lit → Bool} (hl : ∀ x, left x = false) {k : Nat} (hk : k < s.n) : (copyTo D left s).vers k = s.vers k := by
  show (if has D (kl k) && !left (kl k) then s.vers k else []) = _
  rw [hl]
  cases hh : has D (kl k) with
  | true => rfl
  | false => rw [not_has h hk hh]; rfl

set_option maxRecDepth 100000 in
set_option maxHeartbeats 8000000 in
theorem dcopy_any {w : World} {base : Nat} {d : Dw} {s : Dsk} (h : Dk w base d s) (hv : ∀ k, k < s.n → (s.vers k).length < 549755813887) :
    Calls Try.prog 30 #[.pointer (some ⟨d.g, 0, none⟩)] w fun e w' => ∃ d', e = .returned (.pointer (some ⟨d'.g, 0, none⟩)) ∧ Dk w' w.heap.size d' (copyD s) ∧ Below w.heap.size w w' := by
  have bc := h.blk.cells
  have hsm := h.small
  have C0 := clone93 (c := d.lc) (row_range (fun k hk => (h.len k hk).1) h.lies) (rowOf_len (fun k hk => (h.len k hk).1)) h.llt (by omega)
  have C := Lib.hid C0
  have H := Lib.hid h
  have HV := Lib.hid hv
  have hmm := @run_makeMap Try.prog
  clear C0 h hv
  go_enter Try.func30, Try.ntmps30
  go_upto_region 2 with ((with_reducible refine Calls.mono C.out ?_); rintro e w1 ⟨A1, c1, rfl, ho1, hb1⟩)
  obtain ⟨gL, rfl, _, _⟩ := ho1.head (by omega)
  have hbare := H.out.bare hb1 ho1
  have hb2 := (hb1.alloc hb1.size (.map #[] 0)).alloc (hb1.alloc hb1.size (.map #[] 0)).size (.cells #[.slice (some ⟨gL, 0, none⟩) s.n c1, .map (some w1.heap.size), .bool false, .int .i64 0] 86)
  refine wp_world (fun U => Dk U w.heap.size (bareW gL c1 w1.heap.size) (bareD s) ∧ Below w.heap.size w U) ⟨hbare, hb2⟩ ?_
  have hbg : w1.heap.size + 1 = (bareW gL c1 w1.heap.size).g := rfl
  rw [hbg]
  generalize bareW gL c1 w1.heap.size = e0 at *
  clear hbare hb2 hbg ho1 hb1 C bc hmm
  rintro U ⟨hE, hB⟩
  have hd := H.out.below hB (Nat.le_refl _)
  obtain ⟨D, hD⟩ := hd.map
  have HDD : Hid (MapD U d s D) := hD
  have hown := hD.1
  have bc := hd.blk.cells
  have HE := Lib.hid hE
  have HB := Lib.hid hB
  have HD := Lib.hid hd
  clear hE hB hd hD
  go_wp2_with (first
    | (at_range; refine wpList_range_own _ rfl _ 84 rfl 3 83 law3 Try.underlying84 _ d.M s.n D rfl hown ?_; intro w0 hrg0 hg0 hs0)
    | go_in)
  have hb0 : Below U.heap.size U w0 := ⟨hg0.os, hg0.tape, hg0.output, hg0.size, fun b hb => hg0.block b hb (by simp)⟩
  obtain ⟨r, hr⟩ : ∃ r, r = U.heap.size := ⟨_, rfl⟩
  rw [← hr] at hrg0
  rw [← hr]
  have HRe := Lib.hid hr
  have HR : Hid (w0.ranges Try.prog 3 RV d.M r s.n D (has D) (Maps.size D) ∧ Dk w0 w.heap.size e0 (copyTo D (has D) s) ∧ Below w.heap.size w w0) :=
    ⟨hrg0, eqv_vers (s := bareD s) (v1 := fun _ => []) (HE.out.below hb0 (Nat.le_refl _)) (fun k hk => by cases has D (kl k) <;> simp), HB.out.trans (hb0.mono HB.out.size)⟩
  have HRf : Hid (∀ b, e0.foot b → b ≠ r) := Lib.hid (fun b hb e => by have := (HE.out.foot_base b hb).2; omega)
  have hzr : r < w0.heap.size ∧ w.heap.size ≤ r := by have := HB.out.size; omega
  have HMr : Hid (d.M < w.heap.size) := Lib.hid H.out.mlt
  clear hrg0 hg0 hs0 hown bc hb0 hr
  go_frame
  go_loopw [4, 5] (fun _ _ wr => ∃ (left : Lit → Bool) (cnt : Nat) (e1 : Dw), wr.ranges Try.prog 3 RV d.M r s.n D left cnt ∧ Dk wr w.heap.size e1 (copyTo D left s) ∧ e1.g = e0.g ∧ (∀ b, e1.foot b → b ≠ r) ∧ Below w.heap.size w wr ∧ r < wr.heap.size) (fun _ _ wr => wr.rangeLeft d.M r)
  case atStart => exact ⟨has D, Maps.size D, e0, HR.out.1, HR.out.2.1, rfl, HRf.out, HR.out.2.2, hzr.1⟩
  case round =>
    clear HR HRf
    obtain ⟨left, cnt, e1, hrg, hek, heg, hef, hbw, hrr⟩ := hrel
    have HEK := Lib.hid hek
    have HEG := Lib.hid heg
    have HEF := Lib.hid hef
    have HBW := Lib.hid hbw
    clear hek heg hef hbw
    go_wp2_with (first
      | (at_next; refine wpList_next_ranges _ rfl _ rfl 3 law3 RV (fun x : Int => Value.int .i64 x) (fun c : Value => c) inv_key (fun v _ _ => ⟨v, rfl⟩) d.M r s.n D left cnt rfl hrg ?_ ?_)
      | go_in)
    · intro hc0 hl0
      have HF : Hid (Dk wr w.heap.size e1 (copyD s)) := Lib.hid (eqv_vers (s := bareD s) HEK.out (fun k hk => copy_end HDD.out hl0 hk))
      clear hl0 hrg
      go_wp2
      go_ret
      exact ⟨e1, by rw [HEG.out]; rfl, HF.out, HBW.out⟩
    · intro x c kx y ps w2 cnt1 hkx hlx hRc hat hrg1 hlt hg1 hs1 hen
      obtain ⟨k, hk, hkk, hvk⟩ := HDD.out.2.2 kx (has_true_of_atKey hat)
      have hxk : x = (k : Int) := by
        obtain ⟨x', h1, h2, _⟩ := keyOf_int_inv Try.underlying3 hkx
        rw [hkk] at h2
        injection h1 with _ h1
        injection h2 with _ h2
        omega
      subst hxk
      subst hkk
      have hhas := has_true_of_atKey hat
      have hc : c = .slice (d.v k).A (s.vers k).length (d.v k).c := by
        have h1 := hat (.held nilv)
        rw [HDD.out.2.1 k hk] at h1
        simp only [RV, Option.some.injEq, Prod.mk.injEq] at hRc
        rw [← hRc.1] at h1
        injection h1 with h1
        exact h1.symm
      subst hc
      have HH := Lib.hid hhas
      have HVk := Lib.hid hvk
      have hVl := HV.out k hk
      have hV0 : 0 < (s.vers k).length := by
        cases hx : s.vers k with
        | nil => exact absurd hx hvk
        | cons => simp
      have hb2 : Below w.heap.size w w2 := HBW.out.grown hg1 HBW.out.size (fun k hk => by cases hk; exact hzr.2)
      have hd2 := H.out.below hb2 (Nat.le_refl _)
      have hvo := hd2.vers k hk
      obtain ⟨bb, hA, _, hbl⟩ := hvo.head hV0
      rw [hA] at hvo hen
      have hrgv := rd_range hvo.rd
      have hek2 : Dk w2 w.heap.size e1 (copyTo D left s) := HEK.out.kept (F := fun b => b = r) (Kept.of_grown hg1 (fun b e => (Option.some.inj e).symm)) (fun b hb e => HEF.out b hb e)
      have hlen : (s.vers k).flatten.length = (s.vers k).length * 256 := flatten_len (H.out.len k hk).2
      obtain ⟨F, hF⟩ : ∃ F, F = (s.vers k).flatten := ⟨_, rfl⟩
      obtain ⟨V, hV⟩ : ∃ V, V = (s.vers k).length := ⟨_, rfl⟩
      rw [← hF] at hrgv hlen
      rw [← hV] at hlen hVl hV0 hen ⊢
      have HF := Lib.hid hF
      have HVe := Lib.hid hV
      have HRV := Lib.hid hrgv
      have HLn := Lib.hid hlen
      have HEK2 := Lib.hid hek2
      have HB2 := Lib.hid hb2
      have HRG := Lib.hid hrg1
      have HLT := Lib.hid hlt
      have HLE := Lib.hid hrg.left_eq
      have HLx := Lib.hid hlx
      have hr2 : r < w2.heap.size := by omega
      clear hRc hat hkx hhas hvk hb2 hd2 hvo hrgv hlen hek2 hF hV hrg1 hlt hrg hlx hg1 hs1 hA
      go_upto_region 5 with fail
      have hek3 := HEK2.out.below (B := w2.heap.size) (Below.refl _ _).drew (Nat.le_refl _)
      have HEK3 := Lib.hid hek3
      have bd := hek3.blk.cell 1
      rw [HEG.out] at bd
      have hrd := (World.rangeAt_drew w2 bb 0 (bvs F)).2 HRV.out
      have C1 := Lib.hid (clone93 (c := (d.v k).c) hrd HLn.out (show bb < w2.drew.heap.size from hbl) (by omega))
      clear hek3 hrd
      refine wp_region_last (S := fun w' => w'.cell? ⟨e0.g, 1, none⟩ = some (.map (some e1.M))) 7 (by kernel_rfl) rfl (by kernel_rfl) ?_ ?_
      · exact bd
      intro hHeld
      simp only [List.take_succ_cons, List.take_zero]
      refine wpAnyH_take (i := 0) (v := ?_) (by simp only [List.getElem?_toArray, List.getElem?_cons_succ, List.getElem?_cons_zero]; rfl) (by kernel_rfl) (by kernel_rfl) (by kernel_rfl) (fun _ _ _ h => h) (Or.inl ⟨by rfl, ?_⟩) hHeld ?_
      rotate_left
      · intro wz hSw; (try dsimp only at hSw); go_simp; try with_reducible rfl
      (try simp only [Act.put, List.setIfInBounds_toArray, List.set_cons_zero, List.set_cons_succ])
      refine wpAnyH_take (i := 1) (v := ?_) (by simp only [List.getElem?_toArray, List.getElem?_cons_succ, List.getElem?_cons_zero]; rfl) (by kernel_rfl) (by kernel_rfl) (by kernel_rfl) (fun _ _ _ h => h) (Or.inl ⟨by rfl, ?_⟩) hHeld ?_
      rotate_left
      · intro wz hSw; (try dsimp only at hSw); go_simp; try with_reducible rfl
      (try simp only [Act.put, List.setIfInBounds_toArray, List.set_cons_zero, List.set_cons_succ])
      refine wpAnyH_take (i := 2) (v := ?_) (by simp only [List.getElem?_toArray, List.getElem?_cons_succ, List.getElem?_cons_zero]; rfl) (by kernel_rfl) (by kernel_rfl) (by kernel_rfl) (fun _ _ _ h => h) (Or.inl ⟨by rfl, ?_⟩) hHeld ?_
      rotate_left
      · intro wz hSw; (try dsimp only at hSw); go_simp; try with_reducible rfl
      (try simp only [Act.put, List.setIfInBounds_toArray, List.set_cons_zero, List.set_cons_succ])
      refine wpAnyH_take (i := 3) (v := ?_) (by simp only [List.getElem?_toArray, List.getElem?_cons_succ, List.getElem?_cons_zero]; rfl) (by kernel_rfl) (by kernel_rfl) (by kernel_rfl) (fun _ _ _ h => h) (Or.inl ⟨by rfl, ?_⟩) hHeld ?_
      rotate_left
      · intro wz hSw; (try dsimp only at hSw); go_simp; try with_reducible rfl
      (try simp only [Act.put, List.setIfInBounds_toArray, List.set_cons_zero, List.set_cons_succ])
      refine wpAnyH_take (i := 4) (v := ?_) (by simp only [List.getElem?_toArray, List.getElem?_cons_succ, List.getElem?_cons_zero]; rfl) (by kernel_rfl) (by kernel_rfl) (by kernel_rfl) (fun _ _ _ h => h) (Or.inl ⟨by rfl, ?_⟩) hHeld ?_
      rotate_left
      · intro wz hSw; (try dsimp only at hSw); go_simp; try with_reducible rfl
      (try simp only [Act.put, List.setIfInBounds_toArray, List.set_cons_zero, List.set_cons_succ])
      refine wpAnyH_take (i := 5) (v := ?_) (by simp only [List.getElem?_toArray, List.getElem?_cons_succ, List.getElem?_cons_zero]; rfl) (by kernel_rfl) (by kernel_rfl) (by kernel_rfl) (fun _ _ _ h => h) (Or.inl ⟨by rfl, ?_⟩) hHeld ?_
      rotate_left
      · intro wz hSw; (try dsimp only at hSw); go_simp; try with_reducible rfl
      (try simp only [Act.put, List.setIfInBounds_toArray, List.set_cons_zero, List.set_cons_succ])
      refine wpAnyH_ready (rs := [6]) (by kernel_rfl) (by simp) ?_
      refine AllReadyH.cons (by simp only [List.getElem?_toArray, List.getElem?_cons_succ, List.getElem?_cons_zero]; rfl) (fun KK hK => ?_) AllReadyH.nil
      go_simp; ((with_reducible refine Calls.mono C1.out ?_); rintro e w5 ⟨A5, c5, rfl, ho5, hb5⟩; have hd5 := HEK3.out.below hb5 (Nat.le_refl _)); go_wp2_with fail
      refine hK.out _ _ ?_ (fun hHeld => ?_)
      · (rw [← HEG.out]; exact hd5.blk.cell 1)
      clear hK KK
      (try simp only [Act.put, List.setIfInBounds_toArray, List.set_cons_zero, List.set_cons_succ])
      have hm2 := HEK3.out.small
      obtain ⟨D1, hD1⟩ := HEK3.out.map
      have hown5 := ownsMap_block hD1.1 (hb5.block e1.M HEK3.out.mlt)
      obtain ⟨w3, hrun, hm3, hg3⟩ := hown5.update law3 Try.underlying84 (by unfold maxLen; have : (copyTo D left s).n = s.n := rfl; omega) (key_kl k (by omega)) (val := .slice A5 V c5) (d := .held (.slice A5 V c5)) (ps := []) rfl
      refine wpAnyH_done (by kernel_rfl) ?_ _
      simp only [lastQ]
      go_simp
      have hf5 : ∃ b, ablk A5 = some b ∧ w2.drew.heap.size ≤ b := by
        obtain ⟨b, hb, h1, _⟩ := ho5.head hV0
        exact ⟨b, by rw [hb]; rfl, h1⟩
      rw [HVe.out, HF.out] at ho5
      rw [HVe.out] at hm3
      obtain ⟨s1, s2, s3⟩ := HEK3.out.setv hk (H.out.len k hk).2 HVk.out (ho5.weak HB2.out.size) ⟨hb5.os, hb5.tape, hb5.output, hb5.size, fun b hb _ => hb5.block b hb⟩ hf5 hD1 hm3 hg3
      rw [copy_step HH.out] at s1
      have hz5 : w2.heap.size ≤ w5.heap.size := hb5.size
      have hz3 := hg3.size
      have hMr : e1.M ≠ r := HEF.out _ (.inr (.inr (.inl rfl)))
      have hMd : d.M ≠ e1.M := by have := HEK3.out.bases.2.2; have := HMr.out; omega
      have hg5 : w2.grownBy w5 none := ⟨hb5.os, hb5.tape, hb5.output, hb5.size, fun b hb _ => hb5.block b hb⟩
      have hrg3 := (HRG.out.kept hg5 (by simp) (by simp)).kept hg3 (fun e => hMd (Option.some.inj e)) (fun e => hMr (Option.some.inj e).symm)
      have hbw3 : Below w.heap.size w w3 := (HB2.out.drew.trans (hb5.mono HB2.out.size)).grown hg3 (HB2.out.drew.trans (hb5.mono HB2.out.size)).size (fun b hb => by cases hb; exact HEK3.out.bases.2.2)
      have R1 := Lib.hid s1
      have R2 : Hid (∀ b, (e1.put k ⟨A5, c5⟩).foot b → b ≠ r) := Lib.hid (fun b hb e => by rcases s3 b hb with y | y; exact HEF.out b y e; have : w2.heap.size ≤ b := y; omega)
      have R3 := Lib.hid hrg3
      have R4 := Lib.hid hbw3
      have hr3 : r < w3.heap.size := by omega
      clear hHeld hrun s1 s2 s3 hg5 hrg3 hbw3 hm3 hg3 ho5 hb5 hown5 hD1 bd HEK3 HEK2 HRG HRV HEK HBW C1 hen
      go_wp2
      go_roundw
      case rel => exact ⟨_, cnt1, e1.put k ⟨A5, c5⟩, R3.out, R1.out, HEG.out, R2.out, R4.out, hr3⟩
      case measure => rw [R3.out.left_eq, HLE.out]; exact HLT.out
end Go.Proofs.Ytdbhagnnpjcpmaa
