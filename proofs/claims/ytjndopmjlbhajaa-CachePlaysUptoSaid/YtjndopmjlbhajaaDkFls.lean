/- A sector is laid; the versions are gone: the disk behind it. No condition. -/
import Derived.Test.YtjndopmjlbhajaaDkNew
import Derived.Deep.Upon
namespace Go.Proofs.Ytjndopmjlbhajaa
open Go.RowKit Go.Maps Go.MapKept Go.ChangeMaps

theorem kept_setCells {w : World} {g o : Nat} {vs : List Value} : Kept (fun b => b = g) w (w.setCells g o vs) := by
  have h : ∀ (vs : List Value) (o : Nat) (w : World), Kept (fun b => b = g) w (w.setCells g o vs) := by
    intro vs
    induction vs with
    | nil => intro o w; exact Kept.refl _ _
    | cons v vs ih =>
      intro o w
      have K : Kept (fun b => b = g) w (w.setCell ⟨g, o, none⟩ v) := ⟨rfl, rfl, rfl, by simp, fun b _ hn => Below.heap_setCell w _ _ b hn⟩
      exact K.trans (ih (o + 1) _) (fun _ _ e => e)
  exact h vs o w
theorem grown_setCells {w : World} {g o : Nat} {vs : List Value} : w.grownBy (w.setCells g o vs) (some g) := by
  have K := kept_setCells (w := w) (g := g) (o := o) (vs := vs)
  exact ⟨K.os, K.tape, K.output, K.size, fun b hb hn => K.block b hb (fun e => hn (by rw [e]))⟩
theorem size_setCells_ (g : Nat) : ∀ (vs : List Value) (o : Nat) (w : World), (w.setCells g o vs).heap.size = w.heap.size
  | [], _, _ => rfl
  | v :: vs, o, w => by rw [World.setCells, size_setCells_ g vs]; simp

def layD (s : Dsk) (k : Nat) (x : List UInt8) : Dsk := { s with lies := fun j => if j = k then x else s.lies j }
section
variable {w w' : World} {base : Nat} {d : Dw} {s : Dsk}
/-- a change of the block in which the sectors lie -/
theorem Dk.onL (h : Dk w base d s) (K : Kept (fun b => b = d.L) w w') {ls : Nat → List UInt8} (hl : ∀ k, k < s.n → w'.rangeAt d.L (k * 256) (bvs (ls k))) (hn : ∀ k, k < s.n → (ls k).length = 256) (ht : w'.there d.L 0 (s.n * 256)) (hy : RowAt w' d.L 100) : Dk w' base d { s with lies := ls } := by
  have hM := K.block d.M h.mlt h.ne.2.2
  refine ⟨K.blk h.blk (fun e => h.ne.1 e.symm), Nat.lt_of_lt_of_le h.llt K.size, hl, ht, ?_, fun k hk => own_kept (h.vers k hk) K (fun b hb e => h.apL k (by rw [hb, e])), h.out, h.apart, h.apL, fun k hk => ⟨hn k hk, (h.len k hk).2⟩, h.small, h.left, h.bases, h.ne, hy⟩
  obtain ⟨D, h1, h2⟩ := h.map
  exact ⟨D, ownsMap_block h1 hM, h2⟩
theorem Dk.lay (h : Dk w base d s) {k : Nat} (hk : k < s.n) {x : List UInt8} (hx : x.length = 256) : Dk (w.setCells d.L (k * 256) (bvs x)) base d (layD s k x) := by
  refine h.onL kept_setCells (fun j hj => ?_) (fun j hj => ?_) (World.there_setCells h.there _ _ _) (rowAt_sets _ _ h.lty)
  · by_cases e : j = k
    · subst e
      rw [if_pos rfl]
      refine World.rangeAt_setCells_same _ _ _ _ (fun i hi => ?_)
      rw [length_bvs, hx] at hi
      have := h.there (j * 256 + i) (by have := hk; omega)
      rwa [Nat.zero_add] at this
    · rw [if_neg e]
      have h1 := (h.len j hj).1
      refine World.rangeAt_setCells_apart (h.lies j hj) _ _ _ (.inr ?_)
      rw [length_bvs, length_bvs, h1, hx]
      omega
  · by_cases e : j = k
    · rw [if_pos e]; exact hx
    · rw [if_neg e]; exact (h.len j hj).1
theorem Dk.there_k (h : Dk w base d s) {k : Nat} (hk : k < s.n) : w.there d.L (k * 256) 256 := fun i hi => by
  have := h.there (k * 256 + i) (by omega)
  rwa [Nat.zero_add] at this

/-- the map is empty -/
def clearD (s : Dsk) : Dsk := { s with vers := fun _ => [] }
def Dw.clear (d : Dw) : Dw := { d with v := fun _ => ⟨none, 0⟩ }
theorem run_clear85 {es : Array MapEntry} {clock : Nat} {M : Nat} (hb : w.heap[M]? = some (.map es clock)) (ty : TypeId) :
    (Builtin.clear_ #[62] ty #[.map (some M)]).run Try.prog w = .ok (.tuple #[]) (setBlock w M (.map #[] clock)) := by
  simp [Builtin.clear_, run_underlying Try.underlying62, MapKept.run_getObj_map hb, MapKept.run_setObj_map _ hb, Result.andThen]
  rfl
theorem Dk.cleared (h : Dk w base d s) {es : Array MapEntry} {clock : Nat} (hb : w.heap[d.M]? = some (.map es clock)) :
    Dk (setBlock w d.M (.map #[] clock)) base d.clear (clearD s) ∧ Kept (fun b => b = d.M) w (setBlock w d.M (.map #[] clock)) := by
  have K : Kept (fun b => b = d.M) w (setBlock w d.M (.map #[] clock)) := ⟨rfl, rfl, rfl, by simp [setBlock], fun b _ hn => heap_setBlock_other hb _ hn⟩
  have hL := K.block d.L h.llt (fun e => h.ne.2.2 e.symm)
  refine ⟨⟨K.blk h.blk (fun e => h.ne.2.1 e.symm), Nat.lt_of_lt_of_le h.llt K.size, fun k hk => range_kept (h.lies k hk) hL, there_kept h.there hL, ⟨.map [], ?_, fun k _ => rfl, fun x hx => by simp [has] at hx⟩, fun k hk => Own.nil_ _ _ _ _, fun k _ => rfl, fun j k _ => .inl rfl, fun k e => (by cases e), fun k hk => ⟨(h.len k hk).1, fun x hx => (by cases hx)⟩, h.small, h.left, h.bases, h.ne, rowAt_block h.lty hL⟩, K⟩
  exact ⟨#[], clock, heap_setBlock_same hb _, ⟨by simp, stamped_empty clock, by simp⟩, Nat.zero_le _, rfl⟩
theorem clear_foot {d : Dw} (b : Nat) (h : d.clear.foot b) : d.foot b := by
  rcases h with h | h | h | ⟨k, h⟩
  · exact .inl h
  · exact .inr (.inl h)
  · exact .inr (.inr (.inl h))
  · cases h
end

def flushD (s : Dsk) : Dsk := if doneOk s then clearD { doneS s with lies := fun k => if k < s.n then hasD (doneS s) k else (doneS s).lies k } else doneS s
end Go.Proofs.Ytjndopmjlbhajaa
namespace Go.Proofs.Ytjndopmjlbhajaa
open Go.RowKit Go.Maps
set_option linter.unusedSimpArgs false
set_option linter.unusedVariables false

theorem inv_key (key : Value) (kl' : Lit) (h : keyOf Try.prog 3 key = some kl') : ∃ x : Int, key = .int .i64 x := by
  obtain ⟨x, h1, _⟩ := keyOf_int_inv Try.underlying3 h
  exact ⟨x, h1⟩
theorem not_has {w : World} {d : Dw} {s : Dsk} {D : DataW Value} (h : MapD w d s D) {k : Nat} (hk : k < s.n) (hn : has D (kl k) = false) : s.vers k = [] := by
  have h1 := h.2.1 k hk
  rw [atKey_of_not_has hn] at h1
  have h2 : nilv = .slice (d.v k).A (s.vers k).length (d.v k).c := by injection h1
  have h3 : 0 = (s.vers k).length := by injection h2
  exact List.eq_nil_of_length_eq_zero h3.symm
/-- the sectors while they are laid -/
def laid (D : DataW Value) (left : Lit → Bool) (s : Dsk) (k : Nat) : List UInt8 := if has D (kl k) && !left (kl k) then hasD s k else s.lies k
theorem laid_end {w : World} {d : Dw} {s : Dsk} {D : DataW Value} (h : MapD w d s D) {left : Lit → Bool} (hl : ∀ x, left x = false) {k : Nat} (hk : k < s.n) : laid D left s k = hasD s k := by
  unfold laid
  rw [hl]
  cases hh : has D (kl k) with
  | true => rfl
  | false =>
    have := not_has h hk hh
    simp only [Bool.false_and, Bool.false_eq_true, if_false]
    unfold hasD
    rw [this]
    rfl
theorem hasD_lies {s : Dsk} {ls : Nat → List UInt8} {k : Nat} (h : s.vers k ≠ []) : hasD { s with lies := ls } k = hasD s k := by
  unfold hasD
  show (s.vers k).getLast?.getD (ls k) = _
  cases hx : (s.vers k).getLast? with
  | none => exact absurd (List.getLast?_eq_none_iff.1 hx) h
  | some x => rfl
theorem kl_same (j k : Nat) : (kl j).sameKey (kl k) = decide (j = k) := by
  by_cases e : j = k
  · subst e
    rw [decide_eq_true rfl]
    exact WideAt.sameKey_self (by exact trivial)
  · rw [decide_eq_false e]
    exact sameKey_ne (kl_ne e)
theorem laid_step {D : DataW Value} {left : Lit → Bool} {s : Dsk} {k : Nat} (hh : has D (kl k) = true) (j : Nat) : laid D (fun z => left z && !z.sameKey (kl k)) s j = if j = k then hasD s k else laid D left s j := by
  unfold laid
  by_cases e : j = k
  · subst e
    show (if (has D (kl j) && !(left (kl j) && !(kl j).sameKey (kl j))) = true then _ else _) = _
    rw [if_pos rfl, kl_same, hh]
    simp
  · show (if (has D (kl j) && !(left (kl j) && !(kl j).sameKey (kl k))) = true then _ else _) = _
    rw [if_neg e, kl_same, decide_eq_false e]
    simp
theorem eqv_dk {w : World} {base : Nat} {d : Dw} {s : Dsk} {l1 l2 : Nat → List UInt8} (h : Dk w base d { s with lies := l1 }) (he : ∀ k, k < s.n → l1 k = l2 k) : Dk w base d { s with lies := l2 } :=
  ⟨h.blk, h.llt, fun k hk => by show w.rangeAt d.L (k * 256) (bvs (l2 k)); rw [← he k hk]; exact h.lies k hk, h.there, h.map, h.vers, h.out, h.apart, h.apL, fun k hk => by show (l2 k).length = 256 ∧ _; rw [← he k hk]; exact h.len k hk, h.small, h.left, h.bases, h.ne, h.lty⟩

set_option maxRecDepth 100000 in
set_option maxHeartbeats 4000000 in
theorem dflush_any {w : World} {base : Nat} {d : Dw} {s : Dsk} (h : Dk w base d s) :
    Calls Try.prog 50 #[.pointer (some ⟨d.g, 0, none⟩)] w fun e w' => e = .returned (.tuple #[]) ∧ ∃ d', Dk w' base d' (flushD s) ∧ d'.g = d.g ∧ Kept d.foot w w' ∧ ∀ j, d'.foot j → d.foot j ∨ w.heap.size ≤ j := by
  have HD1 := Lib.hid (done_any h)
  have hsn := h.small
  cases hok : doneOk s with
  | false =>
    have HW : Hid (flushD s = doneS s) := by show _ = _; unfold flushD; rw [hok]; rfl
    rw [hok] at HD1
    clear h
    go_enter Try.func50, Try.ntmps50
    go_wp2_with ((with_reducible refine Calls.mono HD1.out ?_); rintro e w1 ⟨rfl, h1, K1⟩)
    refine bodyPost_ret (results_none rfl _ _ _) rfl ?_
    exact ⟨rfl, d, by rw [HW.out]; exact h1, rfl, K1.mono (fun j _ e => .inl e), fun j hj => .inl hj⟩
  | true =>
    have HW : Hid (flushD s = clearD { doneS s with lies := fun k => if k < s.n then hasD (doneS s) k else (doneS s).lies k }) := by show _ = _; unfold flushD; rw [hok]; rfl
    rw [hok] at HD1
    have hnn := (doneS_n s).1
    clear h
    go_enter Try.func50, Try.ntmps50
    go_upto_region 1 with ((with_reducible refine Calls.mono HD1.out ?_); rintro e w1 ⟨rfl, h1, K1⟩)
    refine wp_world (fun U => Dk U base d (doneS s) ∧ Kept (fun j => j = d.g) w U) ⟨h1, K1⟩ ?_
    clear h1 K1 HD1
    rintro U ⟨h1, K1⟩
    obtain ⟨s1, hs1⟩ : ∃ s1, s1 = doneS s := ⟨_, rfl⟩
    rw [← hs1] at h1 HW hnn
    clear hs1
    rw [← hnn] at HW
    have HNN := Lib.hid hnn
    clear hnn
    obtain ⟨D, hD⟩ := h1.map
    have bc := h1.blk.cells
    have HDD : Hid (MapD U d s1 D) := hD
    have HK1 := Lib.hid K1
    have H1 := Lib.hid h1
    have hown := hD.1
    clear h1 hD K1
    go_wp2_with (first
      | (at_range; refine wpList_range_own _ rfl _ 62 rfl 3 61 law3 Try.underlying62 _ d.M s1.n D rfl hown ?_; intro w0 hrg0 hg0 hs0)
      | go_in)
    have HR : Hid (w0.ranges Try.prog 3 RV d.M U.heap.size s1.n D (has D) (Maps.size D) ∧ Dk w0 base d s1 ∧ Kept (fun j => j = d.g) w w0) :=
      ⟨hrg0, H1.out.kept (F := fun _ => False) (Kept.of_grown hg0 (fun b e => by cases e)) (fun _ _ x => x), HK1.out.trans (Kept.of_grown (F := fun _ => False) hg0 (fun b e => by cases e)) (fun _ _ e => e.elim)⟩
    have hzU := HK1.out.size
    clear hrg0 hg0 hs0 hown bc
    go_frame
    go_loopw [2] (fun _ wr => ∃ (left : Lit → Bool) (cnt : Nat), wr.ranges Try.prog 3 RV d.M U.heap.size s1.n D left cnt ∧ Dk wr base d { s1 with lies := laid D left s1 } ∧ Kept (fun j => j = d.g ∨ j = d.L) w wr) (fun _ wr => wr.rangeLeft d.M U.heap.size)
    case atStart => exact ⟨has D, Maps.size D, HR.out.1, eqv_dk (s := s1) (l1 := s1.lies) HR.out.2.1 (fun k hk => by unfold laid; cases has D (kl k) <;> simp), HR.out.2.2.mono (fun b _ e => .inl e)⟩
    case round =>
      obtain ⟨left, cnt, hrg, hdk, hkp⟩ := hrel
      have bc := hdk.blk.cells
      go_wp2_with (first
        | (at_next; refine wpList_next_ranges _ rfl _ rfl 3 law3 RV (fun x : Int => Value.int .i64 x) (fun c : Value => c) inv_key (fun v _ _ => ⟨v, rfl⟩) d.M U.heap.size s1.n D left cnt rfl hrg ?_ ?_)
        | go_in)
      · intro hc0 hl0
        have HL := Lib.hid hl0
        clear hl0 hrg bc
        obtain ⟨D2, ⟨es, clock, hes, _⟩, _⟩ := hdk.map
        have hcl := run_clear85 hes
        have HF : Hid (Dk wr base d { s1 with lies := fun k => if k < s1.n then hasD s1 k else s1.lies k }) := eqv_dk hdk (fun k hk => by rw [laid_end HDD.out HL.out hk, if_pos hk])
        obtain ⟨r1, r2⟩ := HF.out.cleared hes
        have R1 := Lib.hid r1
        have R2 := Lib.hid r2
        have HKp := Lib.hid hkp
        clear r1 r2 hkp
        have bc := hdk.blk.cells
        have HDk := Lib.hid hdk
        clear hdk hes
        generalize ChangeMaps.setBlock wr d.M (.map #[] clock) = w9 at *
        go_wp2
        go_end0
        exact ⟨rfl, d.clear, by rw [HW.out]; exact R1.out, rfl, (HKp.out.mono (fun b _ e => e.imp id .inl)).trans R2.out (fun b _ e => .inr (.inr (.inl e))), fun j hj => .inl (clear_foot j hj)⟩
      · intro x c kx y ps w1 cnt1 hkx hlx hRc hat hrg1 hlt hg1 hs1 hen
        obtain ⟨k, hk, hkk, hvk⟩ := HDD.out.2.2 kx (has_true_of_atKey hat)
        have hxk : x = (k : Int) := by
          obtain ⟨x', h1, h2, _⟩ := keyOf_int_inv Try.underlying3 hkx
          rw [hkk] at h2
          injection h1 with _ h1
          injection h2 with _ h2
          omega
        subst hxk
        subst hkk
        have hhas := has_true_of_atKey hat
        have HH := Lib.hid hhas
        have hd1 : Dk w1 base d { s1 with lies := laid D left s1 } := hdk.kept (F := fun b => b = U.heap.size) (Kept.of_grown hg1 (fun b e => (Option.some.inj e).symm)) (fun b hb e => by have := H1.out.foot_base b hb; omega)
        have hrne : d.M ≠ d.L := hdk.ne.2.2
        have HRG := Lib.hid hrg1
        have HLT := Lib.hid hlt
        have HLE := Lib.hid hrg.left_eq
        have HK2 : Hid (Kept (fun j => j = d.g ∨ j = d.L) w w1) := hkp.trans (Kept.of_grown (F := fun b => b = U.heap.size) hg1 (fun b e => (Option.some.inj e).symm)) (fun b hb e => by omega)
        have hld := H1.out.llt
        clear hat hlx hRc hrg1 hlt hg1 hkx hdk hkp bc hhas hrg
        have bc := hd1.blk.cells
        go_upto_region 4 with fail
        have hd2 : Dk w1.drew base d { s1 with lies := laid D left s1 } := hd1.below (B := w1.heap.size) (Below.refl _ _).drew (Nat.le_refl _)
        have C1 := Lib.hid (has_any hd2 hk)
        rw [hasD_lies hvk] at C1
        have HHL : Hid ((hasD s1 k).length = 256) := hasD_len H1.out hk
        clear bc
        refine wp_region_last (S := fun w' => w'.cell? ⟨d.g, 0, none⟩ = some (.slice (some ⟨d.L, 0, none⟩) s1.n d.lc)) 9 (by kernel_rfl) rfl (by kernel_rfl) ?_ ?_
        · exact hd2.blk.cell 0
        intro hHeld
        simp only [List.take_succ_cons, List.take_zero]
        have hkn : (k : Int) < (s1.n : Int) := by omega
        refine wpAnyH_take (i := 0) (v := ?_) (by simp only [List.getElem?_toArray, List.getElem?_cons_succ, List.getElem?_cons_zero]; rfl) (by kernel_rfl) (by kernel_rfl) (by kernel_rfl) (fun _ _ _ h => h) (Or.inl ⟨by rfl, ?_⟩) hHeld ?_
        rotate_left
        · intro wz hSw; (try dsimp only at hSw); go_simp; try with_reducible rfl
        (try simp only [Act.put, List.setIfInBounds_toArray, List.set_cons_zero, List.set_cons_succ])
        refine wpAnyH_take (i := 1) (v := ?_) (by simp only [List.getElem?_toArray, List.getElem?_cons_succ, List.getElem?_cons_zero]; rfl) (by kernel_rfl) (by kernel_rfl) (by kernel_rfl) (fun _ _ _ h => h) (Or.inl ⟨by rfl, ?_⟩) hHeld ?_
        rotate_left
        · intro wz hSw; (try dsimp only at hSw); go_simp; try with_reducible rfl
        (try simp only [Act.put, List.setIfInBounds_toArray, List.set_cons_zero, List.set_cons_succ])
        refine wpAnyH_take (i := 2) (v := ?_) (by simp only [List.getElem?_toArray, List.getElem?_cons_succ, List.getElem?_cons_zero]; rfl) (by kernel_rfl) (by kernel_rfl) (by kernel_rfl) (fun _ _ _ h => h) (Or.inl ⟨by rfl, ?_⟩) hHeld ?_
        rotate_left
        · intro wz hSw; (try dsimp only at hSw); go_simp; try with_reducible rfl
        (try simp only [Act.put, List.setIfInBounds_toArray, List.set_cons_zero, List.set_cons_succ])
        refine wpAnyH_take (i := 3) (v := ?_) (by simp only [List.getElem?_toArray, List.getElem?_cons_succ, List.getElem?_cons_zero]; rfl) (by kernel_rfl) (by kernel_rfl) (by kernel_rfl) (fun _ _ _ h => h) (Or.inl ⟨by rfl, ?_⟩) hHeld ?_
        rotate_left
        · intro wz hSw; (try dsimp only at hSw); go_simp; try with_reducible rfl
        (try simp only [Act.put, List.setIfInBounds_toArray, List.set_cons_zero, List.set_cons_succ])
        refine wpAnyH_take (i := 4) (v := ?_) (by simp only [List.getElem?_toArray, List.getElem?_cons_succ, List.getElem?_cons_zero]; rfl) (by kernel_rfl) (by kernel_rfl) (by kernel_rfl) (fun _ _ _ h => h) (Or.inl ⟨by rfl, ?_⟩) hHeld ?_
        rotate_left
        · intro wz hSw; (try dsimp only at hSw); go_simp; try with_reducible rfl
        (try simp only [Act.put, List.setIfInBounds_toArray, List.set_cons_zero, List.set_cons_succ])
        refine wpAnyH_take (i := 5) (v := ?_) (by simp only [List.getElem?_toArray, List.getElem?_cons_succ, List.getElem?_cons_zero]; rfl) (by kernel_rfl) (by kernel_rfl) (by kernel_rfl) (fun _ _ _ h => h) (Or.inl ⟨by rfl, ?_⟩) hHeld ?_
        rotate_left
        · intro wz hSw; (try dsimp only at hSw); go_simp; try with_reducible rfl
        (try simp only [Act.put, List.setIfInBounds_toArray, List.set_cons_zero, List.set_cons_succ])
        refine wpAnyH_take (i := 6) (v := ?_) (by simp only [List.getElem?_toArray, List.getElem?_cons_succ, List.getElem?_cons_zero]; rfl) (by kernel_rfl) (by kernel_rfl) (by kernel_rfl) (fun _ _ _ h => h) (Or.inl ⟨by rfl, ?_⟩) hHeld ?_
        rotate_left
        · intro wz hSw; (try dsimp only at hSw); go_simp; try with_reducible rfl
        (try simp only [Act.put, List.setIfInBounds_toArray, List.set_cons_zero, List.set_cons_succ])
        refine wpAnyH_ready (rs := [7]) (by kernel_rfl) (by simp) ?_
        refine AllReadyH.cons (by simp only [List.getElem?_toArray, List.getElem?_cons_succ, List.getElem?_cons_zero]; rfl) (fun KK hK => ?_) AllReadyH.nil
        go_simp; ((with_reducible refine Calls.mono C1.out ?_); rintro e w5 ⟨rfl, hb5⟩; have hd5 := hd2.below hb5 (Nat.le_refl _)); go_wp2_with fail
        refine hK.out _ _ ?_ (fun hHeld => ?_)
        · exact hd5.blk.cell 0
        clear hK KK
        (try simp only [Act.put, List.setIfInBounds_toArray, List.set_cons_zero, List.set_cons_succ])
        refine wpAnyH_take (i := 8) (v := ?_) (by simp only [List.getElem?_toArray, List.getElem?_cons_succ, List.getElem?_cons_zero]; rfl) (by kernel_rfl) (by kernel_rfl) (by kernel_rfl) (fun _ _ _ h => h) (Or.inl ⟨by rfl, ?_⟩) hHeld ?_
        rotate_left
        · intro wz hSw; (try dsimp only at hSw); go_simp; try with_reducible rfl
        (try simp only [Act.put, List.setIfInBounds_toArray, List.set_cons_zero, List.set_cons_succ])
        refine wpAnyH_done (by kernel_rfl) ?_ _
        simp only [lastQ]
        refine wp_store_mid 100 (.tmp 23) (.tmp 22) rfl d.L (k * 256) (bvs (hasD s1 k)).toArray (by first | rfl | (go_simp; rfl)) (by first | rfl | (go_simp; rfl)) (by rw [List.size_toArray, length_bvs, HHL.out]; exact hd5.there_k hk) (by rw [info93, List.size_toArray, length_bvs, HHL.out]) (all_oneCell_toArray (bvs_oneCell _)) ?_
        have hd6 := hd5.lay hk HHL.out
        have hg6 := grown_setCells (w := w5) (g := d.L) (o := k * 256) (vs := bvs (hasD s1 k))
        have HD6 : Hid (Dk (w5.setCells d.L (k * 256) (bvs (hasD s1 k))) base d { s1 with lies := laid D (fun z => left z && !z.sameKey (kl k)) s1 }) := eqv_dk hd6 (fun j hj => by rw [laid_step HH.out])
        have hg5 : w1.grownBy w5 none := ⟨hb5.os, hb5.tape, hb5.output, hb5.size, fun b hb _ => hb5.block b hb⟩
        have HG6 := Lib.hid ((HRG.out.kept hg5 (by simp) (by simp)).kept hg6 (fun e => hrne (Option.some.inj e)) (fun e => by have := Option.some.inj e; omega))
        have HK6 : Hid (Kept (fun j => j = d.g ∨ j = d.L) w (w5.setCells d.L (k * 256) (bvs (hasD s1 k)))) := (HK2.out.trans (Kept.of_grown (F := fun _ => False) hg5 (fun b e => by cases e)) (fun _ _ e => e.elim)).trans kept_setCells (fun b _ e => .inr e)
        rw [List.toList_toArray]
        (try simp only [Act.put, List.setIfInBounds_toArray, List.set_cons_zero, List.set_cons_succ])
        clear hd6 hg6 hg5 hd5 hb5 hd2 hd1 hHeld C1 HRG HK2 hen
        generalize w5.setCells d.L (k * 256) (bvs (hasD s1 k)) = w6 at *
        go_wp2
        go_roundw
        case rel => exact ⟨_, cnt1, HG6.out, HD6.out, HK6.out⟩
        case measure => rw [HG6.out.left_eq, HLE.out]; exact HLT.out
end Go.Proofs.Ytjndopmjlbhajaa
