/- A drawn region whose loads are taken first: each cell is held only until its load has come up. No condition. -/
import Derived.Test.YtdakohbfibcjeaaTvD
import Derived.Deep.RegionHeld
namespace Go.Proofs.Ytdakohbfibcjeaa

section
variable {P : Program} {md : Region.Mode} {ops : Array Oper} {Q : Exit → Act → World → Prop}

/-- what is held of the world until its operation has come up -/
def Until (L : List (Nat × (World → Prop))) (listed : Array Bool) (w : World) : Prop := ∀ x ∈ L, listed.getD x.1 true = false → x.2 w
/-- whatever order is picked, with what is held -/
def wpAnyL (P : Program) (md : Region.Mode) (ops : Array Oper) (Q : Exit → Act → World → Prop) (L : List (Nat × (World → Prop))) : Nat → Array Bool → Act → World → Prop
  | 0, listed, a, w => Region.ready md ops listed = [] ∧ Q .normal a w
  | fuel + 1, listed, a, w =>
    (Region.ready md ops listed = [] → Q .normal a w) ∧
    ∀ i ∈ Region.ready md ops listed, wpOp P ops Q i (fun a' w' => Until L (listed.setIfInBounds i true) w' ∧ wpAnyL P md ops Q L fuel (listed.setIfInBounds i true) a' w') a w
variable {L : List (Nat × (World → Prop))}
theorem wpAny_of_L : ∀ (fuel : Nat) (listed : Array Bool) (a : Act) (w : World), wpAnyL P md ops Q L fuel listed a w → wpAny P md ops Q fuel listed a w
  | 0, _, _, _, h => h
  | fuel + 1, _, _, _, h => ⟨h.1, fun i hi => wpOp_mono (fun a' w' h' => wpAny_of_L fuel _ a' w' h'.2) (h.2 i hi)⟩
theorem getD_set_le {l : Array Bool} {i j : Nat} (h : (l.setIfInBounds i true).getD j true = false) : l.getD j true = false := by
  by_cases e : i = j
  · subst e
    by_cases hi : i < l.size
    · simp [hi] at h
    · simp [hi] at h
  · rw [getD_set_ne true e] at h; exact h
theorem Until.more {listed : Array Bool} {w : World} (h : Until L listed w) (i : Nat) : Until L (listed.setIfInBounds i true) w := fun x hx hl => h x hx (getD_set_le hl)
/-- all that is held -/
def AllOf (L : List (Nat × (World → Prop))) (w : World) : Prop := ∀ x ∈ L, x.2 w
/-- what ends the holding waits for number i, and has not come up -/
def waitsB (md : Region.Mode) (ops : Array Oper) (L : List Nat) (listed : Array Bool) (i : Nat) : Bool :=
  L.all fun x => !(listed.getD x true) && (match ops[x]? with
    | some o => o.after.any fun e => Region.binds md e && e.on == i
    | none => false)
theorem waitsB_spec {L : List Nat} {listed : Array Bool} {i x : Nat} (h : waitsB md ops L listed i = true) (hx : x ∈ L) : listed.getD x true = false ∧ ∃ o, ops[x]? = some o ∧ ∃ e ∈ o.after, Region.binds md e = true ∧ e.on = i := by
  have h1 := List.all_eq_true.1 h x hx
  rw [Bool.and_eq_true] at h1
  refine ⟨by simpa using h1.1, ?_⟩
  cases ho : ops[x]? with
  | none => rw [ho] at h1; exact absurd h1.2 (by simp)
  | some o =>
    rw [ho] at h1
    obtain ⟨e, he, h2⟩ := Array.any_eq_true'.1 h1.2
    rw [Bool.and_eq_true, beq_iff_eq] at h2
    exact ⟨o, rfl, e, he, h2⟩
theorem first_L {i : Nat} {oi : Oper} {v : Value} (hi : ops[i]? = some oi) (hsel : ∀ (j : Nat) (o : Oper) cs b, ops[j]? = some o → o.op ≠ .select cs b)
    (hQ : ∀ c a w, Q (.panic c) (a.put oi.dst v) w → Q (.panic c) a w) {L1 : List (Nat × (World → Prop))} (hsub : ∀ x ∈ L1, x ∈ L) (hni : ∀ x ∈ L, i ≠ x.1) (hw : ∀ x ∈ L1, ∃ o, ops[x.1]? = some o ∧ ∃ e ∈ o.after, Region.binds md e = true ∧ e.on = i) (fuel : Nat) :
    ∀ (listed : Array Bool) (a : Act) (w : World), (∀ x ∈ L1, listed.getD x.1 true = false) →
      (∀ j oj, ops[j]? = some oj → j ≠ i → listed.getD j true = false → (∀ e ∈ oj.after, Region.binds md e = true → e.on ≠ i) → oi.apart ops oj = true) →
      i ∈ Region.ready md ops listed → YieldsIf P ops (AllOf L1) oi v a → Until L listed w →
      wpAnyL P md ops Q L fuel (listed.setIfInBounds i true) (a.put oi.dst v) w → wpAnyL P md ops Q L (fuel + 1) listed a w := by
  induction fuel with
  | zero =>
    intro listed a w hun _ hr hy hS H
    refine ⟨fun h => absurd hr (by rw [h]; exact List.not_mem_nil), fun j hj => ?_⟩
    rcases Nat.decEq j i with hji | rfl
    · exact absurd (ready_mono hj hji) (by rw [H.1]; exact List.not_mem_nil)
    · exact hy.wpOp hi (fun x hx => hS x (hsub x hx) (hun x hx)) ⟨hS.more j, H⟩
  | succ fuel ih =>
    intro listed a w hun hfree hr hy hS H
    refine ⟨fun h => absurd hr (by rw [h]; exact List.not_mem_nil), fun j hj => ?_⟩
    rcases Nat.decEq j i with hji | rfl
    · have hi0 := (mem_ready.1 hr).1
      obtain ⟨hj0, oj, hoj, hall⟩ := mem_ready.1 hj
      have hnot : ∀ e ∈ oj.after, Region.binds md e = true → e.on ≠ i := fun e he hb heq => by
        have h1 := hall e he hb
        rw [heq] at h1
        by_cases hs : i < listed.size
        · rw [getD_same hs false true, hi0] at h1; cases h1
        · simp [hs] at h1
      have hjx : ∀ x ∈ L1, j ≠ x.1 := fun x hx e => by
        obtain ⟨o, ho, e2, he2, hb, hon⟩ := hw x hx
        rw [← e, hoj] at ho
        injection ho with ho
        subst ho
        exact hnot e2 he2 hb hon
      have step := wpOp_putIf hoj (hfree j oj hoj hji hj0 hnot) (fun cs b => hsel i oi cs b hi) (fun cs b => hsel j oj cs b hoj) hQ hy (H.2 j (ready_mono hj hji))
      refine wpOp_mono (fun a' w' h3 => ?_) step
      have hun' : ∀ x ∈ L1, (listed.setIfInBounds j true).getD x.1 true = false := fun x hx => by
        rw [getD_set_ne true (hjx x hx)]; exact hun x hx
      have hS' : Until L (listed.setIfInBounds j true) w' := fun x hx hl => by
        refine h3.2.1 x hx ?_
        rw [Array.setIfInBounds_comm _ _ (Ne.symm hji), getD_set_ne true (hni x hx)]; exact hl
      refine ⟨hS', ih (listed.setIfInBounds j true) a' w' hun' (fun k ok hk hki hun2 hno => hfree k ok hk hki (getD_set_le hun2) hno) (ready_mono hr (Ne.symm hji)) h3.1 hS' ?_⟩
      rw [Array.setIfInBounds_comm _ _ hji]
      exact h3.2.2
    · exact hy.wpOp hi (fun x hx => hS x (hsub x hx) (hun x hx)) ⟨hS.more j, H⟩
/-- take number i first -/
theorem take_L (L1 : List (Nat × (World → Prop))) {i : Nat} {oi : Oper} {v : Value} {fuel : Nat} {listed : Array Bool} {a : Act} {w : World} (hi : ops[i]? = some oi)
    (hs : Region.noSelect ops = true) (hf : Region.free md ops listed i = true) (hr : (Region.ready md ops listed).contains i = true) (hsub : ∀ x ∈ L1, x ∈ L) (hni : (L.map (·.1)).contains i = false) (hwt : waitsB md ops (L1.map (·.1)) listed i = true)
    (hQ : ∀ c a w, Q (.panic c) (a.put oi.dst v) w → Q (.panic c) a w) (hy : YieldsIf P ops (AllOf L1) oi v a) (hS : Until L listed w)
    (h : Until L (listed.setIfInBounds i true) w → wpAnyL P md ops Q L fuel (listed.setIfInBounds i true) (a.put oi.dst v) w) : wpAnyL P md ops Q L (fuel + 1) listed a w :=
  first_L hi (Region.noSelect_spec hs) hQ hsub (fun x hx e => by
    have h1 : (L.map (·.1)).contains i = true := by rw [List.contains_iff_mem, e]; exact List.mem_map_of_mem hx
    rw [hni] at h1; cases h1) (fun x hx => (waitsB_spec hwt (List.mem_map_of_mem hx)).2) fuel listed a w (fun x hx => (waitsB_spec hwt (List.mem_map_of_mem hx)).1) (Region.free_spec hi hf) (by simpa using hr) hy hS (h (hS.more i))
def AllReadyL (P : Program) (md : Region.Mode) (ops : Array Oper) (Q : Exit → Act → World → Prop) (L : List (Nat × (World → Prop))) (fuel : Nat) (listed : Array Bool) (a : Act) (w : World) (rs : List Nat) : Prop :=
  ∀ i ∈ rs, wpOp P ops Q i (fun a' w' => Until L (listed.setIfInBounds i true) w' ∧ wpAnyL P md ops Q L fuel (listed.setIfInBounds i true) a' w') a w
theorem AllReadyL.nil {fuel : Nat} {listed : Array Bool} {a : Act} {w : World} : AllReadyL P md ops Q L fuel listed a w [] := fun _ h => by cases h
theorem AllReadyL.cons {fuel : Nat} {listed : Array Bool} {a : Act} {w : World} {i : Nat} {o : Oper} {rs : List Nat} (ho : ops[i]? = some o)
    (h : ∀ K' : Act → World → Prop, Shut (∀ a w, Until L (listed.setIfInBounds i true) w → (Until L (listed.setIfInBounds i true) w → wpAnyL P md ops Q L fuel (listed.setIfInBounds i true) a w) → K' a w) → if Region.wanted o (yielded ops a.tmps) = true then Oper.wp P o a w K' Q else K' (a.put o.dst undef) w)
    (hs : AllReadyL P md ops Q L fuel listed a w rs) : AllReadyL P md ops Q L fuel listed a w (i :: rs) := fun j hj => by
  rcases List.mem_cons.1 hj with rfl | hj
  · exact wpOp_step ho (fun K' hK => h K' (fun a w hS hW => hK a w ⟨hS, hW hS⟩))
  · exact hs j hj
/-- those that may come up -/
theorem ready_L {rs : List Nat} {fuel : Nat} {listed : Array Bool} {a : Act} {w : World} (hr : Region.ready md ops listed = rs) (hne : rs ≠ [])
    (h : AllReadyL P md ops Q L fuel listed a w rs) : wpAnyL P md ops Q L (fuel + 1) listed a w :=
  ⟨fun h0 => absurd (hr ▸ h0) hne, hr ▸ h⟩
theorem done_L {listed : Array Bool} {a : Act} {w : World} (hr : Region.ready md ops listed = []) (h : Q .normal a w) : ∀ fuel, wpAnyL P md ops Q L fuel listed a w
  | 0 => ⟨hr, h⟩
  | _ + 1 => ⟨fun _ => h, by rw [hr]; simp⟩
theorem begin_L (L : List (Nat × (World → Prop))) {id : Nat} {a : Act} {w : World} (hm : P.follows .mixedOrders = true) (hS : AllOf L w.drew)
    (h : Until L (Array.replicate ops.size false) w.drew → wpAnyL P .any ops Q L ops.size (Array.replicate ops.size false) a w.drew) : (Code.region id ops true).wp P Q a w :=
  wp_region_any hm (wpAny_of_L _ _ _ _ (h fun x hx _ => hS x hx))
end
end Go.Proofs.Ytdakohbfibcjeaa
