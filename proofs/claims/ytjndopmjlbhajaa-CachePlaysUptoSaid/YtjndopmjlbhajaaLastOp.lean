/- A drawn region whose last operation waits for all others: it is walked without it, and it comes behind. No condition. -/
import Derived.StillTail
import Derived.OrdersHeld
namespace Go.Proofs.Ytjndopmjlbhajaa

section
variable {P : Program} {md : Region.Mode} {ops ops' : Array Oper} {Q : Exit → Act → World → Prop}

/-- Q behind one operation more. -/
def lastQ (P : Program) (o : Oper) (Q : Exit → Act → World → Prop) : Exit → Act → World → Prop
  | .normal, a, w => o.wp P a w (Q .normal) Q
  | .exit i, a, w => Q (.exit i) a w
  | .goto l, a, w => Q (.goto l) a w
  | .ret, a, w => Q .ret a w
  | .panic _, _, _ => False
  | .outgrown, a, w => Q .outgrown a w

theorem oper_both {o x : Oper} {a : Act} {w : World} {K K' : Act → World → Prop} (h : ∀ a w, K a w → K' a w) (hh : o.wp P a w K (lastQ P x Q)) : o.wp P a w K' Q := by
  unfold Oper.wp at *
  generalize (execOp a.eval o).run P w = r at *
  cases r with
  | ok n w' =>
    cases n <;> simp only [Oper.upon] at hh ⊢
    case value u => exact h _ _ hh
    case skip => exact h _ _ hh
    case defer d => exact h _ _ hh
    case enter f args =>
      refine Calls.mono hh fun e w'' he => ?_
      cases e with
      | returned u => exact h _ _ he
      | panicked c => exact False.elim he
      | outgrown => exact he
    case row row args => exact Rows.mono hh fun u w'' he => h _ _ he
  | halt x w' =>
    cases x <;> simp only [Oper.upon] at hh ⊢
    case panic u => exact False.elim hh

/-- no operation has a guard; each waits for earlier ones alone -/
def ascB (md : Region.Mode) (ops : Array Oper) : Bool :=
  (List.range ops.size).all fun j => match ops[j]? with
    | some o => o.guard.isNone && o.after.all fun e => !Region.binds md e || decide (e.on < j)
    | none => true
theorem ascB_spec (h : ascB md ops = true) {j : Nat} {o : Oper} (hj : ops[j]? = some o) : o.guard = none ∧ ∀ e ∈ o.after, Region.binds md e = true → e.on < j := by
  have hlt : j < ops.size := (Array.getElem?_eq_some_iff.1 hj).1
  have h1 := List.all_eq_true.1 h j (List.mem_range.2 hlt)
  simp only [hj, Bool.and_eq_true, Option.isNone_iff_eq_none] at h1
  refine ⟨h1.1, fun e he hb => ?_⟩
  have h2 := Array.all_eq_true_iff_forall_mem.1 h1.2 e he
  simpa [hb] using h2
theorem wanted_none {o : Oper} (h : o.guard = none) (y : Nat → Option Bool) : Region.wanted o y = true := by
  simp [Region.wanted, h]

theorem wpOp_both {i : Nat} {o x : Oper} (hi : ops[i]? = some o) (hi' : ops'[i]? = some o) (hg : o.guard = none) {K K' : Act → World → Prop} {a : Act} {w : World}
    (h : ∀ a w, K a w → K' a w) (hh : wpOp P ops' (lastQ P x Q) i K a w) : wpOp P ops Q i K' a w := by
  unfold wpOp at *
  simp only [hi, hi', wanted_none hg, if_true] at *
  rcases hh with hh | ⟨ha, a', w', hl⟩
  · exact .inl (oper_both h hh)
  · exact .inr ⟨ha, a', w', hl⟩

theorem getD_same {l : Array Bool} {i : Nat} (h : i < l.size) (d d' : Bool) : l.getD i d = l.getD i d' := by simp [h]

theorem wpAny_last {n : Nat} {x : Oper} (hx : ops[n]? = some x) (hsz : ops.size = n + 1) (ha : ascB md ops = true) (hs : Region.sinkB md ops n = true) (hc : Region.chainB md ops n = true)
    (hsz' : ops'.size = n) (heq : ∀ i < n, ops'[i]? = ops[i]?) :
    ∀ (fuel : Nat) (listed listed' : Array Bool) (a : Act) (w : World), HeadInv md ops n listed → listed'.size = n → (∀ i < n, listed'.getD i true = listed.getD i true) →
      wpAny P md ops' (lastQ P x Q) fuel listed' a w → wpAny P md ops Q (fuel + 1) listed a w := by
  have hready : ∀ (listed listed' : Array Bool), HeadInv md ops n listed → listed'.size = n → (∀ i < n, listed'.getD i true = listed.getD i true) →
      ∀ i < n, (i ∈ Region.ready md ops' listed' ↔ i ∈ Region.ready md ops listed) := by
    intro listed listed' inv hl he i hi
    rw [mem_ready, mem_ready, he i hi, heq i hi]
    refine and_congr Iff.rfl (exists_congr fun o => and_congr_right fun ho => ?_)
    refine forall_congr' fun e => forall_congr' fun hm => forall_congr' fun hb => ?_
    have hlt := (ascB_spec ha ho).2 e hm hb
    have hsz2 := inv.size
    rw [getD_same (l := listed') (by omega) false true, getD_same (l := listed) (by omega) false true, he _ (by omega)]
  have hall : ∀ (listed listed' : Array Bool), HeadInv md ops n listed → listed'.size = n → (∀ i < n, listed'.getD i true = listed.getD i true) → Region.ready md ops' listed' = [] →
      ∀ i, i < n → listed.getD i true = true := by
    intro listed listed' inv hl he hr i
    induction i using Nat.strongRecOn with
    | _ i ih =>
      intro hi
      cases hu : listed.getD i true with
      | true => rfl
      | false =>
        have : i ∈ Region.ready md ops' listed' := by
          rw [hready listed listed' inv hl he i hi, mem_ready]
          have hlt : i < ops.size := by omega
          refine ⟨hu, ops[i], Array.getElem?_eq_getElem hlt, fun e hm hb => ?_⟩
          have h1 := (ascB_spec ha (Array.getElem?_eq_getElem hlt)).2 e hm hb
          have hsz2 := inv.size
          rw [getD_same (by omega) false true]
          exact ih _ h1 (by omega)
        rw [hr] at this
        cases this
  have hend : ∀ (fuel : Nat) (listed listed' : Array Bool) (a : Act) (w : World), HeadInv md ops n listed → listed'.size = n → (∀ i < n, listed'.getD i true = listed.getD i true) →
      Region.ready md ops' listed' = [] → lastQ P x Q .normal a w → wpAny P md ops Q (fuel + 1) listed a w := by
    intro fuel listed listed' a w inv hl he hr hq
    have hA := hall listed listed' inv hl he hr
    have hsz2 := inv.size
    have hn : n ∈ Region.ready md ops listed := by
      rw [mem_ready]
      refine ⟨inv.tail n (Nat.le_refl _) (by omega), x, hx, fun e hm hb => ?_⟩
      have h1 := (ascB_spec ha hx).2 e hm hb
      rw [getD_same (by omega) false true]
      exact hA _ h1
    refine ⟨fun h => (by rw [h] at hn; cases hn), fun i hi => ?_⟩
    obtain ⟨hu, o, ho, _⟩ := mem_ready.1 hi
    have hlt : i < ops.size := (Array.getElem?_eq_some_iff.1 ho).1
    have hin : i = n := by
      rcases Nat.lt_or_ge i n with h | h
      · rw [hA i h] at hu; cases hu
      · omega
    subst hin
    have hnil : Region.ready md ops (listed.setIfInBounds i true) = [] := by
      rw [List.eq_nil_iff_forall_not_mem]
      intro j hj
      obtain ⟨hu2, o2, ho2, _⟩ := mem_ready.1 hj
      have hlt2 : j < ops.size := (Array.getElem?_eq_some_iff.1 ho2).1
      by_cases hji : i = j
      · subst hji
        simp [hsz2, hlt] at hu2
      · rw [getD_set_ne true hji, hA j (by omega)] at hu2
        cases hu2
    unfold wpOp
    simp only [hx, wanted_none (ascB_spec ha hx).1, if_true]
    refine .inl (Oper.wp_mono (fun a' w' h => ?_) hq)
    cases fuel with
    | zero => exact ⟨hnil, h⟩
    | succ f => exact ⟨fun _ => h, by rw [hnil]; intro k hk; cases hk⟩
  intro fuel
  induction fuel with
  | zero =>
    intro listed listed' a w inv hl he h
    exact hend 0 listed listed' a w inv hl he h.1 h.2
  | succ fuel ih =>
    intro listed listed' a w inv hl he h
    by_cases hr : Region.ready md ops' listed' = []
    · exact hend (fuel + 1) listed listed' a w inv hl he hr (h.1 hr)
    · obtain ⟨k, hk⟩ := List.exists_mem_of_ne_nil _ hr
      obtain ⟨hku, ok, hok, _⟩ := mem_ready.1 hk
      have hkn : k < n := by have := (Array.getElem?_eq_some_iff.1 hok).1; omega
      have hnn : n ∉ Region.ready md ops listed := tail_waits hs hc (by omega) inv (n - k) k rfl hkn (by rw [← he k hkn]; exact hku) n (Nat.le_refl _)
      have hk' := (hready listed listed' inv hl he k hkn).1 hk
      refine ⟨fun h0 => (by rw [h0] at hk'; cases hk'), fun i hi => ?_⟩
      obtain ⟨hu, o, ho, _⟩ := mem_ready.1 hi
      have hlt : i < ops.size := (Array.getElem?_eq_some_iff.1 ho).1
      have hin : i < n := by
        rcases Nat.lt_or_ge i n with h' | h'
        · exact h'
        · obtain rfl : i = n := by omega
          exact absurd hi hnn
      have h2 := h.2 i ((hready listed listed' inv hl he i hin).2 hi)
      refine wpOp_both ho ((heq i hin).trans ho) (ascB_spec ha ho).1 (fun a' w' h3 => ?_) h2
      refine ih _ _ a' w' (inv.set hi hin) (by simpa using hl) (fun j hj => ?_) h3
      by_cases hji : i = j
      · subst hji
        have hsz2 := inv.size
        simp [hl, hj, hsz2, hlt]
      · rw [getD_set_ne true hji, getD_set_ne true hji, he j hj]

def lastB (md : Region.Mode) (ops : Array Oper) (n : Nat) : Bool := decide (ops.size = n + 1) && (ascB md ops && (Region.sinkB md ops n && Region.chainB md ops n))

/-- THE MOVE: the region without its last operation, the loads held by S; then that operation. -/
theorem wp_region_last {S : World → Prop} {id : Nat} {a : Act} {w : World} {l : List Oper} {x : Oper} (n : Nat) (hm : P.follows .mixedOrders = true) (hx : l[n]? = some x) (hB : lastB .any l.toArray n = true)
    (hS : S w.drew) (h : S w.drew → wpAnyH P .any (l.take n).toArray (lastQ P x Q) S n (Array.replicate n false) a w.drew) : (Code.region id l.toArray true).wp P Q a w := by
  simp only [lastB, Bool.and_eq_true, decide_eq_true_eq] at hB
  obtain ⟨hsz, ha, hs, hc⟩ := hB
  have hl : l.length = n + 1 := by simpa using hsz
  refine wp_region_any hm ?_
  rw [hsz]
  have H := wpAny_of_held _ _ _ _ (h hS)
  refine wpAny_last (n := n) (x := x) (by simpa using hx) hsz ha hs hc (ops' := (l.take n).toArray) (by simp; omega) (fun i hi => by simp [hi]) n _ (Array.replicate n false) a _ ?_ (by simp) (fun i hi => by simp [hi, Nat.lt_succ_of_lt hi]) H
  exact ⟨by simp [hl], fun j oj _ hl2 => (by rw [getD_replicate_false] at hl2; cases hl2), fun t _ ht => getD_in (by simpa [hl] using ht) (getD_replicate_false _ _)⟩
end
end Go.Proofs.Ytjndopmjlbhajaa
