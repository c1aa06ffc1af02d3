/- Sound trees: plain. No condition. -/
import Derived.Test.YtdakohbfibcjeaaOrd
import Derived.Test.YtdakohbfibcjeaaPut
namespace Go.Proofs.Ytdakohbfibcjeaa
set_option linter.unusedSimpArgs false
set_option linter.unusedVariables false

def LeafOk (es : List Ent) : Prop := es ≠ [] ∧ (∀ e ∈ es, okE e) ∧ es.Pairwise (fun a b => ky a.1 b.1)
def Fat (T : Nodes) (n : Nat) : Prop := ∃ nd, T n = some nd ∧ 61 ≤ sizeN nd
def Apart (cs : List Kd) : Prop := cs.Pairwise (fun c d => ∀ e ∈ c.es, ky e.1 d.key)
/-- a sound tree of so many levels below the first: its root, the key that stands beside it, its entries, its blocks -/
def Sd (N : Nat) (T : Nodes) : Nat → Nat → ByteArray → List Ent → List Nat → Prop
  | 0, r, lo, es, bl => (50 ≤ r ∧ r < 50 + N) ∧ (∀ e ∈ es, kye lo e.1) ∧ T r = some (leafOf es) ∧ LeafOk es ∧ sizeN (leafOf es) ≤ 240 ∧ bl = [r]
  | h + 1, r, lo, es, bl => (50 ≤ r ∧ r < 50 + N) ∧ ∃ cs : List Kd, T r = some (innerOf cs) ∧ sizeN (innerOf cs) ≤ 240 ∧ 2 ≤ cs.length ∧ (∀ c ∈ cs, Sd N T h c.n c.key c.es c.bl ∧ Fat T c.n ∧ c.key.size ≤ 24) ∧ Apart cs ∧ (∃ c cs', cs = c :: cs' ∧ c.key = lo) ∧ es = cs.flatMap (·.es) ∧ bl = r :: cs.flatMap (·.bl)
theorem sd_r {N : Nat} {T : Nodes} : ∀ {h r : Nat} {lo : ByteArray} {es : List Ent} {bl : List Nat}, Sd N T h r lo es bl → (50 ≤ r ∧ r < 50 + N) ∧ r ∈ bl
  | 0, _, _, _, _, ⟨h, _, _, _, _, e⟩ => ⟨h, by rw [e]; exact List.mem_cons_self⟩
  | _ + 1, _, _, _, _, ⟨h, _, _, _, _, _, _, _, _, e⟩ => ⟨h, by rw [e]; exact List.mem_cons_self⟩
theorem fat_keep {T T' : Nodes} {n : Nat} (h : Fat T n) (e : T' n = T n) : Fat T' n := by
  obtain ⟨nd, h1, h2⟩ := h
  exact ⟨nd, e.trans h1, h2⟩
theorem sd_keep {N : Nat} {T T' : Nodes} : ∀ {h r : Nat} {lo : ByteArray} {es : List Ent} {bl : List Nat}, Sd N T h r lo es bl → (∀ n ∈ bl, T' n = T n) → Sd N T' h r lo es bl
  | 0, _, _, _, _, ⟨h, h1, h2, h3, h4, e⟩, k => ⟨h, h1, (k _ (by rw [e]; exact List.mem_cons_self)).trans h2, h3, h4, e⟩
  | h + 1, r, _, _, _, ⟨h0, cs, h1, h2, h3, h4, h5, h6, h7, e⟩, k => by
    refine ⟨h0, cs, (k _ (by rw [e]; exact List.mem_cons_self)).trans h1, h2, h3, fun c hc => ?_, h5, h6, h7, e⟩
    obtain ⟨a, b, d⟩ := h4 c hc
    have k2 : ∀ n ∈ c.bl, T' n = T n := fun n hn => k n (by rw [e]; exact List.mem_cons_of_mem _ (List.mem_flatMap.2 ⟨c, hc, hn⟩))
    exact ⟨sd_keep a k2, fat_keep b (k2 _ (sd_r a).2), d⟩
theorem sd_some {N : Nat} {T : Nodes} : ∀ {h r : Nat} {lo : ByteArray} {es : List Ent} {bl : List Nat}, Sd N T h r lo es bl → ∀ n ∈ bl, T n ≠ none
  | 0, r, _, _, _, ⟨h, h1, h2, h3, h4, e⟩, n, hn => by
    rw [e] at hn; obtain rfl := List.mem_singleton.1 hn; rw [h2]; simp
  | h + 1, r, _, _, _, ⟨h0, cs, h1, h2, h3, h4, h5, h6, h7, e⟩, n, hn => by
    rw [e] at hn
    rcases List.mem_cons.1 hn with rfl | hn
    · rw [h1]; simp
    · obtain ⟨c, hc, hn⟩ := List.mem_flatMap.1 hn
      exact sd_some (h4 c hc).1 n hn
theorem sum_flat {α β : Type} (f : α → List β) (g : α → Nat) (k : Nat) : ∀ (cs : List α), (∀ c ∈ cs, g c ≤ k * (f c).length) → (cs.map g).sum ≤ k * (cs.flatMap f).length
  | [], _ => by simp
  | c :: cs, h => by
    have h1 := h c List.mem_cons_self
    have h2 := sum_flat f g k cs (fun x hx => h x (List.mem_cons_of_mem _ hx))
    simp only [List.map_cons, List.sum_cons, List.flatMap_cons, List.length_append, Nat.mul_add]; omega
theorem sd_len {N : Nat} {T : Nodes} : ∀ {h r : Nat} {lo : ByteArray} {es : List Ent} {bl : List Nat}, Sd N T h r lo es bl → 2 ^ h ≤ es.length
  | 0, r, _, _, _, ⟨h, h1, h2, h3, h4, e⟩ => List.length_pos_iff.2 h3.1
  | h + 1, r, _, _, _, ⟨h0, cs, h1, h2, h3, h4, h5, h6, h7, e⟩ => by
    have a := sum_flat (fun c : Kd => c.es) (fun _ => 2 ^ h) 1 cs (fun c hc => by have := sd_len (h4 c hc).1; omega)
    have b := le_sum (fun _ : Kd => 2 ^ h) (2 ^ h) cs (fun _ _ => Nat.le_refl _)
    have c : 2 ^ h * 2 ≤ 2 ^ h * cs.length := Nat.mul_le_mul_left _ h3
    rw [h7, Nat.pow_succ]
    have d : (cs.flatMap (fun c : Kd => c.es)).length = (cs.flatMap (·.es)).length := rfl
    omega
theorem sd_pos {N : Nat} {T : Nodes} {h r : Nat} {lo : ByteArray} {es : List Ent} {bl : List Nat} (s : Sd N T h r lo es bl) : ∃ e, e ∈ es := by
  have := sd_len s
  have h2 : 0 < 2 ^ h := Nat.two_pow_pos h
  exact List.exists_mem_of_length_pos (by omega)
theorem kids_lo {N : Nat} {T : Nodes} {h : Nat} {c : Kd} {cs : List Kd} (hk : ∀ d ∈ c :: cs, Sd N T h d.n d.key d.es d.bl) (hl : ∀ d ∈ c :: cs, ∀ e ∈ d.es, kye d.key e.1) (ha : Apart (c :: cs)) : ∀ e ∈ (c :: cs).flatMap (·.es), kye c.key e.1 := by
  intro e he0
  obtain ⟨d, hd, he⟩ := List.mem_flatMap.1 he0
  clear he0
  rcases List.mem_cons.1 hd with rfl | hd'
  · exact hl _ List.mem_cons_self e he
  · obtain ⟨e0, h0⟩ := sd_pos (hk c List.mem_cons_self)
    have := (List.pairwise_cons.1 ha).1 d hd' e0 h0
    exact kye_trans (hl c List.mem_cons_self e0 h0) (kye_trans (ky_le this) (hl d hd e he))
theorem sd_lo {N : Nat} {T : Nodes} : ∀ {h r : Nat} {lo : ByteArray} {es : List Ent} {bl : List Nat}, Sd N T h r lo es bl → ∀ e ∈ es, kye lo e.1
  | 0, r, _, _, _, ⟨h, h1, h2, h3, h4, e⟩ => h1
  | h + 1, r, _, _, _, ⟨h0, cs, h1, h2, h3, h4, h5, h6, h7, e⟩ => by
    obtain ⟨c, cs', rfl, rfl⟩ := h6
    rw [h7]
    exact kids_lo (fun d hd => (h4 d hd).1) (fun d hd => sd_lo (h4 d hd).1) h5
theorem kids_rise {N : Nat} {T : Nodes} {h : Nat} : ∀ {cs : List Kd}, (∀ d ∈ cs, Sd N T h d.n d.key d.es d.bl) → Apart cs → cs.Pairwise (fun a b => ky a.key b.key)
  | [], _, _ => List.Pairwise.nil
  | c :: cs, hk, ha => by
    obtain ⟨a1, a2⟩ := List.pairwise_cons.1 ha
    refine List.pairwise_cons.2 ⟨fun d hd => ?_, kids_rise (fun d hd => hk d (List.mem_cons_of_mem _ hd)) a2⟩
    obtain ⟨e0, h0⟩ := sd_pos (hk c List.mem_cons_self)
    exact kye_ky (sd_lo (hk c List.mem_cons_self) e0 h0) (a1 d hd e0 h0)
theorem sd_okE {N : Nat} {T : Nodes} : ∀ {h r : Nat} {lo : ByteArray} {es : List Ent} {bl : List Nat}, Sd N T h r lo es bl → ∀ e ∈ es, okE e
  | 0, r, _, _, _, ⟨h, h1, h2, h3, h4, e⟩ => h3.2.1
  | h + 1, r, _, _, _, ⟨h0, cs, h1, h2, h3, h4, h5, h6, h7, e⟩ => by
    intro e he
    rw [h7] at he
    obtain ⟨c, hc, he⟩ := List.mem_flatMap.1 he
    exact sd_okE (h4 c hc).1 e he
theorem flat_pw {N : Nat} {T : Nodes} {h : Nat} : ∀ {cs : List Kd}, (∀ d ∈ cs, Sd N T h d.n d.key d.es d.bl ∧ d.es.Pairwise (fun a b => ky a.1 b.1)) → Apart cs → (cs.flatMap (·.es)).Pairwise (fun a b => ky a.1 b.1)
  | [], _, _ => List.Pairwise.nil
  | c :: cs, hk, ha => by
    obtain ⟨a1, a2⟩ := List.pairwise_cons.1 ha
    rw [List.flatMap_cons]
    refine List.pairwise_append.2 ⟨(hk c List.mem_cons_self).2, flat_pw (fun d hd => hk d (List.mem_cons_of_mem _ hd)) a2, fun x hx y hy => ?_⟩
    obtain ⟨d, hd, hy⟩ := List.mem_flatMap.1 hy
    exact ky_kye (a1 d hd x hx) (sd_lo (hk d (List.mem_cons_of_mem _ hd)).1 y hy)
theorem sd_pw {N : Nat} {T : Nodes} : ∀ {h r : Nat} {lo : ByteArray} {es : List Ent} {bl : List Nat}, Sd N T h r lo es bl → es.Pairwise (fun a b => ky a.1 b.1)
  | 0, r, _, _, _, ⟨h, h1, h2, h3, h4, e⟩ => h3.2.2
  | h + 1, r, _, _, _, ⟨h0, cs, h1, h2, h3, h4, h5, h6, h7, e⟩ => by
    rw [h7]
    exact flat_pw (fun d hd => ⟨(h4 d hd).1, sd_pw (h4 d hd).1⟩) h5
theorem wL_le {e : Ent} (h : okE e) : wL e ≤ 50 := by obtain ⟨_, h1, h2⟩ := h; unfold wL; omega
theorem fat_leaf {T : Nodes} {r : Nat} {es : List Ent} (hT : T r = some (leafOf es)) (h : Fat T r) (ho : ∀ e ∈ es, okE e) : 2 ≤ es.length := by
  obtain ⟨nd, h1, h2⟩ := h
  rw [hT] at h1; cases h1
  rw [size_leaf] at h2
  have := sum_le wL 50 es (fun e he => wL_le (ho e he))
  omega
theorem flat_bl {N : Nat} {T : Nodes} {h : Nat} : ∀ (cs : List Kd), (∀ c ∈ cs, c.bl.length + 1 ≤ c.es.length) → (cs.flatMap (·.bl)).length + cs.length ≤ (cs.flatMap (·.es)).length
  | [], _ => by simp
  | c :: cs, hk => by
    have h1 := hk c List.mem_cons_self
    have h2 := flat_bl (N := N) (T := T) (h := h) cs (fun d hd => hk d (List.mem_cons_of_mem _ hd))
    simp only [List.flatMap_cons, List.length_append, List.length_cons]; omega
theorem sd_bl {N : Nat} {T : Nodes} : ∀ {h r : Nat} {lo : ByteArray} {es : List Ent} {bl : List Nat}, Sd N T h r lo es bl → bl.length ≤ es.length ∧ (Fat T r → bl.length + 1 ≤ es.length)
  | 0, r, _, _, _, ⟨h, h1, h2, h3, h4, e⟩ => by
    have := List.length_pos_iff.2 h3.1
    rw [e]
    exact ⟨this, fun hf => fat_leaf h2 hf h3.2.1⟩
  | h + 1, r, _, _, _, ⟨h0, cs, h1, h2, h3, h4, h5, h6, h7, e⟩ => by
    have := flat_bl (N := N) (T := T) (h := h) cs (fun c hc => (sd_bl (h4 c hc).1).2 (h4 c hc).2.1)
    rw [e, h7, List.length_cons]
    exact ⟨by omega, fun _ => by omega⟩
/-- of a great inner node: three kids at least -/
theorem fat_inner {T : Nodes} {r : Nat} {cs : List Kd} (hT : 61 ≤ sizeN (innerOf cs)) (ho : ∀ c ∈ cs, c.key.size ≤ 24) : 2 ≤ cs.length := by
  rw [size_inner] at hT
  have := sum_le wI 27 cs (fun e he => by have := ho e he; unfold wI; omega)
  omega
/-- where a key goes -/
theorem placeTo_spec (s : Nd) (key : ByteArray) : ∀ k, 0 < k → placeTo s key k < k ∧ (∀ j, placeTo s key k < j → j < k → ky key (kAt s j)) ∧ (placeTo s key k = 0 ∨ kye (kAt s (placeTo s key k)) key)
  | 0, h => absurd h (by omega)
  | k + 1, _ => by
    unfold placeTo
    split
    · rename_i hc
      refine ⟨by omega, fun j h1 h2 => by omega, .inr ?_⟩
      rcases Bool.or_eq_true _ _ ▸ hc with hc | hc
      · exact ky_le hc
      · rw [toList_inj] at hc
        have := of_decide_eq_true hc
        rw [this]; exact kye_refl _
    · rename_i hc
      have hc2 := Bool.or_eq_false_iff.1 (Bool.eq_false_iff.2 hc)
      have hne : key ≠ kAt s k := fun e => by
        have := hc2.2
        rw [← e] at this
        simp at this
      have hk : ky key (kAt s k) := by
        refine kye_ne ?_ hne
        exact fun x => by have := hc2.1; rw [show Op.bytesLess (kAt s k).toList key.toList = true from x] at this; cases this
      cases k with
      | zero => exact ⟨by simp [placeTo], fun j h1 h2 => by have : j = 0 := by omega
                                                            subst this; exact hk, .inl rfl⟩
      | succ k =>
        obtain ⟨i1, i2, i3⟩ := placeTo_spec s key (k + 1) (by omega)
        refine ⟨by omega, fun j h1 h2 => ?_, i3⟩
        by_cases e : j = k + 1
        · subst e; exact hk
        · exact i2 j h1 (by omega)
theorem placeL_spec (s : Nd) (key : ByteArray) : ∀ k, placeL s key k ≤ k ∧ (∀ j, placeL s key k ≤ j → j < k → kye key (kAt s j)) ∧ (placeL s key k = 0 ∨ ky (kAt s (placeL s key k - 1)) key)
  | 0 => ⟨Nat.le_refl _, fun j _ h => absurd h (by omega), .inl rfl⟩
  | k + 1 => by
    unfold placeL
    split
    · rename_i hc
      exact ⟨Nat.le_refl _, fun j h1 h2 => by omega, .inr (by rw [Nat.add_sub_cancel]; exact hc)⟩
    · rename_i hc
      obtain ⟨i1, i2, i3⟩ := placeL_spec s key k
      refine ⟨by omega, fun j h1 h2 => ?_, i3⟩
      by_cases e : j = k
      · subst e; exact hc
      · exact i2 j h1 (by omega)
end Go.Proofs.Ytdakohbfibcjeaa
namespace Go.Proofs.Ytdakohbfibcjeaa
set_option linter.unusedSimpArgs false
set_option linter.unusedVariables false

theorem sm_of (s : Nd) (hk : ∀ k ∈ s.keys, k.size ≤ 24) (hv : ∀ k ∈ s.vals, k.size ≤ 24) : NdSm s := by
  have a : ∀ (l : List ByteArray), (∀ k ∈ l, k.size ≤ 24) → ∀ i, (l.getD i .empty).size ≤ 140737488355328 := fun l h i => by
    by_cases hi : i < l.length
    · have := h _ (getD_mem (d := .empty) hi); omega
    · rw [List.getD_eq_getElem?_getD, List.getElem?_eq_none (by omega)]; exact Nat.zero_le _
  exact ⟨a _ hk, a _ hv⟩
theorem leaf_split {es : List Ent} {p q : Nd} (h2 : sizeN (leafOf es) ≤ 292) (ho : ∀ e ∈ es, okE e) (h1 : 240 < sizeN (leafOf es)) (hs : SplitN (leafOf es) p q) :
    ∃ m, 1 ≤ m ∧ m < es.length ∧ p = leafOf (es.take m) ∧ q = leafOf (es.drop m) ∧ 61 ≤ sizeN p ∧ sizeN p ≤ 240 ∧ 61 ≤ sizeN q ∧ sizeN q ≤ 240 := by
  have hk : (leafOf es).keys.length = es.length := by simp [leafOf]
  obtain ⟨m, m1, m2, rfl, rfl, z⟩ := split_sizes (fun i hi => by rw [hk] at hi; rw [each_leaf es i hi]; exact wL_le (ho _ (List.getElem_mem _))) (lens_leaf es) h1 h2 hs
  rw [hk] at m2 z ⊢
  rw [part_leaf, part_leaf] at z ⊢
  rw [List.take_of_length_le (Nat.le_refl _), List.drop_zero] at z ⊢
  exact ⟨m, m1, m2, rfl, rfl, z⟩
theorem inner_split {cs : List Kd} {p q : Nd} (h2 : sizeN (innerOf cs) ≤ 292) (ho : ∀ c ∈ cs, c.key.size ≤ 24) (h1 : 240 < sizeN (innerOf cs)) (hs : SplitN (innerOf cs) p q) :
    ∃ m, 1 ≤ m ∧ m < cs.length ∧ p = innerOf (cs.take m) ∧ q = innerOf (cs.drop m) ∧ 61 ≤ sizeN p ∧ sizeN p ≤ 240 ∧ 61 ≤ sizeN q ∧ sizeN q ≤ 240 := by
  have hk : (innerOf cs).keys.length = cs.length := by simp [innerOf]
  obtain ⟨m, m1, m2, rfl, rfl, z⟩ := split_sizes (fun i hi => by rw [hk] at hi; rw [each_inner cs i hi]; have := ho _ (List.getElem_mem hi); unfold wI; omega) (lens_inner cs) h1 h2 hs
  rw [hk] at m2 z ⊢
  rw [part_inner, part_inner] at z ⊢
  rw [List.take_of_length_le (Nat.le_refl _), List.drop_zero] at z ⊢
  exact ⟨m, m1, m2, rfl, rfl, z⟩
theorem ne_take {α : Type} {l : List α} {m : Nat} (h1 : 1 ≤ m) (h2 : m < l.length) : l.take m ≠ [] ∧ l.drop m ≠ [] := by
  constructor
  · intro e; have := congrArg List.length e; rw [List.length_take, List.length_nil] at this; omega
  · intro e; have := congrArg List.length e; rw [List.length_drop, List.length_nil] at this; omega
theorem ok_leaf {es : List Ent} (h : LeafOk es) (h2 : sizeN (leafOf es) ≤ 292) : SaveOk (leafOf es) := by
  obtain ⟨h1, h3, h4⟩ := h
  have hk : (leafOf es).keys.length = es.length := by simp [leafOf]
  have hv : (leafOf es).vals.length = es.length := by simp [leafOf]
  have hlen : 2 * es.length ≤ 291 := by
    rw [size_leaf] at h2
    have := le_sum wL 2 es (fun e _ => by unfold wL; omega)
    omega
  have hup : sizeN (leafOf es) ≤ 1 + 50 * es.length := by
    rw [size_leaf]
    have := sum_le wL 50 es (fun e he => wL_le (h3 e he))
    omega
  rw [SaveOk, szV_small (by omega)]
  refine ⟨fun hz => may_leaf h1 (by omega) h3 h4, fun hz => ⟨by omega, fun a b hs => ?_⟩, by omega, by omega, Nat.zero_le _, sm_of _ (fun k hk => ?_) (fun k hk => ?_)⟩
  · obtain ⟨m, m1, m2, rfl, rfl, z1, z2, z3, z4⟩ := leaf_split h2 h3 (by omega) hs
    obtain ⟨t1, t2⟩ := ne_take m1 m2
    refine ⟨may_leaf t1 z2 (fun e he => h3 e (List.mem_of_mem_take he)) (h4.sublist (List.take_sublist _ _)), may_leaf t2 z4 (fun e he => h3 e (List.mem_of_mem_drop he)) (h4.sublist (List.drop_sublist _ _)), ?_, ?_⟩
    · simp [leafOf]; omega
    · simp [leafOf]; omega
  · obtain ⟨e, he, rfl⟩ := List.mem_map.1 hk; exact (h3 e he).2.1
  · obtain ⟨e, he, rfl⟩ := List.mem_map.1 hk; exact (h3 e he).2.2
theorem ok_inner {cs : List Kd} (h1 : cs ≠ []) (h3 : ∀ c ∈ cs, okK c) (h4 : cs.Pairwise (fun a b => ky a.key b.key)) (h2 : sizeN (innerOf cs) ≤ 292) : SaveOk (innerOf cs) := by
  have hk : (innerOf cs).keys.length = cs.length := by simp [innerOf]
  have hv : (innerOf cs).kids.length = cs.length := by simp [innerOf]
  have hlen : 3 * cs.length ≤ 291 := by
    rw [size_inner] at h2
    have := le_sum wI 3 cs (fun e _ => by unfold wI; omega)
    omega
  have hup : sizeN (innerOf cs) ≤ 1 + 27 * cs.length := by
    rw [size_inner]
    have := sum_le wI 27 cs (fun e he => by have := (h3 e he).1; unfold wI; omega)
    omega
  rw [SaveOk, szV_small (by omega)]
  refine ⟨fun hz => may_inner h1 (by omega) h3 h4, fun hz => ⟨by omega, fun a b hs => ?_⟩, by omega, Nat.zero_le _, by omega, sm_of _ (fun k hk => ?_) (fun k hk => ?_)⟩
  · obtain ⟨m, m1, m2, rfl, rfl, z1, z2, z3, z4⟩ := inner_split h2 (fun c hc => (h3 c hc).1) (by omega) hs
    obtain ⟨t1, t2⟩ := ne_take m1 m2
    refine ⟨may_inner t1 z2 (fun e he => h3 e (List.mem_of_mem_take he)) (h4.sublist (List.take_sublist _ _)), may_inner t2 z4 (fun e he => h3 e (List.mem_of_mem_drop he)) (h4.sublist (List.drop_sublist _ _)), ?_, ?_⟩
    · simp [innerOf]; omega
    · simp [innerOf]; omega
  · obtain ⟨e, he, rfl⟩ := List.mem_map.1 hk; exact (h3 e he).1
  · cases hk
theorem fresh_two {T : Nodes} {n1 n2 : Nat} {a : Nd} (h : updT T n1 (some a) n2 = none) : n1 ≠ n2 ∧ T n2 = none := by
  have hne : n2 ≠ n1 := fun e => by rw [e] at h; rw [show updT T n1 (some a) n1 = some a from if_pos rfl] at h; cases h
  exact ⟨fun e => hne e.symm, by rw [← h]; exact (if_neg hne).symm⟩
/-- a leaf in one block, or in two -/
theorem saved_leaf {N : Nat} {T T1 : Nodes} {es : List Ent} {lo : ByteArray} {l : List (ByteArray × Nat)} (h : SavedN N T (leafOf es) lo l T1) (ok : LeafOk es) (h2 : sizeN (leafOf es) ≤ 292) :
    (sizeN (leafOf es) ≤ 240 ∧ ∃ n, (50 ≤ n ∧ n < 50 + N) ∧ T n = none ∧ l = [(lo, n)] ∧ T1 = updT T n (some (leafOf es))) ∨
    ∃ a e b n1 n2, es = a ++ e :: b ∧ a ≠ [] ∧ 61 ≤ sizeN (leafOf a) ∧ sizeN (leafOf a) ≤ 240 ∧ 61 ≤ sizeN (leafOf (e :: b)) ∧ sizeN (leafOf (e :: b)) ≤ 240 ∧ (50 ≤ n1 ∧ n1 < 50 + N) ∧ (50 ≤ n2 ∧ n2 < 50 + N) ∧ T n1 = none ∧ T n2 = none ∧ n1 ≠ n2 ∧
      l = [(lo, n1), (e.1, n2)] ∧ T1 = updT (updT T n1 (some (leafOf a))) n2 (some (leafOf (e :: b))) := by
  rcases h with ⟨hz, n, a1, a2, a3, rfl, rfl⟩ | ⟨hz, p, q, n1, n2, hs, a1, a2, a3, a4, a5, a6, rfl, rfl⟩
  · rw [szV_small (by omega)] at hz
    exact .inl ⟨by omega, n, ⟨a1, a2⟩, a3, rfl, rfl⟩
  · rw [szV_small (by omega)] at hz
    obtain ⟨m, m1, m2, rfl, rfl, z1, z2, z3, z4⟩ := leaf_split h2 ok.2.1 (by omega) hs
    obtain ⟨t1, t2⟩ := ne_take m1 m2
    obtain ⟨b1, b2⟩ := fresh_two a6
    have e0 : es = es.take m ++ es.drop m := (List.take_append_drop m es).symm
    generalize es.take m = A at *
    generalize es.drop m = B at *
    cases B with
    | nil => exact absurd rfl t2
    | cons e b => exact .inr ⟨A, e, b, n1, n2, e0, t1, z1, z2, z3, z4, ⟨a1, a2⟩, ⟨a3, a4⟩, a5, b2, b1, rfl, rfl⟩
theorem saved_inner {N : Nat} {T T1 : Nodes} {cs : List Kd} {lo : ByteArray} {l : List (ByteArray × Nat)} (h : SavedN N T (innerOf cs) lo l T1) (ok : ∀ c ∈ cs, c.key.size ≤ 24) (h2 : sizeN (innerOf cs) ≤ 292) :
    (sizeN (innerOf cs) ≤ 240 ∧ ∃ n, (50 ≤ n ∧ n < 50 + N) ∧ T n = none ∧ l = [(lo, n)] ∧ T1 = updT T n (some (innerOf cs))) ∨
    ∃ a e b n1 n2, cs = a ++ e :: b ∧ a ≠ [] ∧ 61 ≤ sizeN (innerOf a) ∧ sizeN (innerOf a) ≤ 240 ∧ 61 ≤ sizeN (innerOf (e :: b)) ∧ sizeN (innerOf (e :: b)) ≤ 240 ∧ (50 ≤ n1 ∧ n1 < 50 + N) ∧ (50 ≤ n2 ∧ n2 < 50 + N) ∧ T n1 = none ∧ T n2 = none ∧ n1 ≠ n2 ∧
      l = [(lo, n1), (e.key, n2)] ∧ T1 = updT (updT T n1 (some (innerOf a))) n2 (some (innerOf (e :: b))) := by
  rcases h with ⟨hz, n, a1, a2, a3, rfl, rfl⟩ | ⟨hz, p, q, n1, n2, hs, a1, a2, a3, a4, a5, a6, rfl, rfl⟩
  · rw [szV_small (by omega)] at hz
    exact .inl ⟨by omega, n, ⟨a1, a2⟩, a3, rfl, rfl⟩
  · rw [szV_small (by omega)] at hz
    obtain ⟨m, m1, m2, rfl, rfl, z1, z2, z3, z4⟩ := inner_split h2 ok (by omega) hs
    obtain ⟨t1, t2⟩ := ne_take m1 m2
    obtain ⟨b1, b2⟩ := fresh_two a6
    have e0 : cs = cs.take m ++ cs.drop m := (List.take_append_drop m cs).symm
    generalize cs.take m = A at *
    generalize cs.drop m = B at *
    cases B with
    | nil => exact absurd rfl t2
    | cons e b => exact .inr ⟨A, e, b, n1, n2, e0, t1, z1, z2, z3, z4, ⟨a1, a2⟩, ⟨a3, a4⟩, a5, b2, b1, rfl, rfl⟩
/-- an entry more in a leaf -/
theorem leaf_ins {es : List Ent} {key val : ByteArray} (h : LeafOk es) (hx : okE (key, val)) (hne : ∀ e ∈ es, e.1 ≠ key) :
    ∃ at_, at_ = placeL (leafOf es) key es.length ∧ at_ ≤ es.length ∧ (at_ < es.length → kAt (leafOf es) at_ ≠ key) ∧
      insN (leafOf es) at_ key val = leafOf (es.take at_ ++ (key, val) :: es.drop at_) ∧ LeafOk (es.take at_ ++ (key, val) :: es.drop at_) ∧ sizeN (leafOf (es.take at_ ++ (key, val) :: es.drop at_)) = sizeN (leafOf es) + wL (key, val) ∧ (es.take at_ ++ (key, val) :: es.drop at_).Perm ((key, val) :: es) := by
  obtain ⟨h1, h3, h4⟩ := h
  obtain ⟨s1, s2, s3⟩ := placeL_spec (leafOf es) key es.length
  have hkA : ∀ i (hi : i < es.length), kAt (leafOf es) i = es[i].1 := fun i hi => by
    unfold kAt leafOf; rw [List.getD_eq_getElem?_getD, List.getElem?_map, List.getElem?_eq_getElem hi]; rfl
  have hp : (es.take (placeL (leafOf es) key es.length) ++ (key, val) :: es.drop (placeL (leafOf es) key es.length)).Perm ((key, val) :: es) := by
    have := List.perm_middle (a := (key, val)) (l₁ := es.take (placeL (leafOf es) key es.length)) (l₂ := es.drop (placeL (leafOf es) key es.length))
    rwa [List.take_append_drop] at this
  generalize placeL (leafOf es) key es.length = at_ at *
  refine ⟨at_, rfl, s1, fun hi => ?_, ?_, ⟨by simp, fun e he => ?_, ?_⟩, ?_, hp⟩
  · rw [hkA _ hi]; exact hne _ (List.getElem_mem _)
  · simp [insN, leafOf, List.map_take, List.map_drop]
  · rcases List.mem_cons.1 (hp.mem_iff.1 he) with rfl | he
    · exact hx
    · exact h3 e he
  · have hpw := List.pairwise_iff_getElem.1 h4
    have hlow : ∀ e ∈ es.take at_, ky e.1 key := fun e he => by
      obtain ⟨i, hi, rfl⟩ := List.mem_iff_getElem.1 he
      rw [List.length_take] at hi
      rw [List.getElem_take]
      rcases s3 with s3 | s3
      · omega
      · rw [hkA _ (by omega)] at s3
        by_cases e : i = at_ - 1
        · subst e; exact s3
        · exact ky_trans (hpw i (at_ - 1) (by omega) (by omega) (by omega)) s3
    have hhigh : ∀ e ∈ es.drop at_, ky key e.1 := fun e he => by
      obtain ⟨i, hi, rfl⟩ := List.mem_iff_getElem.1 he
      rw [List.length_drop] at hi
      rw [List.getElem_drop]
      have := s2 (at_ + i) (by omega) (by omega)
      rw [hkA _ (by omega)] at this
      exact kye_ne this (fun e => hne _ (List.getElem_mem _) e.symm)
    refine List.pairwise_append.2 ⟨h4.sublist (List.take_sublist _ _), List.pairwise_cons.2 ⟨hhigh, h4.sublist (List.drop_sublist _ _)⟩, fun a ha b hb => ?_⟩
    rcases List.mem_cons.1 hb with rfl | hb
    · exact hlow a ha
    · exact ky_trans (hlow a ha) (hhigh b hb)
  · rw [size_leaf, size_leaf, (hp.map wL).sum_nat, List.map_cons, List.sum_cons]; omega
end Go.Proofs.Ytdakohbfibcjeaa
namespace Go.Proofs.Ytdakohbfibcjeaa
set_option linter.unusedSimpArgs false
set_option linter.unusedVariables false

/-- what change makes of a sound tree -/
def Chg (N : Nat) (T T' : Nodes) (h r : Nat) (lo : ByteArray) (es : List Ent) (bl : List Nat) (x : Ent) (R : Nat) (l : List (ByteArray × Nat)) : Prop :=
  ∃ cs : List Kd, l = cs.map (fun c => (c.key, c.n)) ∧ cs.length ≤ 2 ∧ (∀ c ∈ cs, Sd N T' h c.n c.key c.es c.bl ∧ c.key.size ≤ 24) ∧ Apart cs ∧ (∃ c cs', cs = c :: cs' ∧ c.key = lo) ∧
    (cs.flatMap (·.es)).Perm (x :: es) ∧ (cs.flatMap (·.bl)).Nodup ∧ (∀ n ∈ cs.flatMap (·.bl), n ∈ bl ∨ T n = none) ∧ (∀ n, n ∉ bl → T n ≠ none → T' n = T n) ∧ (cs.length = 2 ∨ Fat T r → ∀ c ∈ cs, Fat T' c.n) ∧
    ∃ R', Room N T' R' ∧ R' + (cs.flatMap (·.bl)).length = R + bl.length ∧ R ≤ R' + h + 1
theorem upd_self (T : Nodes) (n : Nat) (x : Option Nd) : updT T n x n = x := if_pos rfl
theorem upd_ne (T : Nodes) {n j : Nat} (x : Option Nd) (h : j ≠ n) : updT T n x j = T j := if_neg h
theorem size_app_leaf (a b : List Ent) : sizeN (leafOf (a ++ b)) + 1 = sizeN (leafOf a) + sizeN (leafOf b) := by
  simp only [size_leaf, List.map_append, List.sum_append]; omega
theorem size_app_inner (a b : List Kd) : sizeN (innerOf (a ++ b)) + 1 = sizeN (innerOf a) + sizeN (innerOf b) := by
  simp only [size_inner, List.map_append, List.sum_append]; omega
theorem chg_leaf {N : Nat} {key val : ByteArray} (hx : okE (key, val)) {T : Nodes} {r : Nat} {lo : ByteArray} {es : List Ent} {bl : List Nat} {R : Nat} (hs : Sd N T 0 r lo es bl) (hls : lo.size ≤ 24) (hnd : bl.Nodup) (hne : ∀ e ∈ es, e.1 ≠ key) (hlo : kye lo key) (hR : Room N T R) (h2 : 0 + 2 ≤ R) :
    ChgP N key val 0 T r ∧ ∀ l T', ChgR N key val 0 T r lo l T' → Chg N T T' 0 r lo es bl (key, val) R l := by
  obtain ⟨hr, hl, hT, hok, hz, rfl⟩ := hs
  obtain ⟨at_, hat, ha1, ha2, hins, hok2, hz2, hp⟩ := leaf_ins hok hx hne
  have hk : (leafOf es).keys.length = es.length := by simp [leafOf]
  have hz3 : sizeN (leafOf (es.take at_ ++ (key, val) :: es.drop at_)) ≤ 292 := by have := wL_le hx; omega
  have hlen : 2 * es.length ≤ 291 := by
    rw [size_leaf] at hz
    have := le_sum wL 2 es (fun e _ => by unfold wL; omega)
    omega
  have hl2 : ∀ e ∈ es.take at_ ++ (key, val) :: es.drop at_, kye lo e.1 := fun e he => by
    rcases List.mem_cons.1 (hp.mem_iff.1 he) with rfl | he
    · exact hlo
    · exact hl e he
  refine ⟨⟨leafOf es, hT, rfl, by simp [leafOf], by omega, by rw [hk, ← hat]; exact ha1, by rw [hk, ← hat]; exact ha2, by rw [hk, ← hat, hins]; exact ok_leaf hok2 hz3, hR.mono (by omega)⟩, ?_⟩
  rintro l T' ⟨nd, T1, hnd1, hsv, rfl⟩
  rw [hT] at hnd1; cases hnd1
  rw [hk, ← hat, hins] at hsv
  generalize es.take at_ ++ (key, val) :: es.drop at_ = es' at *
  rcases saved_leaf hsv hok2 hz3 with ⟨hz4, n, hn, hTn, rfl, rfl⟩ | ⟨a, e, b, n1, n2, rfl, hane, f1, f2, f3, f4, hn1, hn2, hT1, hT2, hn12, rfl, rfl⟩
  · have hnr : n ≠ r := fun x => by rw [x, hT] at hTn; cases hTn
    have hTn' : updT (updT T n (some (leafOf es'))) r none n = some (leafOf es') := by rw [upd_ne _ _ hnr, upd_self]
    obtain ⟨R', rfl⟩ : ∃ R', R = R' + 1 := ⟨R - 1, by omega⟩
    have hrm : Room N (updT (updT T n (some (leafOf es'))) r none) (R' + 1) := (Room.save hR).gone hr (by rw [upd_ne _ _ (fun x => hnr x.symm), hT]; rfl)
    refine ⟨[⟨lo, n, es', [n]⟩], rfl, by simp, fun c hc => ?_, List.pairwise_singleton _ _, ⟨_, _, rfl, rfl⟩, by simpa using hp, by simp, fun j hj => ?_, fun j hj hj2 => ?_, fun hf c hc => ?_, R' + 1, hrm, by simp, by omega⟩
    · obtain rfl := List.mem_singleton.1 hc
      exact ⟨⟨hn, hl2, hTn', hok2, hz4, rfl⟩, hls⟩
    · obtain rfl : j = n := by simpa using hj
      exact .inr hTn
    · have h1 : j ≠ r := by simpa using hj
      have h2 : j ≠ n := fun x => by rw [x] at hj2; exact hj2 hTn
      rw [upd_ne _ _ h1, upd_ne _ _ h2]
    · obtain rfl := List.mem_singleton.1 hc
      rcases hf with hf | ⟨nd, hf1, hf2⟩
      · simp at hf
      · rw [hT] at hf1; cases hf1
        exact ⟨_, hTn', by omega⟩
  · have hnr1 : n1 ≠ r := fun x => by rw [x, hT] at hT1; cases hT1
    have hnr2 : n2 ≠ r := fun x => by rw [x, hT] at hT2; cases hT2
    have e1 : updT (updT (updT T n1 (some (leafOf a))) n2 (some (leafOf (e :: b)))) r none n1 = some (leafOf a) := by rw [upd_ne _ _ hnr1, upd_ne _ _ hn12, upd_self]
    have e2 : updT (updT (updT T n1 (some (leafOf a))) n2 (some (leafOf (e :: b)))) r none n2 = some (leafOf (e :: b)) := by rw [upd_ne _ _ hnr2, upd_self]
    obtain ⟨R', rfl⟩ : ∃ R', R = R' + 1 + 1 := ⟨R - 2, by omega⟩
    have hrm : Room N (updT (updT (updT T n1 (some (leafOf a))) n2 (some (leafOf (e :: b)))) r none) (R' + 1) := (Room.save (Room.save hR)).gone hr (by rw [upd_ne _ _ (fun x => hnr2 x.symm), upd_ne _ _ (fun x => hnr1 x.symm), hT]; rfl)
    obtain ⟨o1, o2, o3⟩ := hok2
    obtain ⟨p1, p2, p3⟩ := List.pairwise_append.1 o3
    obtain ⟨p4, p5⟩ := List.pairwise_cons.1 p2
    refine ⟨[⟨lo, n1, a, [n1]⟩, ⟨e.1, n2, e :: b, [n2]⟩], rfl, by simp, fun c hc => ?_, ?_, ⟨_, _, rfl, rfl⟩, by simpa using hp, by simpa using hn12, fun j hj => ?_, fun j hj hj2 => ?_, fun hf c hc => ?_, R' + 1, hrm, by simp, by omega⟩
    · rcases List.mem_cons.1 hc with rfl | hc
      · exact ⟨⟨hn1, fun x hx => hl2 x (List.mem_append_left _ hx), e1, ⟨hane, fun x hx => o2 x (List.mem_append_left _ hx), p1⟩, f2, rfl⟩, hls⟩
      · obtain rfl := List.mem_singleton.1 hc
        refine ⟨⟨hn2, fun x hx => ?_, e2, ⟨by simp, fun x hx => o2 x (List.mem_append_right _ hx), p2⟩, f4, rfl⟩, (o2 e (List.mem_append_right _ List.mem_cons_self)).2.1⟩
        rcases List.mem_cons.1 hx with rfl | hx
        · exact kye_refl _
        · exact ky_le (p4 x hx)
    · refine List.pairwise_cons.2 ⟨fun d hd => ?_, List.pairwise_singleton _ _⟩
      obtain rfl := List.mem_singleton.1 hd
      exact fun x hx => p3 x hx e List.mem_cons_self
    · have : j = n1 ∨ j = n2 := by simpa using hj
      rcases this with rfl | rfl
      · exact .inr hT1
      · exact .inr hT2
    · have h1 : j ≠ r := by simpa using hj
      have h2 : j ≠ n1 := fun x => by rw [x] at hj2; exact hj2 hT1
      have h3 : j ≠ n2 := fun x => by rw [x] at hj2; exact hj2 hT2
      rw [upd_ne _ _ h1, upd_ne _ _ h3, upd_ne _ _ h2]
    · rcases List.mem_cons.1 hc with rfl | hc
      · exact ⟨_, e1, f1⟩
      · obtain rfl := List.mem_singleton.1 hc
        exact ⟨_, e2, f3⟩
end Go.Proofs.Ytdakohbfibcjeaa
namespace Go.Proofs.Ytdakohbfibcjeaa
set_option linter.unusedSimpArgs false
set_option linter.unusedVariables false

def Row (N : Nat) (T : Nodes) (h : Nat) (cs : List Kd) : Prop := (∀ c ∈ cs, Sd N T h c.n c.key c.es c.bl ∧ Fat T c.n ∧ c.key.size ≤ 24) ∧ Apart cs
theorem Row.keep {N h : Nat} {T T' : Nodes} {cs : List Kd} (r : Row N T h cs) (k : ∀ n ∈ cs.flatMap (·.bl), T' n = T n) : Row N T' h cs := by
  refine ⟨fun c hc => ?_, r.2⟩
  obtain ⟨a, b, d⟩ := r.1 c hc
  have k2 : ∀ n ∈ c.bl, T' n = T n := fun n hn => k n (List.mem_flatMap.2 ⟨c, hc, hn⟩)
  exact ⟨sd_keep a k2, fat_keep b (k2 _ (sd_r a).2), d⟩
theorem Row.sub {N h : Nat} {T : Nodes} {cs ds : List Kd} (r : Row N T h cs) (k : ds.Sublist cs) : Row N T h ds := ⟨fun c hc => r.1 c (k.subset hc), r.2.sublist k⟩
theorem Row.sd {N h n : Nat} {T : Nodes} {lo : ByteArray} {c : Kd} {cs : List Kd} (r : Row N T h (c :: cs)) (hn : 50 ≤ n ∧ n < 50 + N) (hT : T n = some (innerOf (c :: cs))) (hz : sizeN (innerOf (c :: cs)) ≤ 240) (h2 : 2 ≤ (c :: cs).length) (hk : c.key = lo) :
    Sd N T (h + 1) n lo ((c :: cs).flatMap (·.es)) (n :: (c :: cs).flatMap (·.bl)) := ⟨hn, c :: cs, hT, hz, h2, r.1, r.2, ⟨c, cs, rfl, hk⟩, rfl, rfl⟩
theorem Row.some_ {N h : Nat} {T : Nodes} {cs : List Kd} (r : Row N T h cs) : ∀ n ∈ cs.flatMap (·.bl), T n ≠ none := fun n hn => by
  obtain ⟨c, hc, hn⟩ := List.mem_flatMap.1 hn
  exact sd_some (r.1 c hc).1 n hn
theorem sd_node {N : Nat} {T : Nodes} : ∀ {h r : Nat} {lo : ByteArray} {es : List Ent} {bl : List Nat}, Sd N T h r lo es bl → (h = 0 ∧ ∃ es, T r = some (leafOf es) ∧ sizeN (leafOf es) ≤ 240) ∨ (h ≠ 0 ∧ ∃ cs, T r = some (innerOf cs) ∧ sizeN (innerOf cs) ≤ 240)
  | 0, _, _, _, _, ⟨h, h1, h2, h3, h4, e⟩ => .inl ⟨rfl, _, h2, h4⟩
  | h + 1, r, _, _, _, ⟨h0, cs, h1, h2, h3, h4, h5, h6, h7, e⟩ => .inr ⟨by omega, cs, h1, h2⟩
theorem row_nojoin {N h : Nat} {T : Nodes} {cs : List Kd} (r : Row N T h cs) : NoJoin T (innerOf cs) := by
  intro j hj
  have hk : (innerOf cs).kids.length = cs.length := by simp [innerOf]
  rw [hk] at hj
  have g : ∀ i, (hi : i < cs.length) → (innerOf cs).kids.getD i 0 = (cs[i].n : Int) := fun i hi => by
    unfold innerOf; rw [List.getD_eq_getElem?_getD, List.getElem?_map, List.getElem?_eq_getElem hi]; rfl
  obtain ⟨a1, ⟨a, a2, a3⟩, _⟩ := r.1 _ (List.getElem_mem (by omega : j < cs.length))
  obtain ⟨b1, ⟨b, b2, b3⟩, _⟩ := r.1 _ (List.getElem_mem hj)
  refine ⟨_, _, a, b, g j (by omega), g (j + 1) hj, a2, b2, ?_⟩
  rcases sd_node a1 with ⟨h0, x, hx, zx⟩ | ⟨h0, x, hx, zx⟩ <;> rcases sd_node b1 with ⟨h1, y, hy, zy⟩ | ⟨h1, y, hy, zy⟩
  · rw [a2] at hx; rw [b2] at hy; cases hx; cases hy
    have := size_app_leaf x y
    rw [join_leaf, szV_small (by omega)]
    exact ⟨rfl, by omega⟩
  · exact absurd h0 h1
  · exact absurd h1 h0
  · rw [a2] at hx; rw [b2] at hy; cases hx; cases hy
    have := size_app_inner x y
    rw [join_inner, szV_small (by omega)]
    exact ⟨rfl, by omega⟩
theorem kids_at {cs : List Kd} {lo key : ByteArray} (h : ∃ c cs', cs = c :: cs' ∧ c.key = lo) (hlo : kye lo key) :
    ∃ A c B, cs = A ++ c :: B ∧ A.length = placeTo (innerOf cs) key cs.length ∧ kye c.key key ∧ ∀ d ∈ B, ky key d.key := by
  have hpos : 0 < cs.length := by obtain ⟨c, cs', rfl, _⟩ := h; simp
  obtain ⟨s1, s2, s3⟩ := placeTo_spec (innerOf cs) key cs.length hpos
  have hkA : ∀ i (hi : i < cs.length), kAt (innerOf cs) i = cs[i].key := fun i hi => by
    unfold kAt innerOf; rw [List.getD_eq_getElem?_getD, List.getElem?_map, List.getElem?_eq_getElem hi]; rfl
  generalize placeTo (innerOf cs) key cs.length = at_ at *
  refine ⟨cs.take at_, cs[at_], cs.drop (at_ + 1), ?_, by rw [List.length_take]; omega, ?_, fun d hd => ?_⟩
  · rw [← List.drop_eq_getElem_cons s1, List.take_append_drop]
  · rcases s3 with s3 | s3
    · obtain ⟨c, cs', rfl, rfl⟩ := h
      subst s3
      exact hlo
    · rwa [hkA _ s1] at s3
  · obtain ⟨i, hi, rfl⟩ := List.mem_iff_getElem.1 hd
    rw [List.length_drop] at hi
    rw [List.getElem_drop]
    have := s2 (at_ + 1 + i) (by omega) (by omega)
    rwa [hkA _ (by omega)] at this
theorem place_row (A B X : List Kd) (c : Kd) : placeN (innerOf (A ++ c :: B)) A.length (X.map (fun c => (c.key, c.n))) = innerOf (A ++ X ++ B) := by
  have t : ∀ {α : Type} (f : Kd → α), ((A ++ c :: B).map f).take A.length = A.map f ∧ ((A ++ c :: B).map f).drop (A.length + 1) = B.map f := fun f => by
    constructor
    · rw [List.map_append, List.take_left' (by simp)]
    · rw [List.map_append, List.map_cons, ← List.drop_drop, List.drop_left' (by simp)]; rfl
  unfold placeN innerOf
  simp only [(t _).1, (t _).2]
  simp only [List.map_append, List.map_map]
  rfl
theorem at_row (A B : List Kd) (c : Kd) : (innerOf (A ++ c :: B)).kids.getD A.length 0 = (c.n : Int) ∧ kAt (innerOf (A ++ c :: B)) A.length = c.key := by
  constructor
  · unfold innerOf; rw [List.getD_eq_getElem?_getD]; simp
  · unfold kAt innerOf; rw [List.getD_eq_getElem?_getD]; simp
end Go.Proofs.Ytdakohbfibcjeaa
namespace Go.Proofs.Ytdakohbfibcjeaa
set_option linter.unusedSimpArgs false
set_option linter.unusedVariables false

theorem row_new {N h R R0 : Nat} {key val : ByteArray} (hx : okE (key, val)) {T T1 : Nodes} {A B X : List Kd} {c : Kd} {l0 : List (ByteArray × Nat)} {r : Nat} (hRow : Row N T h (A ++ c :: B)) (hnd : (r :: (A ++ c :: B).flatMap (·.bl)).Nodup) (hTr : T r ≠ none)
    (hB : ∀ d ∈ B, ky key d.key) (hz : sizeN (innerOf (A ++ c :: B)) ≤ 240)
    (x2 : X.length ≤ 2) (x3 : ∀ c ∈ X, Sd N T1 h c.n c.key c.es c.bl ∧ c.key.size ≤ 24) (x4 : Apart X) (x5 : ∃ d X', X = d :: X' ∧ d.key = c.key) (x6 : (X.flatMap (·.es)).Perm ((key, val) :: c.es)) (x7 : (X.flatMap (·.bl)).Nodup)
    (x8 : ∀ n ∈ X.flatMap (·.bl), n ∈ c.bl ∨ T n = none) (x9 : ∀ n, n ∉ c.bl → T n ≠ none → T1 n = T n) (x10 : ∀ c ∈ X, Fat T1 c.n) :
    Row N T1 h (A ++ X ++ B) ∧ T1 r = T r ∧ sizeN (innerOf (A ++ c :: B)) ≤ sizeN (innerOf (A ++ X ++ B)) ∧ sizeN (innerOf (A ++ X ++ B)) ≤ 267 ∧ (A ++ c :: B).length ≤ (A ++ X ++ B).length ∧
    ((A ++ X ++ B).flatMap (·.es)).Perm ((key, val) :: (A ++ c :: B).flatMap (·.es)) ∧ (r :: (A ++ X ++ B).flatMap (·.bl)).Nodup ∧ (∀ n ∈ (A ++ X ++ B).flatMap (·.bl), n ∈ (A ++ c :: B).flatMap (·.bl) ∨ T n = none) ∧
    ((A ++ X ++ B).flatMap (·.bl)).length + c.bl.length = ((A ++ c :: B).flatMap (·.bl)).length + (X.flatMap (·.bl)).length := by
  obtain ⟨d, X', rfl, hdk⟩ := x5
  have hA := hRow.sub (List.sublist_append_left A (c :: B))
  have hcB := hRow.sub (List.sublist_append_right A (c :: B))
  have hBr := hcB.sub (List.sublist_cons_self c B)
  obtain ⟨n1, n2⟩ := List.nodup_cons.1 hnd
  rw [List.flatMap_append, List.flatMap_cons] at n1 n2
  obtain ⟨n3, n4, n5⟩ := List.nodup_append.1 n2
  obtain ⟨n6, n7, n8⟩ := List.nodup_append.1 n4
  have kA : ∀ n ∈ A.flatMap (·.bl), T1 n = T n := fun n hn => x9 n (fun x => n5 n hn n (List.mem_append_left _ x) rfl) (hA.some_ n hn)
  have kB : ∀ n ∈ B.flatMap (·.bl), T1 n = T n := fun n hn => x9 n (fun x => n8 n x n hn rfl) (hBr.some_ n hn)
  have hcb : ∀ n ∈ c.bl, n ∈ (A ++ c :: B).flatMap (·.bl) := fun n hn => by rw [List.flatMap_append, List.flatMap_cons]; exact List.mem_append_right _ (List.mem_append_left _ hn)
  have hr1 : T1 r = T r := x9 r (fun x => n1 (List.mem_append_right _ (List.mem_append_left _ x))) hTr
  obtain ⟨a1, a2, a3⟩ := List.pairwise_append.1 hRow.2
  obtain ⟨a4, a5⟩ := List.pairwise_cons.1 a2
  have hwd : wI d = wI c := by unfold wI; rw [hdk]
  have hw : ((d :: X').map wI).sum ≤ wI c + 27 ∧ wI c ≤ ((d :: X').map wI).sum := by
    have h1 := sum_le wI 27 X' (fun e he => by have := (x3 e (List.mem_cons_of_mem _ he)).2; unfold wI; omega)
    simp only [List.length_cons] at x2
    simp only [List.map_cons, List.sum_cons, hwd]; omega
  refine ⟨⟨fun e he => ?_, ?_⟩, hr1, ?_, ?_, ?_, ?_, ?_, ?_, ?_⟩
  · rcases List.mem_append.1 he with he | he
    · rcases List.mem_append.1 he with he | he
      · exact (hA.keep kA).1 e he
      · exact ⟨(x3 e he).1, x10 e he, (x3 e he).2⟩
    · exact (hBr.keep kB).1 e he
  · refine List.pairwise_append.2 ⟨List.pairwise_append.2 ⟨a1, x4, fun a ha x hx2 e he => ?_⟩, a5, fun y hy b hb e he => ?_⟩
    · have h1 := a3 a ha c List.mem_cons_self e he
      rcases List.mem_cons.1 hx2 with rfl | hx2
      · rw [hdk]; exact h1
      · have h2 := (List.pairwise_cons.1 (kids_rise (fun d hd => (x3 d hd).1) x4)).1 x hx2
        rw [hdk] at h2
        exact ky_trans h1 h2
    · rcases List.mem_append.1 hy with hy | hy
      · exact a3 y hy b (List.mem_cons_of_mem _ hb) e he
      · have : e ∈ (d :: X').flatMap (·.es) := List.mem_flatMap.2 ⟨y, hy, he⟩
        rcases List.mem_cons.1 (x6.mem_iff.1 this) with rfl | h2
        · exact hB b hb
        · exact a4 b hb e h2
  · simp only [size_inner, List.map_append, List.sum_append, List.map_cons, List.sum_cons] at hw ⊢; omega
  · simp only [size_inner, List.map_append, List.sum_append, List.map_cons, List.sum_cons] at hw hz ⊢; omega
  · simp only [List.length_append, List.length_cons]; omega
  · rw [List.flatMap_append, List.flatMap_append, List.flatMap_append, List.flatMap_cons (xs := B), List.append_assoc]
    exact ((x6.append_right _).append_left _).trans List.perm_middle
  · have m1 : ∀ n ∈ (d :: X').flatMap (·.bl), n ∉ A.flatMap (·.bl) ∧ n ∉ B.flatMap (·.bl) ∧ n ≠ r := fun n hn => by
      rcases x8 n hn with h1 | h1
      · exact ⟨fun x => n5 n x n (List.mem_append_left _ h1) rfl, fun x => n8 n h1 n x rfl, fun x => n1 (by rw [← x]; exact List.mem_append_right _ (List.mem_append_left _ h1))⟩
      · exact ⟨fun x => hA.some_ n x h1, fun x => hBr.some_ n x h1, fun x => hTr (by rw [← x]; exact h1)⟩
    rw [List.flatMap_append, List.flatMap_append]
    refine List.nodup_cons.2 ⟨fun x => ?_, List.nodup_append.2 ⟨List.nodup_append.2 ⟨n3, x7, fun a ha b hb e => ?_⟩, n7, fun a ha b hb e => ?_⟩⟩
    · rcases List.mem_append.1 x with x | x
      · rcases List.mem_append.1 x with x | x
        · exact n1 (List.mem_append_left _ x)
        · exact (m1 r x).2.2 rfl
      · exact n1 (List.mem_append_right _ (List.mem_append_right _ x))
    · subst e; exact (m1 a hb).1 ha
    · subst e
      rcases List.mem_append.1 ha with ha | ha
      · exact n5 a ha a (List.mem_append_right _ hb) rfl
      · exact (m1 a ha).2.1 hb
  · intro n hn
    rw [List.flatMap_append, List.flatMap_append] at hn
    rw [List.flatMap_append, List.flatMap_cons (xs := B)]
    rcases List.mem_append.1 hn with hn | hn
    · rcases List.mem_append.1 hn with hn | hn
      · exact .inl (List.mem_append_left _ hn)
      · rcases x8 n hn with h1 | h1
        · exact .inl (List.mem_append_right _ (List.mem_append_left _ h1))
        · exact .inr h1
    · exact .inl (List.mem_append_right _ (List.mem_append_right _ hn))
  · simp only [List.flatMap_append, List.flatMap_cons, List.length_append]; omega
theorem chg_sd {N : Nat} (hN : N ≤ 60000) {key val : ByteArray} (hx : okE (key, val)) : ∀ (h : Nat) {T : Nodes} {r : Nat} {lo : ByteArray} {es : List Ent} {bl : List Nat} {R : Nat}, Sd N T h r lo es bl → lo.size ≤ 24 → bl.Nodup → (∀ e ∈ es, e.1 ≠ key) → kye lo key → Room N T R → h + 2 ≤ R →
    ChgP N key val h T r ∧ ∀ l T', ChgR N key val h T r lo l T' → Chg N T T' h r lo es bl (key, val) R l
  | 0, T, r, lo, es, bl, R, hs, hls, hnd, hne, hlo, hR, h2 => chg_leaf hx hs hls hnd hne hlo hR h2
  | h + 1, T, r, lo, es, bl, R, hs, hls, hnd, hne, hlo, hR, h2 => by
    obtain ⟨hr, cs, hT, hz, hl2, hkk, hap, hhd, rfl, rfl⟩ := hs
    obtain ⟨A, c, B, rfl, hat, hck, hBk⟩ := kids_at hhd hlo
    have hRow : Row N T h (A ++ c :: B) := ⟨hkk, hap⟩
    have hcm : c ∈ A ++ c :: B := List.mem_append_right _ List.mem_cons_self
    obtain ⟨c1, c2, c3⟩ := hkk c hcm
    have hk : (innerOf (A ++ c :: B)).keys.length = (A ++ c :: B).length := by simp [innerOf]
    have hTr : T r ≠ none := by rw [hT]; simp
    obtain ⟨n1, n2⟩ := List.nodup_cons.1 hnd
    have ncb : c.bl.Nodup := by
      rw [List.flatMap_append, List.flatMap_cons] at n2
      exact (List.nodup_append.1 (List.nodup_append.1 n2).2.1).1
    have hce : ∀ e ∈ c.es, e.1 ≠ key := fun e he => hne e (List.mem_flatMap.2 ⟨c, hcm, he⟩)
    obtain ⟨hP, hQ⟩ := chg_sd hN hx h c1 c3 ncb hce hck hR (by omega)
    obtain ⟨r1, r2⟩ := at_row A B c
    have hlen : 3 * (A ++ c :: B).length ≤ 240 := by
      rw [size_inner] at hz
      have := le_sum wI 3 (A ++ c :: B) (fun e _ => by unfold wI; omega)
      omega
    have step : ∀ l0 T1, ChgR N key val h T c.n c.key l0 T1 → ∃ X R0, l0 = X.map (fun c => (c.key, c.n)) ∧ (∃ d X', X = d :: X' ∧ d.key = c.key) ∧ (Row N T1 h (A ++ X ++ B) ∧ T1 r = T r ∧ sizeN (innerOf (A ++ c :: B)) ≤ sizeN (innerOf (A ++ X ++ B)) ∧ sizeN (innerOf (A ++ X ++ B)) ≤ 267 ∧ (A ++ c :: B).length ≤ (A ++ X ++ B).length ∧
        ((A ++ X ++ B).flatMap (·.es)).Perm ((key, val) :: (A ++ c :: B).flatMap (·.es)) ∧ (r :: (A ++ X ++ B).flatMap (·.bl)).Nodup ∧ (∀ n ∈ (A ++ X ++ B).flatMap (·.bl), n ∈ (A ++ c :: B).flatMap (·.bl) ∨ T n = none) ∧
        ((A ++ X ++ B).flatMap (·.bl)).length + c.bl.length = ((A ++ c :: B).flatMap (·.bl)).length + (X.flatMap (·.bl)).length) ∧ Room N T1 R0 ∧ R0 + (X.flatMap (·.bl)).length = R + c.bl.length ∧ R ≤ R0 + h + 1 ∧ (∀ n, n ∉ c.bl → T n ≠ none → T1 n = T n) := fun l0 T1 hcr => by
      obtain ⟨X, rfl, x2, x3, x4, x5, x6, x7, x8, x9, x10, R0, x11, x12, x13⟩ := hQ _ _ hcr
      exact ⟨X, R0, rfl, x5, row_new (R := R) (R0 := R0) (l0 := []) hx hRow hnd hTr hBk hz x2 x3 x4 x5 x6 x7 x8 x9 (x10 (.inr c2)), x11, x12, x13, x9⟩
    have okY : ∀ {T1 : Nodes} {Y : List Kd}, Row N T1 h Y → Y ≠ [] → sizeN (innerOf Y) ≤ 267 → SaveOk (innerOf Y) := fun hY hn hz => ok_inner hn (fun c hc => ⟨(hY.1 c hc).2.2, by have := (sd_r (hY.1 c hc).1).1; omega⟩) (kids_rise (fun d hd => (hY.1 d hd).1) hY.2) (by omega)
    have hne2 : ∀ X : List Kd, (∃ d X', X = d :: X' ∧ d.key = c.key) → A ++ X ++ B ≠ [] := fun X ⟨d, X', e, _⟩ => by rw [e]; simp
    refine ⟨⟨innerOf (A ++ c :: B), c.n, hT, rfl, by simp [innerOf], by omega, by omega, ?_, ?_, hP, ?_⟩, ?_⟩
    · rw [hk, ← hat]; simp
    · rw [hk, ← hat]; exact r1
    · intro l0 T1 hcr
      rw [hk, ← hat, r2] at hcr
      rw [hk, ← hat]
      obtain ⟨X, R0, rfl, x5, ⟨y1, y2, y3, y4, y5, y6, y7, y8, y9⟩, x11, x12, x13, x14⟩ := step l0 T1 hcr
      rw [place_row]
      have hl := chgR_len hcr
      exact ⟨y2.trans hT, hl.1, hl.2, fun _ => row_nojoin y1, okY y1 (hne2 X x5) y4, x11.mono (by omega)⟩
    · rintro l T' ⟨nd, l0, T1, T2, kid, hnd1, hkid, hcr, hsv, rfl⟩
      rw [hT] at hnd1; cases hnd1
      rw [hk, ← hat] at hkid hcr hsv
      rw [r1] at hkid
      obtain rfl : c.n = kid := by omega
      rw [r2] at hcr
      obtain ⟨X, R0, rfl, x5, ⟨y1, y2, y3, y4, y5, y6, y7, y8, y9⟩, x11, x12, x13, x14⟩ := step l0 T1 hcr
      rw [place_row] at hsv
      have hhd2 : ∃ d Y', A ++ X ++ B = d :: Y' ∧ d.key = lo := by
        obtain ⟨d, X', rfl, hd⟩ := x5
        obtain ⟨z, Z, e1, e2⟩ := hhd
        cases A with
        | nil => simp only [List.nil_append, List.cons.injEq] at e1; exact ⟨d, X' ++ B, by simp, by rw [hd, e1.1]; exact e2⟩
        | cons a A => simp only [List.cons_append, List.cons.injEq] at e1; exact ⟨a, A ++ (d :: X') ++ B, by simp, by rw [e1.1]; exact e2⟩
      generalize A ++ X ++ B = Y at *
      have hT1r : T1 r = some (innerOf (A ++ c :: B)) := y2.trans hT
      have fr : ∀ j, j ∉ r :: (A ++ c :: B).flatMap (·.bl) → T j ≠ none → j ≠ r ∧ T1 j = T j := fun j hj hj2 => ⟨fun e => hj (by rw [e]; exact List.mem_cons_self), x14 j (fun e => hj (List.mem_cons_of_mem _ (List.mem_flatMap.2 ⟨c, hcm, e⟩))) hj2⟩
      have new_ : ∀ n, T1 n = none → n ∈ r :: (A ++ c :: B).flatMap (·.bl) ∨ T n = none := fun n hn => by
        by_cases e : T n = none
        · exact .inr e
        · by_cases e2 : n ∈ c.bl
          · exact .inl (List.mem_cons_of_mem _ (List.mem_flatMap.2 ⟨c, hcm, e2⟩))
          · rw [← x14 n e2 e] at e; exact absurd hn e
      have old_ : ∀ n ∈ Y.flatMap (·.bl), n ∈ r :: (A ++ c :: B).flatMap (·.bl) ∨ T n = none := fun n hn => (y8 n hn).imp_left (List.mem_cons_of_mem _)
      obtain ⟨m1, m2⟩ := List.nodup_cons.1 y7
      have hsz24 : ∀ d ∈ Y, d.key.size ≤ 24 := fun d hd => (y1.1 d hd).2.2
      rcases saved_inner hsv hsz24 (by omega) with ⟨hz4, n, hn, hTn, rfl, rfl⟩ | ⟨a, e, b, k1, k2, rfl, hane, f1, f2, f3, f4, hk1, hk2, hT1, hT2, hk12, rfl, rfl⟩
      · have hnr : n ≠ r := fun x => by rw [x, hT1r] at hTn; cases hTn
        obtain ⟨d, Y', rfl, hd⟩ := hhd2
        have hTn' : updT (updT T1 n (some (innerOf (d :: Y')))) r none n = some (innerOf (d :: Y')) := by rw [upd_ne _ _ hnr, upd_self]
        have hnY : n ∉ (d :: Y').flatMap (·.bl) := fun x => y1.some_ n x hTn
        have kp : ∀ j ∈ (d :: Y').flatMap (·.bl), updT (updT T1 n (some (innerOf (d :: Y')))) r none j = T1 j := fun j hj => by
          rw [upd_ne _ _ (fun x => m1 (by rw [← x]; exact hj)), upd_ne _ _ (fun x => hnY (by rw [← x]; exact hj))]
        obtain ⟨R1, rfl⟩ : ∃ R', R0 = R' + 1 := ⟨R0 - 1, by omega⟩
        have hrm : Room N (updT (updT T1 n (some (innerOf (d :: Y')))) r none) (R1 + 1) := (Room.save x11).gone hr (by rw [upd_ne _ _ (fun x => hnr x.symm), hT1r]; rfl)
        refine ⟨[⟨lo, n, (d :: Y').flatMap (·.es), n :: (d :: Y').flatMap (·.bl)⟩], rfl, by simp, fun x hx => ?_, List.pairwise_singleton _ _, ⟨_, _, rfl, rfl⟩, ?_, ?_, fun j hj => ?_, fun j hj hj2 => ?_, fun hf x hx => ?_, R1 + 1, hrm, ?_, by omega⟩
        · obtain rfl := List.mem_singleton.1 hx
          exact ⟨(y1.keep kp).sd hn hTn' hz4 (by omega) hd, hls⟩
        · rw [List.flatMap_singleton]; exact y6
        · rw [List.flatMap_singleton]; exact List.nodup_cons.2 ⟨hnY, m2⟩
        · rw [List.flatMap_singleton] at hj
          rcases List.mem_cons.1 hj with rfl | hj
          · exact new_ _ hTn
          · exact old_ j hj
        · obtain ⟨g1, g2⟩ := fr j hj hj2
          have g3 : j ≠ n := fun x => by rw [← g2, x] at hj2; exact hj2 hTn
          rw [upd_ne _ _ g1, upd_ne _ _ g3, g2]
        · obtain rfl := List.mem_singleton.1 hx
          rcases hf with hf | ⟨nd, hf1, hf2⟩
          · simp at hf
          · rw [hT] at hf1; cases hf1
            exact ⟨_, hTn', by omega⟩
        · rw [List.flatMap_singleton]; simp only [List.length_cons]; omega
      · have hnr1 : k1 ≠ r := fun x => by rw [x, hT1r] at hT1; cases hT1
        have hnr2 : k2 ≠ r := fun x => by rw [x, hT1r] at hT2; cases hT2
        obtain ⟨W, hW⟩ : ∃ W, W = updT (updT (updT T1 k1 (some (innerOf a))) k2 (some (innerOf (e :: b)))) r none := ⟨_, rfl⟩
        have e1 : W k1 = some (innerOf a) := by rw [hW, upd_ne _ _ hnr1, upd_ne _ _ hk12, upd_self]
        have e2 : W k2 = some (innerOf (e :: b)) := by rw [hW, upd_ne _ _ hnr2, upd_self]
        have hnY1 : k1 ∉ (a ++ e :: b).flatMap (·.bl) := fun x => y1.some_ k1 x hT1
        have hnY2 : k2 ∉ (a ++ e :: b).flatMap (·.bl) := fun x => y1.some_ k2 x hT2
        have kp : ∀ j ∈ (a ++ e :: b).flatMap (·.bl), W j = T1 j := fun j hj => by
          rw [hW, upd_ne _ _ (fun x => m1 (by rw [← x]; exact hj)), upd_ne _ _ (fun x => hnY2 (by rw [← x]; exact hj)), upd_ne _ _ (fun x => hnY1 (by rw [← x]; exact hj))]
        obtain ⟨R1, rfl⟩ : ∃ R', R0 = R' + 1 + 1 := ⟨R0 - 2, by omega⟩
        have hrm : Room N W (R1 + 1) := by rw [hW]; exact (Room.save (Room.save x11)).gone hr (by rw [upd_ne _ _ (fun x => hnr2 x.symm), upd_ne _ _ (fun x => hnr1 x.symm), hT1r]; rfl)
        rw [← hW]
        have rowW := y1.keep kp
        have rowa := rowW.sub (List.sublist_append_left a (e :: b))
        have rowe := rowW.sub (List.sublist_append_right a (e :: b))
        have rise := kids_rise (fun d hd => (rowW.1 d hd).1) rowW.2
        obtain ⟨d, Y', he, hd⟩ := hhd2
        obtain ⟨a0, a', rfl⟩ : ∃ a0 a', a = a0 :: a' := List.exists_cons_of_ne_nil hane
        have hd0 : a0.key = lo := by simp only [List.cons_append, List.cons.injEq] at he; rw [he.1]; exact hd
        have la := fat_inner (T := T) (r := r) f1 (fun d hd => hsz24 d (List.mem_append_left _ hd))
        have lb := fat_inner (T := T) (r := r) f3 (fun d hd => hsz24 d (List.mem_append_right _ hd))
        obtain ⟨p1, p2, p3⟩ := List.pairwise_append.1 y1.2
        rw [List.flatMap_append] at hnY1 hnY2 m2
        obtain ⟨q1, q2, q3⟩ := List.nodup_append.1 m2
        refine ⟨[⟨lo, k1, (a0 :: a').flatMap (·.es), k1 :: (a0 :: a').flatMap (·.bl)⟩, ⟨e.key, k2, (e :: b).flatMap (·.es), k2 :: (e :: b).flatMap (·.bl)⟩], rfl, by simp, fun x hx => ?_, ?_, ⟨_, _, rfl, rfl⟩, ?_, ?_, fun j hj => ?_, fun j hj hj2 => ?_, fun hf x hx => ?_, R1 + 1, hrm, ?_, by omega⟩
        · rcases List.mem_cons.1 hx with rfl | hx
          · exact ⟨rowa.sd hk1 e1 f2 la hd0, hls⟩
          · obtain rfl := List.mem_singleton.1 hx
            exact ⟨rowe.sd hk2 e2 f4 lb rfl, hsz24 e (List.mem_append_right _ List.mem_cons_self)⟩
        · refine List.pairwise_cons.2 ⟨fun z hz => ?_, List.pairwise_singleton _ _⟩
          obtain rfl := List.mem_singleton.1 hz
          intro x hx
          obtain ⟨g, hg, hx⟩ := List.mem_flatMap.1 hx
          exact p3 g hg e List.mem_cons_self x hx
        · rw [List.flatMap_cons, List.flatMap_singleton]
          rw [List.flatMap_append] at y6
          exact y6
        · rw [List.flatMap_cons, List.flatMap_singleton]
          refine List.nodup_append.2 ⟨List.nodup_cons.2 ⟨fun x => hnY1 (List.mem_append_left _ x), q1⟩, List.nodup_cons.2 ⟨fun x => hnY2 (List.mem_append_right _ x), q2⟩, fun x hx y hy => ?_⟩
          rcases List.mem_cons.1 hx with rfl | hx <;> rcases List.mem_cons.1 hy with rfl | hy
          · exact hk12
          · exact fun z => hnY1 (by rw [z]; exact List.mem_append_right _ hy)
          · exact fun z => hnY2 (by rw [← z]; exact List.mem_append_left _ hx)
          · exact q3 x hx y hy
        · rw [List.flatMap_cons, List.flatMap_singleton] at hj
          rw [List.flatMap_append] at old_
          rcases List.mem_append.1 hj with hj | hj
          · rcases List.mem_cons.1 hj with rfl | hj
            · exact new_ _ hT1
            · exact old_ j (List.mem_append_left _ hj)
          · rcases List.mem_cons.1 hj with rfl | hj
            · exact new_ _ hT2
            · exact old_ j (List.mem_append_right _ hj)
        · obtain ⟨g1, g2⟩ := fr j hj hj2
          have g3 : j ≠ k1 := fun x => by rw [← g2, x] at hj2; exact hj2 hT1
          have g4 : j ≠ k2 := fun x => by rw [← g2, x] at hj2; exact hj2 hT2
          rw [hW, upd_ne _ _ g1, upd_ne _ _ g4, upd_ne _ _ g3, g2]
        · rcases List.mem_cons.1 hx with rfl | hx
          · exact ⟨_, e1, f1⟩
          · obtain rfl := List.mem_singleton.1 hx
            exact ⟨_, e2, f3⟩
        · rw [List.flatMap_append] at y9
          rw [List.flatMap_cons, List.flatMap_singleton]
          simp only [List.length_append, List.length_cons] at y9 ⊢; omega
end Go.Proofs.Ytdakohbfibcjeaa
namespace Go.Proofs.Ytdakohbfibcjeaa
set_option linter.unusedSimpArgs false
set_option linter.unusedVariables false

theorem kye_nil (a : ByteArray) : kye ⟨#[]⟩ a := kye_empty a
theorem put_sd {N : Nat} (hN : N ≤ 60000) {key val : ByteArray} (hx : okE (key, val)) {h : Nat} {T : Nodes} {r : Nat} {es : List Ent} {bl : List Nat} {R : Nat} (hs : Sd N T h r ⟨#[]⟩ es bl) (hnd : bl.Nodup) (hne : ∀ e ∈ es, e.1 ≠ key) (hR : Room N T R) (h2 : h + 2 ≤ R) (h15 : h ≤ 15) :
    PutP N key val h T r ∧ ∀ r' T', TpR N key val h T r r' T' → ∃ h' es' bl', Sd N T' h' r' ⟨#[]⟩ es' bl' ∧ es'.Perm ((key, val) :: es) ∧ bl'.Nodup ∧ (∀ n ∈ bl', n ∈ bl ∨ T n = none) ∧ (∀ n, n ∉ bl → T n ≠ none → T' n = T n) ∧ ∃ R', Room N T' R' ∧ R' + bl'.length = R + bl.length := by
  obtain ⟨hP, hQ⟩ := chg_sd hN hx h hs (Nat.zero_le _) hnd hne (kye_nil _) hR h2
  have htop : ∀ X : List Kd, topN (X.map (fun c => (c.key, c.n))) = innerOf X := fun X => by unfold topN innerOf; rw [List.map_map, List.map_map]; rfl
  refine ⟨⟨hP, h15, fun l T1 hcr => ?_⟩, ?_⟩
  · obtain ⟨X, rfl, x2, x3, x4, x5, x6, x7, x8, x9, x10, R0, x11, x12, x13⟩ := hQ _ _ hcr
    refine ⟨fun k r' e => ?_, fun hl => ⟨?_, x11.mono (by omega)⟩⟩
    · obtain ⟨d, X', rfl, hd⟩ := x5
      simp only [List.map_cons, List.cons.injEq, Prod.mk.injEq] at e
      obtain ⟨⟨e1, e2⟩, e3⟩ := e
      have := (x3 d List.mem_cons_self).1
      rw [e2] at this
      cases h with
      | zero => obtain ⟨_, _, h3, _⟩ := this; exact ⟨_, h3, .inl rfl⟩
      | succ h => obtain ⟨_, cs, h3, _, h5, _⟩ := this; exact ⟨_, h3, .inr ⟨rfl, by simp [innerOf]; omega⟩⟩
    · rw [htop]
      have hne : X ≠ [] := by obtain ⟨d, X', rfl, hd⟩ := x5; simp
      refine may_inner hne ?_ (fun c hc => ⟨(x3 c hc).2, by have := (sd_r (x3 c hc).1).1; omega⟩) (kids_rise (fun d hd => (x3 d hd).1) x4)
      have := sum_le wI 27 X (fun e he => by have := (x3 e he).2; unfold wI; omega)
      rw [size_inner]; omega
  · rintro r' T' ⟨l, T1, hcr, hor⟩
    obtain ⟨X, rfl, x2, x3, x4, x5, x6, x7, x8, x9, x10, R0, x11, x12, x13⟩ := hQ _ _ hcr
    rcases hor with ⟨k, e, rfl⟩ | ⟨hl, hr1, hr2, hrn, rfl⟩
    · obtain ⟨d, X', rfl, hd⟩ := x5
      simp only [List.map_cons, List.cons.injEq, Prod.mk.injEq, List.map_eq_nil_iff] at e
      obtain ⟨⟨e1, e2⟩, rfl⟩ := e
      have := (x3 d List.mem_cons_self).1
      rw [e2, hd] at this
      rw [List.flatMap_singleton] at x6 x7 x8 x12
      exact ⟨h, _, _, this, x6, x7, x8, x9, R0, x11, x12⟩
    · rw [htop]
      have hXl : X.length = 2 := by simpa using hl
      have hrow : Row N T1 h X := ⟨fun c hc => ⟨(x3 c hc).1, x10 (.inl hXl) c hc, (x3 c hc).2⟩, x4⟩
      have hnX : r' ∉ X.flatMap (·.bl) := fun x => hrow.some_ r' x hrn
      have kp : ∀ j ∈ X.flatMap (·.bl), updT T1 r' (some (innerOf X)) j = T1 j := fun j hj => upd_ne _ _ (fun x => hnX (by rw [← x]; exact hj))
      obtain ⟨R1, rfl⟩ : ∃ R', R0 = R' + 1 := ⟨R0 - 1, by omega⟩
      have hrowT := hrow.keep kp
      obtain ⟨d, X', rfl, hd⟩ := x5
      have hz : sizeN (innerOf (d :: X')) ≤ 240 := by
        have := sum_le wI 27 (d :: X') (fun e he => by have := (x3 e he).2; unfold wI; omega)
        rw [size_inner]; omega
      refine ⟨h + 1, _, _, hrowT.sd ⟨hr1, hr2⟩ (upd_self _ _ _) hz (by omega) hd, x6, List.nodup_cons.2 ⟨hnX, x7⟩, fun n hn => ?_, fun n hn hn2 => ?_, R1, Room.save x11, by simp only [List.length_cons]; omega⟩
      · rcases List.mem_cons.1 hn with rfl | hn
        · by_cases e : T n = none
          · exact .inr e
          · by_cases e2 : n ∈ bl
            · exact .inl e2
            · rw [← x9 n e2 e] at e; exact absurd hrn e
        · exact x8 n hn
      · have g2 := x9 n hn hn2
        rw [upd_ne _ _ (fun x => by rw [← g2, x] at hn2; exact hn2 hrn), g2]
/-- a tree, or none -/
def Tr1 (N : Nat) (T : Nodes) (r : Nat) (es : List Ent) (bl : List Nat) : Prop := (r = 0 ∧ es = [] ∧ bl = []) ∨ ∃ h, Sd N T h r ⟨#[]⟩ es bl
def Two (N : Nat) (T : Nodes) (r1 : Nat) (es1 : List Ent) (r2 : Nat) (es2 : List Ent) : Prop :=
  ∃ bl1 bl2 R, Tr1 N T r1 es1 bl1 ∧ Tr1 N T r2 es2 bl2 ∧ bl1.Nodup ∧ bl2.Nodup ∧ (∀ n ∈ bl1, n ∉ bl2) ∧ Room N T R ∧ R + bl1.length + bl2.length = N
theorem Two.swap {N r1 r2 : Nat} {T : Nodes} {es1 es2 : List Ent} (h : Two N T r1 es1 r2 es2) : Two N T r2 es2 r1 es1 := by
  obtain ⟨b1, b2, R, h1, h2, h3, h4, h5, h6, h7⟩ := h
  exact ⟨b2, b1, R, h2, h1, h4, h3, fun n a b => h5 n b a, h6, by omega⟩
theorem tr1_len {N r : Nat} {T : Nodes} {es : List Ent} {bl : List Nat} (h : Tr1 N T r es bl) : bl.length ≤ es.length := by
  rcases h with ⟨_, rfl, rfl⟩ | ⟨h, hs⟩
  · exact Nat.le_refl _
  · exact (sd_bl hs).1
theorem tr1_keep {N r : Nat} {T T' : Nodes} {es : List Ent} {bl : List Nat} (h : Tr1 N T r es bl) (k : ∀ n ∈ bl, T' n = T n) : Tr1 N T' r es bl := by
  rcases h with h | ⟨h, hs⟩
  · exact .inl h
  · exact .inr ⟨h, sd_keep hs k⟩
theorem tr1_some {N r : Nat} {T : Nodes} {es : List Ent} {bl : List Nat} (h : Tr1 N T r es bl) : ∀ n ∈ bl, T n ≠ none := by
  rcases h with ⟨_, _, rfl⟩ | ⟨h, hs⟩
  · intro n hn; cases hn
  · exact sd_some hs
theorem sd_low {N : Nat} {T : Nodes} {h r : Nat} {lo : ByteArray} {es : List Ent} {bl : List Nat} (hs : Sd N T h r lo es bl) (hl : es.length ≤ 150) : h ≤ 7 := by
  have h1 := sd_len hs
  by_cases e : h ≤ 7
  · exact e
  · have : 2 ^ 8 ≤ 2 ^ h := Nat.pow_le_pow_right (by decide) (by omega)
    omega
/-- what Put into the first of two trees comes to -/
def P2To (w : World) (base : Nat) (p : TrS) (N : Nat) (x : Ent) (es1 : List Ent) (r2 : Nat) (es2 : List Ent) (e : Ending) (w' : World) : Prop :=
  ∃ (r : Nat) (p' : TrS) (T' : Nodes) (es' : List Ent), e = .returned (.tuple #[.int .i64 (r : Int), .int .i64 0]) ∧ TCh w w' base p p' N T' ∧ Two N T' r es' r2 es2 ∧ es'.Perm (x :: es1)
theorem put_pair {w : World} {base N r1 r2 : Nat} {p : TrS} {T : Nodes} {key val : ByteArray} {es1 es2 : List Ent} (h : TrM w base p N T) (ht : Two N T r1 es1 r2 es2) (hN : 320 ≤ N ∧ N ≤ 60000) (hl1 : es1.length ≤ 150) (hl2 : es2.length ≤ 150) (hx : okE (key, val)) (hne : ∀ e ∈ es1, e.1 ≠ key) :
    Calls Try.prog 7 #[.pointer (some ⟨p.g, 0, none⟩), .int .i64 (r1 : Int), .string key, .string val] w (P2To w base p N (key, val) es1 r2 es2) := by
  obtain ⟨b1, b2, R, h1, h2, h3, h4, h5, h6, h7⟩ := ht
  have l1 := tr1_len h1
  have l2 := tr1_len h2
  have s2 := tr1_some h2
  have hk : 1 ≤ key.size ∧ key.size ≤ 24 := ⟨by
    have := hx.1
    rcases Nat.eq_zero_or_pos key.size with e | e
    · exact absurd (ByteArray.ext (Array.eq_empty_of_size_eq_zero e)) this
    · exact e, hx.2.1⟩
  have hv : val.size ≤ 24 := hx.2.2
  rcases h1 with ⟨rfl, rfl, rfl⟩ | ⟨hh, hs⟩
  · have hm : mayN (oneLeaf key val) := may_leaf (es := [(key, val)]) (by simp) (by rw [size_leaf]; have := wL_le hx; simp; omega) (fun e he => by obtain rfl := List.mem_singleton.1 he; exact hx) (List.pairwise_singleton _ _)
    refine (put_new h (h6.mono (by omega)) hk hv hm).mono ?_
    rintro e w' ⟨n, p', rfl, hn1, hn2, hTn, hc⟩
    obtain ⟨R1, rfl⟩ : ∃ R', R = R' + 1 := ⟨R - 1, by omega⟩
    have hnb : n ∉ b2 := fun x => s2 n x hTn
    refine ⟨n, p', _, [(key, val)], rfl, hc, ⟨[n], b2, R1, .inr ⟨0, ⟨hn1, hn2⟩, fun e he => kye_nil _, upd_self _ _ _, ⟨by simp, fun e he => by obtain rfl := List.mem_singleton.1 he; exact hx, List.pairwise_singleton _ _⟩, ?_, rfl⟩, tr1_keep h2 (fun j hj => upd_ne _ _ (fun x => hnb (by rw [← x]; exact hj))), by simp, h4, fun j hj => ?_, Room.save h6, ?_⟩, List.Perm.refl _⟩
    · rw [size_leaf]; have := wL_le hx; simp; omega
    · obtain rfl := List.mem_singleton.1 hj; exact hnb
    · simp only [List.length_nil, List.length_cons] at h7 ⊢; omega
  · have h7' := sd_low hs hl1
    obtain ⟨hP, hQ⟩ := put_sd hN.2 hx hs h3 hne h6 (by omega) (by omega)
    refine (put_old h hP hk hv (by have := (sd_r hs).1; omega)).mono ?_
    rintro e w' ⟨r, p', T', rfl, hc, hR⟩
    obtain ⟨h', es', bl', q1, q2, q3, q4, q5, R', q6, q7⟩ := hQ r T' hR
    refine ⟨r, p', T', es', rfl, hc, ⟨bl', b2, R', .inr ⟨h', q1⟩, tr1_keep h2 (fun j hj => q5 j (fun x => h5 j x hj) (s2 j hj)), q3, h4, fun j hj hj2 => ?_, q6, by omega⟩, q2⟩
    rcases q4 j hj with x | x
    · exact h5 j x hj2
    · exact s2 j hj2 x
end Go.Proofs.Ytdakohbfibcjeaa
