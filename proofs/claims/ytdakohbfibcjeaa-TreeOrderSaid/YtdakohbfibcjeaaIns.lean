/- slices.Insert and slices.Delete at lists of texts and of numbers, in memory. (Printed by gen_ins.py.) No condition. -/
import Derived.Test.YtdakohbfibcjeaaInsLay
import Derived.Sort.OwnSorted
import Derived.Sort.OwnSortedInts
import Derived.Test.YtdakohbfibcjeaaNodJoin
import Derived.Test.YtdakohbfibcjeaaTvL
namespace Go.Proofs.Ytdakohbfibcjeaa
open Go.RowKit Go.Sort
set_option linter.unusedSimpArgs false
set_option linter.unusedVariables false

theorem own_cells {w : World} {base n c g : Nat} {e : TypeId} {cur : Array Value} {xs : List Value} (hh : w.heap[g]? = some (.cells cur e (0, 0))) (hb : base ≤ g) (hnc : n ≤ c) (hc : c ≤ 9223372036854775807) (hs : cur.size = c) (hx : xs.length = n) (hcell : ∀ k, k < n → w.cell? ⟨g, k, none⟩ = xs[k]?) : Own w base e 1 (some ⟨g, 0, none⟩) n c xs := by
  refine ⟨by omega, .inr ⟨g, c, cur, rfl, hb, hh, hnc, hc, by omega, ?_⟩⟩
  apply List.ext_getElem?
  intro k
  by_cases hk : k < n
  · rw [List.getElem?_take_of_lt (by omega), ← hcell k hk, cell_of_row w g k cur e (0, 0) hh, Array.getElem?_toList]
  · rw [List.getElem?_take_eq_none (by omega), List.getElem?_eq_none (by omega)]
theorem setCells_heap {g : Nat} {e : TypeId} {fr : Nat × Nat} : ∀ (vs : List Value) (o : Nat) (w : World) (cur : Array Value), w.heap[g]? = some (.cells cur e fr) → ∃ cur', (w.setCells g o vs).heap[g]? = some (.cells cur' e fr) ∧ cur'.size = cur.size
  | [], _, _, cur, h => ⟨cur, h, rfl⟩
  | v :: r, o, w, cur, h => by
    rw [World.setCells]
    have h1 : (w.setCell ⟨g, o, none⟩ v).heap[g]? = some (.cells (cur.setIfInBounds o v) e fr) := by
      rw [setCell_eq]
      simp [mapBlock, Array.getElem?_modify, h, onCells]
    obtain ⟨cur', h2, h3⟩ := setCells_heap r (o + 1) _ _ h1
    exact ⟨cur', h2, by rw [h3]; simp⟩
theorem heap_alloc_new (w : World) (o : Obj) : (w.alloc o).heap[w.heap.size]? = some o := by
  show (w.heap.push o)[w.heap.size]? = _
  exact Array.getElem?_push_size
theorem kept_alloc {F : Nat → Prop} {w : World} {o : Obj} : Kept F w (w.alloc o) := Kept.of_below ((Below.refl _ _).alloc (Nat.le_refl _) _) (Nat.le_refl _)
theorem size_zeroCells1 (z : Value) (hz : z.cells.size = 1) (n : Nat) : (Builtin.zeroCells z.cells n).size = n := by
  simp [Builtin.zeroCells, hz]
def InsTo (w : World) (base : Nat) (A : Option Addr) (n : Nat) (e : TypeId) (xs : List Value) (en : Ending) (w' : World) : Prop := ∃ A' c', en = .returned (.slice A' (n + 1) c') ∧ Own w' base e 1 A' (n + 1) c' xs ∧ (ablk A' = ablk A ∨ ∃ g, ablk A' = some g ∧ w.heap.size ≤ g) ∧ Kept (fun b => ablk A = some b) w w'
theorem ins_get {cs : List Value} {v : Value} {at_ n : Nat} (hl : cs.length = n) (ha : at_ ≤ n) (k : Nat) : (cs.take at_ ++ v :: cs.drop at_)[k]? = if k < at_ then cs[k]? else if k = at_ then some v else cs[k - 1]? := by
  by_cases h : k < at_
  · rw [if_pos h, List.getElem?_append_left (by rw [List.length_take]; omega), List.getElem?_take_of_lt h]
  · rw [if_neg h, List.getElem?_append_right (by rw [List.length_take]; omega), List.length_take, Nat.min_eq_left (by omega)]
    by_cases h2 : k = at_
    · subst h2; rw [if_pos rfl, Nat.sub_self]; rfl
    · rw [if_neg h2, show k - at_ = (k - at_ - 1) + 1 by omega, List.getElem?_cons_succ, List.getElem?_drop]
      congr 1; omega
set_option maxHeartbeats 1000000 in
theorem ins_s_any {w : World} {base n c at_ vb : Nat} {A : Option Addr} {cs : List Value} {v : Value} (h : Own w base 9 1 A n c cs) (h1 : ∀ u ∈ cs, u.oneCell' = true) (hb : Blk w vb 9 [v]) (hv : v.oneCell' = true) (hne : ablk A ≠ some vb) (hi : at_ ≤ n) (hn : n ≤ 1000000) (hbase : base ≤ w.heap.size) :
    Calls Try.prog 18 #[.slice A n c, .int .i64 (at_ : Int), .slice (some ⟨vb, 0, none⟩) 1 1] w (InsTo w base A n 9 (cs.take at_ ++ v :: cs.drop at_)) := by
  have hl : cs.length = n := h.len1
  have hvs : ∀ j u, [v][j]? = some u → w.cell? ⟨vb, 0 + j, none⟩ = some u := fun j u hj => by rw [Nat.zero_add, hb.cell]; exact hj
  have h1v : ∀ u ∈ [v], u.oneCell' = true := fun u hu => by rw [List.mem_singleton] at hu; rw [hu]; exact hv
  have hxl : (cs.take at_ ++ v :: cs.drop at_).length = n + 1 := by simp; omega
  by_cases hroom : n + 1 ≤ c
  · rcases h.cases with ⟨_, _, rfl, _⟩ | ⟨g, cur, rfl, hg, hh, hnc, hc63, hsz, htk⟩
    · omega
    rw [Nat.mul_one] at htk
    have hcell : ∀ k, w.cell? ⟨g, k, none⟩ = cur[k]? := fun k => cell_of_row w g k cur 9 (0, 0) hh
    have hcs : ∀ j, j < n → w.cell? ⟨g, j, none⟩ = cs[j]? := fun j hj => by
      rw [hcell, ← htk, List.getElem?_take_of_lt hj, Array.getElem?_toList]
    have hsp : ∀ j, j < n + 1 → (w.cell? ⟨g, j, none⟩).isSome = true := fun j hj => by
      rw [hcell, Array.getElem?_eq_getElem (by omega)]; rfl
    have hfz : ∀ j, w.frozen? ⟨g, j, none⟩ = false := fun j => by simp [World.frozen?, hh]
    have hgv : vb ≠ g := fun e => hne (by rw [e]; rfl)
    by_cases hend : at_ = n
    · subst hend
      refine (Any2.slices_Insert_string_end_room ins_s_lay g 0 at_ c vb 0 1 1 [v] w (by omega) hroom hc63 rfl (fun j hj => by
          have : j = 0 := by omega
          subst this; rw [Nat.zero_add, Nat.add_zero]; exact hsp _ (by omega)) (fun j _ => by rw [Nat.zero_add]; exact hfz _) hvs h1v).mono ?_
      rintro e w' ⟨rfl, rfl⟩
      rw [Nat.zero_add]
      obtain ⟨cur', hh', hs'⟩ := setCells_heap [v] at_ w cur hh
      refine ⟨some ⟨g, 0, none⟩, c, rfl, own_cells hh' hg hroom hc63 (by omega) hxl (fun k hk => ?_), .inl rfl, kept_setCells.mono (fun b _ e => by rw [e]; rfl)⟩
      rw [ins_get hl (Nat.le_refl _)]
      by_cases hka : k < at_
      · rw [if_pos hka, World.cell?_setCells_out g [v] at_ w _ (fun _ _ => .inl hka)]; exact hcs k hka
      · have : k = at_ := by omega
        subst this
        rw [if_neg hka, if_pos rfl]
        have := World.cell?_setCells_in g [v] k w (fun j hj => by
          have : j = 0 := by simp at hj; omega
          subst this; exact hsp _ (by omega)) 0 (by simp)
        exact this
    · have hlt : at_ < n := by omega
      have hsh : w.shape? vb = some (9, 1) := by
        have := hb; unfold Blk at this; simp [World.shape?, this]
      have hsg : w.shape? g = some (9, cur.size) := by simp [World.shape?, hh]
      refine (Any2.slices_Insert_string_shift ins_s_lay g 0 n c at_ vb 0 1 1 cs [v] w hlt (by omega) hroom hc63 hgv hl rfl
        (fun j u hj => by rw [Nat.zero_add, hcs j (by have := (List.getElem?_eq_some_iff.1 hj).1; omega)]; exact hj) (fun j hj => by rw [Nat.zero_add]; exact hsp j hj) (fun j _ => by rw [Nat.zero_add]; exact hfz j)
        hvs h1 h1v _ _ _ _ hsh hsg (by omega) (hb.frozen 0) (hb.frozen 1)).mono ?_
      rintro e w' ⟨rfl, rfl⟩
      rw [Nat.zero_add, Nat.zero_add]
      have hh0 : w.drew.heap[g]? = some (.cells cur 9 (0, 0)) := hh
      obtain ⟨cur1, hh1, hs1⟩ := setCells_heap (cs.drop at_) (at_ + 1) w.drew cur hh0
      obtain ⟨cur2, hh2, hs2⟩ := setCells_heap [v] at_ _ cur1 hh1
      have hsp1 : ∀ j, j < n + 1 → ((w.drew.setCells g (at_ + 1) (cs.drop at_)).cell? ⟨g, j, none⟩).isSome = true := fun j hj => by
        rw [cell_of_row _ g j cur1 9 (0, 0) hh1, Array.getElem?_eq_getElem (by omega)]; rfl
      refine ⟨some ⟨g, 0, none⟩, c, rfl, own_cells hh2 hg hroom hc63 (by omega) hxl (fun k hk => ?_), .inl rfl, ?_⟩
      · rw [ins_get hl hi]
        by_cases hka : k < at_
        · rw [if_pos hka, World.cell?_setCells_out g [v] at_ _ _ (fun _ _ => .inl hka), World.cell?_setCells_out g _ (at_ + 1) _ _ (fun _ _ => .inl (by show k < at_ + 1; omega))]; exact hcs k (by omega)
        · rw [if_neg hka]
          by_cases hke : k = at_
          · subst hke
            rw [if_pos rfl]
            have := World.cell?_setCells_in g [v] k (w.drew.setCells g (k + 1) (cs.drop k)) (fun j hj => by
              have : j = 0 := by simp at hj; omega
              subst this; exact hsp1 _ (by omega)) 0 (by simp)
            exact this
          · rw [if_neg hke, World.cell?_setCells_out g [v] at_ _ _ (fun _ _ => .inr (by show at_ + 1 ≤ k; omega))]
            have hdl : k - (at_ + 1) < (cs.drop at_).length := by rw [List.length_drop]; omega
            have := World.cell?_setCells_in g (cs.drop at_) (at_ + 1) w.drew (fun j hj => by rw [List.length_drop] at hj; exact hsp _ (by omega)) (k - (at_ + 1)) hdl
            rw [show at_ + 1 + (k - (at_ + 1)) = k by omega] at this
            rw [this, ← List.getElem?_eq_getElem hdl, List.getElem?_drop]
            congr 1; omega
      · exact ((kept_drew (Kept.refl (fun b => b = g) w)).trans (kept_setCells.trans kept_setCells (fun _ _ x => x)) (fun _ _ x => x)).mono (fun b _ e => by rw [e]; rfl)
  · have hcap := h.cap
    have hmax : n + 1 ≤ maxLen := by unfold maxLen; omega
    obtain ⟨G, hG⟩ : ∃ G, G = grownCap w (n + 1) c 9 := ⟨_, rfl⟩
    have hG1 : n + 1 ≤ G := by rw [hG]; exact grownCap_ge _ _ _ _
    have hG2 : G ≤ 9223372036854775807 := by rw [hG]; have := grownCap_le_maxLen w (n + 1) c 9 hmax; unfold maxLen at this; omega
    have hzs : ∀ m, (Builtin.zeroCells (Value.string ⟨#[]⟩).cells m).size = m := fun m => size_zeroCells1 _ rfl m
    by_cases hend : at_ = n
    · subst hend
      refine (Any2.slices_Insert_string_end_grow ins_s_lay A at_ c vb 0 1 1 cs [v] w (by omega) hcap.1 (by omega) (by omega) hl rfl (fun e => by
          rcases h.cases with ⟨_, h0, _⟩ | ⟨g, cur, rfl, _⟩
          · exact h0
          · cases e) (fun a ha j u hj => by
          have hjl := (List.getElem?_eq_some_iff.1 hj).1
          obtain ⟨g, e, _, _, h3, _⟩ := h.cell hjl
          rw [e] at ha; injection ha with ha; subst ha
          rw [Addr.add_lit, Nat.zero_add, h3, ← hj, List.getElem?_eq_getElem hjl]) hvs h1v).mono ?_
      rintro e w' ⟨rfl, rfl⟩
      have hG' : grownCap w (at_ + 1) c (ins_s_ren.t 9) = G := hG.symm
      have hT : (ins_s_ren.t 9) = 9 := rfl
      rw [hG', hT]
      have hx2 : cs.take at_ ++ v :: cs.drop at_ = cs ++ [v] := by rw [List.take_of_length_le (by omega), List.drop_eq_nil_of_le (by omega)]
      rw [hx2] at hxl ⊢
      refine ⟨some ⟨w.heap.size, 0, none⟩, G, rfl, own_cells (cur := (cs ++ [v]).toArray ++ Builtin.zeroCells (Value.string ⟨#[]⟩).cells (G - (at_ + 1))) (heap_alloc_new w.drew _) hbase hG1 hG2 ?_ hxl (fun k hk => ?_), .inr ⟨_, rfl, Nat.le_refl _⟩, ?_⟩
      · rw [Array.size_append, hzs, List.size_toArray, hxl]; omega
      · rw [cell_of_row _ w.heap.size k _ _ (0, 0) (heap_alloc_new w.drew _), Array.getElem?_append_left (by rw [List.size_toArray, hxl]; exact hk), List.getElem?_toArray]
      · exact (kept_drew (Kept.refl _ w)).trans (kept_alloc (F := fun _ => False)) (fun _ _ x => x.elim)
    · have hlt : at_ < n := by omega
      rcases h.cases with ⟨_, h0, _⟩ | ⟨g, cur, rfl, hg, hh, hnc, hc63, hsz, htk⟩
      · omega
      rw [Nat.mul_one] at htk
      have hcs : ∀ j, j < n → w.cell? ⟨g, j, none⟩ = cs[j]? := fun j hj => by
        rw [cell_of_row w g j cur 9 (0, 0) hh, ← htk, List.getElem?_take_of_lt hj, Array.getElem?_toList]
      refine (Any2.slices_Insert_string_grow ins_s_lay g 0 n c at_ vb 0 1 1 cs [v] w hlt (by omega) hcap.1 (by omega) (by omega) hl rfl
        (fun j u hj => by rw [Nat.zero_add, hcs j (by have := (List.getElem?_eq_some_iff.1 hj).1; omega)]; exact hj) hvs h1 h1v).mono ?_
      rintro e w' ⟨rfl, rfl⟩
      have hG' : grownCap w (n + 1) c (ins_s_ren.t 9) = G := hG.symm
      have hT : (ins_s_ren.t 9) = 9 := rfl
      rw [hG', hT]
      obtain ⟨cur0, hcur0⟩ : ∃ x, x = (cs.take at_).toArray ++ Builtin.zeroCells (Value.string ⟨#[]⟩).cells (n + 1 - at_) ++ Builtin.zeroCells (Value.string ⟨#[]⟩).cells (G - (n + 1)) := ⟨_, rfl⟩
      have hs0 : cur0.size = G := by
        rw [hcur0, Array.size_append, Array.size_append, hzs, hzs, List.size_toArray, List.length_take]; omega
      have hc0 : ∀ k, k < at_ → cur0[k]? = cs[k]? := fun k hk => by
        rw [hcur0, Array.append_assoc, Array.getElem?_append_left (by rw [List.size_toArray, List.length_take]; omega), List.getElem?_toArray, List.getElem?_take_of_lt hk]
      rw [← hcur0]
      clear hcur0
      have hh0 : (w.alloc (.cells cur0 9)).drew.heap[w.heap.size]? = some (.cells cur0 9 (0, 0)) := heap_alloc_new w _
      obtain ⟨W0, hW0⟩ : ∃ W, W = (w.alloc (.cells cur0 9)).drew := ⟨_, rfl⟩
      have K0 : Kept (fun _ => False) w W0 := by rw [hW0]; exact kept_drew kept_alloc
      rw [← hW0] at hh0 ⊢
      clear hW0
      obtain ⟨gs, hgs⟩ : ∃ g, g = w.heap.size := ⟨_, rfl⟩
      rw [← hgs] at hh0 ⊢
      obtain ⟨cur1, hh1, hs1⟩ := setCells_heap [v] at_ W0 cur0 hh0
      have hh1' : (W0.setCells gs at_ [v]).drew.heap[gs]? = some (.cells cur1 9 (0, 0)) := hh1
      obtain ⟨cur2, hh2, hs2⟩ := setCells_heap (cs.drop at_) (at_ + 1) _ cur1 hh1'
      have c0 : ∀ j, W0.cell? ⟨gs, j, none⟩ = cur0[j]? := fun j => cell_of_row _ gs j cur0 _ (0, 0) hh0
      have c1s : ∀ j, j < n + 1 → ((W0.setCells gs at_ [v]).drew.cell? ⟨gs, j, none⟩).isSome = true := fun j hj => by
        rw [cell_of_row _ gs j cur1 _ (0, 0) hh1', Array.getElem?_eq_getElem (by omega)]; rfl
      have hdl : (cs.drop at_).length = n - at_ := by rw [List.length_drop]; omega
      refine ⟨some ⟨gs, 0, none⟩, G, rfl, own_cells hh2 (by omega) hG1 hG2 (by omega) hxl (fun k hk => ?_), .inr ⟨gs, rfl, by omega⟩, ?_⟩
      · rw [ins_get hl hi]
        by_cases hka : k < at_
        · rw [if_pos hka, World.cell?_setCells_out gs _ (at_ + 1) _ _ (fun _ _ => .inl (by show k < at_ + 1; omega))]
          show (W0.setCells gs at_ [v]).cell? _ = _
          rw [World.cell?_setCells_out gs [v] at_ _ _ (fun _ _ => .inl hka), c0]
          exact hc0 k hka
        · rw [if_neg hka]
          by_cases hke : k = at_
          · subst hke
            rw [if_pos rfl, World.cell?_setCells_out gs _ (k + 1) _ _ (fun _ _ => .inl (by show k < k + 1; omega))]
            have := World.cell?_setCells_in gs [v] k W0 (fun j hj => by
              have : j = 0 := by simp at hj; omega
              subst this; rw [c0, Array.getElem?_eq_getElem (by omega)]; rfl) 0 (by simp)
            exact this
          · rw [if_neg hke]
            have := World.cell?_setCells_in gs (cs.drop at_) (at_ + 1) (W0.setCells gs at_ [v]).drew (fun j hj => c1s _ (by omega)) (k - (at_ + 1)) (by omega)
            rw [show at_ + 1 + (k - (at_ + 1)) = k by omega] at this
            rw [this, ← List.getElem?_eq_getElem (by omega), List.getElem?_drop]
            congr 1; omega
      · have K2 : Kept (fun b => b = gs) W0 ((W0.setCells gs at_ [v]).drew.setCells gs (at_ + 1) (cs.drop at_)) := (kept_drew kept_setCells).trans kept_setCells (fun _ _ x => x)
        exact (K0.mono (F' := fun b => ablk (some (⟨g, 0, none⟩ : Addr)) = some b) (fun _ _ x => x.elim)).trans K2 (fun b hb e => by omega)
set_option maxHeartbeats 1000000 in
theorem ins_i_any {w : World} {base n c at_ vb : Nat} {A : Option Addr} {cs : List Value} {v : Value} (h : Own w base 3 1 A n c cs) (h1 : ∀ u ∈ cs, u.oneCell' = true) (hb : Blk w vb 3 [v]) (hv : v.oneCell' = true) (hne : ablk A ≠ some vb) (hi : at_ ≤ n) (hn : n ≤ 1000000) (hbase : base ≤ w.heap.size) :
    Calls Try.prog 45 #[.slice A n c, .int .i64 (at_ : Int), .slice (some ⟨vb, 0, none⟩) 1 1] w (InsTo w base A n 3 (cs.take at_ ++ v :: cs.drop at_)) := by
  have hl : cs.length = n := h.len1
  have hvs : ∀ j u, [v][j]? = some u → w.cell? ⟨vb, 0 + j, none⟩ = some u := fun j u hj => by rw [Nat.zero_add, hb.cell]; exact hj
  have h1v : ∀ u ∈ [v], u.oneCell' = true := fun u hu => by rw [List.mem_singleton] at hu; rw [hu]; exact hv
  have hxl : (cs.take at_ ++ v :: cs.drop at_).length = n + 1 := by simp; omega
  by_cases hroom : n + 1 ≤ c
  · rcases h.cases with ⟨_, _, rfl, _⟩ | ⟨g, cur, rfl, hg, hh, hnc, hc63, hsz, htk⟩
    · omega
    rw [Nat.mul_one] at htk
    have hcell : ∀ k, w.cell? ⟨g, k, none⟩ = cur[k]? := fun k => cell_of_row w g k cur 3 (0, 0) hh
    have hcs : ∀ j, j < n → w.cell? ⟨g, j, none⟩ = cs[j]? := fun j hj => by
      rw [hcell, ← htk, List.getElem?_take_of_lt hj, Array.getElem?_toList]
    have hsp : ∀ j, j < n + 1 → (w.cell? ⟨g, j, none⟩).isSome = true := fun j hj => by
      rw [hcell, Array.getElem?_eq_getElem (by omega)]; rfl
    have hfz : ∀ j, w.frozen? ⟨g, j, none⟩ = false := fun j => by simp [World.frozen?, hh]
    have hgv : vb ≠ g := fun e => hne (by rw [e]; rfl)
    by_cases hend : at_ = n
    · subst hend
      refine (Any2.slices_Insert_int_end_room ins_i_lay g 0 at_ c vb 0 1 1 [v] w (by omega) hroom hc63 rfl (fun j hj => by
          have : j = 0 := by omega
          subst this; rw [Nat.zero_add, Nat.add_zero]; exact hsp _ (by omega)) (fun j _ => by rw [Nat.zero_add]; exact hfz _) hvs h1v).mono ?_
      rintro e w' ⟨rfl, rfl⟩
      rw [Nat.zero_add]
      obtain ⟨cur', hh', hs'⟩ := setCells_heap [v] at_ w cur hh
      refine ⟨some ⟨g, 0, none⟩, c, rfl, own_cells hh' hg hroom hc63 (by omega) hxl (fun k hk => ?_), .inl rfl, kept_setCells.mono (fun b _ e => by rw [e]; rfl)⟩
      rw [ins_get hl (Nat.le_refl _)]
      by_cases hka : k < at_
      · rw [if_pos hka, World.cell?_setCells_out g [v] at_ w _ (fun _ _ => .inl hka)]; exact hcs k hka
      · have : k = at_ := by omega
        subst this
        rw [if_neg hka, if_pos rfl]
        have := World.cell?_setCells_in g [v] k w (fun j hj => by
          have : j = 0 := by simp at hj; omega
          subst this; exact hsp _ (by omega)) 0 (by simp)
        exact this
    · have hlt : at_ < n := by omega
      have hsh : w.shape? vb = some (3, 1) := by
        have := hb; unfold Blk at this; simp [World.shape?, this]
      have hsg : w.shape? g = some (3, cur.size) := by simp [World.shape?, hh]
      refine (Any2.slices_Insert_int_shift ins_i_lay g 0 n c at_ vb 0 1 1 cs [v] w hlt (by omega) hroom hc63 hgv hl rfl
        (fun j u hj => by rw [Nat.zero_add, hcs j (by have := (List.getElem?_eq_some_iff.1 hj).1; omega)]; exact hj) (fun j hj => by rw [Nat.zero_add]; exact hsp j hj) (fun j _ => by rw [Nat.zero_add]; exact hfz j)
        hvs h1 h1v _ _ _ _ hsh hsg (by omega) (hb.frozen 0) (hb.frozen 1)).mono ?_
      rintro e w' ⟨rfl, rfl⟩
      rw [Nat.zero_add, Nat.zero_add]
      have hh0 : w.drew.heap[g]? = some (.cells cur 3 (0, 0)) := hh
      obtain ⟨cur1, hh1, hs1⟩ := setCells_heap (cs.drop at_) (at_ + 1) w.drew cur hh0
      obtain ⟨cur2, hh2, hs2⟩ := setCells_heap [v] at_ _ cur1 hh1
      have hsp1 : ∀ j, j < n + 1 → ((w.drew.setCells g (at_ + 1) (cs.drop at_)).cell? ⟨g, j, none⟩).isSome = true := fun j hj => by
        rw [cell_of_row _ g j cur1 3 (0, 0) hh1, Array.getElem?_eq_getElem (by omega)]; rfl
      refine ⟨some ⟨g, 0, none⟩, c, rfl, own_cells hh2 hg hroom hc63 (by omega) hxl (fun k hk => ?_), .inl rfl, ?_⟩
      · rw [ins_get hl hi]
        by_cases hka : k < at_
        · rw [if_pos hka, World.cell?_setCells_out g [v] at_ _ _ (fun _ _ => .inl hka), World.cell?_setCells_out g _ (at_ + 1) _ _ (fun _ _ => .inl (by show k < at_ + 1; omega))]; exact hcs k (by omega)
        · rw [if_neg hka]
          by_cases hke : k = at_
          · subst hke
            rw [if_pos rfl]
            have := World.cell?_setCells_in g [v] k (w.drew.setCells g (k + 1) (cs.drop k)) (fun j hj => by
              have : j = 0 := by simp at hj; omega
              subst this; exact hsp1 _ (by omega)) 0 (by simp)
            exact this
          · rw [if_neg hke, World.cell?_setCells_out g [v] at_ _ _ (fun _ _ => .inr (by show at_ + 1 ≤ k; omega))]
            have hdl : k - (at_ + 1) < (cs.drop at_).length := by rw [List.length_drop]; omega
            have := World.cell?_setCells_in g (cs.drop at_) (at_ + 1) w.drew (fun j hj => by rw [List.length_drop] at hj; exact hsp _ (by omega)) (k - (at_ + 1)) hdl
            rw [show at_ + 1 + (k - (at_ + 1)) = k by omega] at this
            rw [this, ← List.getElem?_eq_getElem hdl, List.getElem?_drop]
            congr 1; omega
      · exact ((kept_drew (Kept.refl (fun b => b = g) w)).trans (kept_setCells.trans kept_setCells (fun _ _ x => x)) (fun _ _ x => x)).mono (fun b _ e => by rw [e]; rfl)
  · have hcap := h.cap
    have hmax : n + 1 ≤ maxLen := by unfold maxLen; omega
    obtain ⟨G, hG⟩ : ∃ G, G = grownCap w (n + 1) c 3 := ⟨_, rfl⟩
    have hG1 : n + 1 ≤ G := by rw [hG]; exact grownCap_ge _ _ _ _
    have hG2 : G ≤ 9223372036854775807 := by rw [hG]; have := grownCap_le_maxLen w (n + 1) c 3 hmax; unfold maxLen at this; omega
    have hzs : ∀ m, (Builtin.zeroCells (Value.int .i64 0).cells m).size = m := fun m => size_zeroCells1 _ rfl m
    by_cases hend : at_ = n
    · subst hend
      refine (Any2.slices_Insert_int_end_grow ins_i_lay A at_ c vb 0 1 1 cs [v] w (by omega) hcap.1 (by omega) (by omega) hl rfl (fun e => by
          rcases h.cases with ⟨_, h0, _⟩ | ⟨g, cur, rfl, _⟩
          · exact h0
          · cases e) (fun a ha j u hj => by
          have hjl := (List.getElem?_eq_some_iff.1 hj).1
          obtain ⟨g, e, _, _, h3, _⟩ := h.cell hjl
          rw [e] at ha; injection ha with ha; subst ha
          rw [Addr.add_lit, Nat.zero_add, h3, ← hj, List.getElem?_eq_getElem hjl]) hvs h1v).mono ?_
      rintro e w' ⟨rfl, rfl⟩
      have hG' : grownCap w (at_ + 1) c (ins_i_ren.t 3) = G := hG.symm
      have hT : (ins_i_ren.t 3) = 3 := rfl
      rw [hG', hT]
      have hx2 : cs.take at_ ++ v :: cs.drop at_ = cs ++ [v] := by rw [List.take_of_length_le (by omega), List.drop_eq_nil_of_le (by omega)]
      rw [hx2] at hxl ⊢
      refine ⟨some ⟨w.heap.size, 0, none⟩, G, rfl, own_cells (cur := (cs ++ [v]).toArray ++ Builtin.zeroCells (Value.int .i64 0).cells (G - (at_ + 1))) (heap_alloc_new w.drew _) hbase hG1 hG2 ?_ hxl (fun k hk => ?_), .inr ⟨_, rfl, Nat.le_refl _⟩, ?_⟩
      · rw [Array.size_append, hzs, List.size_toArray, hxl]; omega
      · rw [cell_of_row _ w.heap.size k _ _ (0, 0) (heap_alloc_new w.drew _), Array.getElem?_append_left (by rw [List.size_toArray, hxl]; exact hk), List.getElem?_toArray]
      · exact (kept_drew (Kept.refl _ w)).trans (kept_alloc (F := fun _ => False)) (fun _ _ x => x.elim)
    · have hlt : at_ < n := by omega
      rcases h.cases with ⟨_, h0, _⟩ | ⟨g, cur, rfl, hg, hh, hnc, hc63, hsz, htk⟩
      · omega
      rw [Nat.mul_one] at htk
      have hcs : ∀ j, j < n → w.cell? ⟨g, j, none⟩ = cs[j]? := fun j hj => by
        rw [cell_of_row w g j cur 3 (0, 0) hh, ← htk, List.getElem?_take_of_lt hj, Array.getElem?_toList]
      refine (Any2.slices_Insert_int_grow ins_i_lay g 0 n c at_ vb 0 1 1 cs [v] w hlt (by omega) hcap.1 (by omega) (by omega) hl rfl
        (fun j u hj => by rw [Nat.zero_add, hcs j (by have := (List.getElem?_eq_some_iff.1 hj).1; omega)]; exact hj) hvs h1 h1v).mono ?_
      rintro e w' ⟨rfl, rfl⟩
      have hG' : grownCap w (n + 1) c (ins_i_ren.t 3) = G := hG.symm
      have hT : (ins_i_ren.t 3) = 3 := rfl
      rw [hG', hT]
      obtain ⟨cur0, hcur0⟩ : ∃ x, x = (cs.take at_).toArray ++ Builtin.zeroCells (Value.int .i64 0).cells (n + 1 - at_) ++ Builtin.zeroCells (Value.int .i64 0).cells (G - (n + 1)) := ⟨_, rfl⟩
      have hs0 : cur0.size = G := by
        rw [hcur0, Array.size_append, Array.size_append, hzs, hzs, List.size_toArray, List.length_take]; omega
      have hc0 : ∀ k, k < at_ → cur0[k]? = cs[k]? := fun k hk => by
        rw [hcur0, Array.append_assoc, Array.getElem?_append_left (by rw [List.size_toArray, List.length_take]; omega), List.getElem?_toArray, List.getElem?_take_of_lt hk]
      rw [← hcur0]
      clear hcur0
      have hh0 : (w.alloc (.cells cur0 3)).drew.heap[w.heap.size]? = some (.cells cur0 3 (0, 0)) := heap_alloc_new w _
      obtain ⟨W0, hW0⟩ : ∃ W, W = (w.alloc (.cells cur0 3)).drew := ⟨_, rfl⟩
      have K0 : Kept (fun _ => False) w W0 := by rw [hW0]; exact kept_drew kept_alloc
      rw [← hW0] at hh0 ⊢
      clear hW0
      obtain ⟨gs, hgs⟩ : ∃ g, g = w.heap.size := ⟨_, rfl⟩
      rw [← hgs] at hh0 ⊢
      obtain ⟨cur1, hh1, hs1⟩ := setCells_heap [v] at_ W0 cur0 hh0
      have hh1' : (W0.setCells gs at_ [v]).drew.heap[gs]? = some (.cells cur1 3 (0, 0)) := hh1
      obtain ⟨cur2, hh2, hs2⟩ := setCells_heap (cs.drop at_) (at_ + 1) _ cur1 hh1'
      have c0 : ∀ j, W0.cell? ⟨gs, j, none⟩ = cur0[j]? := fun j => cell_of_row _ gs j cur0 _ (0, 0) hh0
      have c1s : ∀ j, j < n + 1 → ((W0.setCells gs at_ [v]).drew.cell? ⟨gs, j, none⟩).isSome = true := fun j hj => by
        rw [cell_of_row _ gs j cur1 _ (0, 0) hh1', Array.getElem?_eq_getElem (by omega)]; rfl
      have hdl : (cs.drop at_).length = n - at_ := by rw [List.length_drop]; omega
      refine ⟨some ⟨gs, 0, none⟩, G, rfl, own_cells hh2 (by omega) hG1 hG2 (by omega) hxl (fun k hk => ?_), .inr ⟨gs, rfl, by omega⟩, ?_⟩
      · rw [ins_get hl hi]
        by_cases hka : k < at_
        · rw [if_pos hka, World.cell?_setCells_out gs _ (at_ + 1) _ _ (fun _ _ => .inl (by show k < at_ + 1; omega))]
          show (W0.setCells gs at_ [v]).cell? _ = _
          rw [World.cell?_setCells_out gs [v] at_ _ _ (fun _ _ => .inl hka), c0]
          exact hc0 k hka
        · rw [if_neg hka]
          by_cases hke : k = at_
          · subst hke
            rw [if_pos rfl, World.cell?_setCells_out gs _ (k + 1) _ _ (fun _ _ => .inl (by show k < k + 1; omega))]
            have := World.cell?_setCells_in gs [v] k W0 (fun j hj => by
              have : j = 0 := by simp at hj; omega
              subst this; rw [c0, Array.getElem?_eq_getElem (by omega)]; rfl) 0 (by simp)
            exact this
          · rw [if_neg hke]
            have := World.cell?_setCells_in gs (cs.drop at_) (at_ + 1) (W0.setCells gs at_ [v]).drew (fun j hj => c1s _ (by omega)) (k - (at_ + 1)) (by omega)
            rw [show at_ + 1 + (k - (at_ + 1)) = k by omega] at this
            rw [this, ← List.getElem?_eq_getElem (by omega), List.getElem?_drop]
            congr 1; omega
      · have K2 : Kept (fun b => b = gs) W0 ((W0.setCells gs at_ [v]).drew.setCells gs (at_ + 1) (cs.drop at_)) := (kept_drew kept_setCells).trans kept_setCells (fun _ _ x => x)
        exact (K0.mono (F' := fun b => ablk (some (⟨g, 0, none⟩ : Addr)) = some b) (fun _ _ x => x.elim)).trans K2 (fun b hb e => by omega)
def DelTo (w : World) (base : Nat) (A : Option Addr) (n c : Nat) (e : TypeId) (xs : List Value) (en : Ending) (w' : World) : Prop := en = .returned (.slice A n c) ∧ Own w' base e 1 A n c xs ∧ Kept (fun b => ablk A = some b) w w'
theorem erase_split {α : Type} (l : List α) (i : Nat) : l.take i ++ l.drop (i + 1) = l.eraseIdx i := (List.eraseIdx_eq_take_drop_succ l i).symm
theorem putRow_heap {α : Type} [Inhabited α] (enc : α → Value) (w : World) (g q : Nat) (d : Array α) {cur : Array Value} {e : TypeId} (h : w.heap[g]? = some (.cells cur e (0, 0))) : (putRow enc (Sort.ahead w q) g 0 d).heap[g]? = some (.cells (putCells enc 0 d cur) e (0, 0)) := by
  simp [putRow, mapBlock, Sort.ahead, Array.getElem?_modify, h, onCells]
theorem putRow_kept {α : Type} [Inhabited α] (enc : α → Value) (w : World) (g q : Nat) (d : Array α) : Kept (fun b => b = g) w (putRow enc (Sort.ahead w q) g 0 d) := ⟨rfl, rfl, rfl, by simp [putRow, mapBlock, Sort.ahead], fun k _ hne => by
  have : g ≠ k := fun e => hne e.symm
  simp [putRow, mapBlock, Sort.ahead, Array.getElem?_modify, this]⟩
theorem del_i_any {w : World} {base n c at_ : Nat} {A : Option Addr} {l : List Int} (h : Own w base 3 1 A (n + 1) c (il l)) (hi : at_ < n + 1) :
    Calls Try.prog 44 #[.slice A (n + 1) c, .int .i64 (at_ : Int), .int .i64 ((at_ : Int) + 1)] w (DelTo w base A n c 3 (il (l.eraseIdx at_))) := by
  have hl : l.length = n + 1 := by have := h.len1; rwa [length_il] at this
  rcases h.cases with ⟨_, h0, _⟩ | ⟨g, cur, rfl, hg, hh, hnc, hc63, hsz, htk⟩
  · omega
  have hcell : ∀ k, w.cell? ⟨g, k, none⟩ = cur[k]? := fun k => cell_of_row w g k cur 3 (0, 0) hh
  have hH : Holds (Value.int .i64) w g 0 l.toArray := fun j hj => by
    have hj : j < l.length := by simpa using hj
    refine ⟨?_, by simp [World.frozen?, hh]⟩
    have h9 : (cur.toList.take ((n + 1) * 1))[j]? = cur.toList[j]? := List.getElem?_take_of_lt (by omega)
    rw [Nat.zero_add, hcell, ← Array.getElem?_toList, ← h9, htk, il, List.getElem?_map, List.getElem?_eq_getElem hj]
    simp [hj]
  have hd := Any.slices_Delete_int del_i_lay g 0 c at_ (at_ + 1) l w hH (by omega) hc63 (by omega) (by omega)
  rw [hl, show n + 1 - (at_ + 1 - at_) = n by omega, show ((at_ + 1 : Nat) : Int) = (at_ : Int) + 1 by omega] at hd
  refine hd.mono ?_
  rintro e w' ⟨rfl, q, rfl⟩
  have hne : (l.eraseIdx at_).length = n := by rw [List.length_eraseIdx_of_lt (by omega)]; omega
  have htl : (l.take at_ ++ l.drop (at_ + 1) ++ List.replicate (at_ + 1 - at_) (0 : Int)).length = n + 1 := by
    rw [erase_split, List.length_append, hne, List.length_replicate]; omega
  refine ⟨rfl, ⟨by rw [length_il]; omega, .inr ⟨g, c, _, rfl, hg, putRow_heap _ w g q _ hh, by omega, hc63, by simp [putCells]; omega, ?_⟩⟩, (putRow_kept _ _ _ _ _).mono (fun b _ e => by rw [e]; rfl)⟩
  have h3 := take_putCellsI cur (l.take at_ ++ l.drop (at_ + 1) ++ List.replicate (at_ + 1 - at_) (0 : Int)) (by omega)
  rw [htl] at h3
  rw [Nat.mul_one, erase_split]
  rw [erase_split] at h3
  have h4 : ((l.eraseIdx at_ ++ List.replicate (at_ + 1 - at_) (0 : Int)).map (Value.int .i64)).take n = il (l.eraseIdx at_) := by
    rw [← List.map_take, List.take_append_of_le_length (by omega), List.take_of_length_le (by omega)]; rfl
  rw [← h4, ← h3, List.take_take, Nat.min_eq_left (by omega)]
theorem sl_enc (l : List ByteArray) : sl l = (l.map ByteArray.toList).map encStr := by
  unfold sl
  rw [List.map_map]
  apply List.map_congr_left
  intro b _
  show Value.string b = Value.string ⟨b.toList.toArray⟩
  rw [ByteArray.toList_eq]
theorem del_s_any {w : World} {base n c at_ : Nat} {A : Option Addr} {l : List ByteArray} (h : Own w base 9 1 A (n + 1) c (sl l)) (hi : at_ < n + 1) :
    Calls Try.prog 43 #[.slice A (n + 1) c, .int .i64 (at_ : Int), .int .i64 ((at_ : Int) + 1)] w (DelTo w base A n c 9 (sl (l.eraseIdx at_))) := by
  have hl0 : l.length = n + 1 := by have := h.len1; rwa [length_sl] at this
  obtain ⟨z, hz⟩ : ∃ z, z = l.map ByteArray.toList := ⟨_, rfl⟩
  have hl : z.length = n + 1 := by rw [hz, List.length_map, hl0]
  rcases h.cases with ⟨_, h0, _⟩ | ⟨g, cur, rfl, hg, hh, hnc, hc63, hsz, htk⟩
  · omega
  rw [sl_enc, ← hz] at htk
  have hcell : ∀ k, w.cell? ⟨g, k, none⟩ = cur[k]? := fun k => cell_of_row w g k cur 9 (0, 0) hh
  have hH : Holds encStr w g 0 z.toArray := fun j hj => by
    have hj : j < z.length := by simpa using hj
    refine ⟨?_, by simp [World.frozen?, hh]⟩
    have h9 : (cur.toList.take ((n + 1) * 1))[j]? = cur.toList[j]? := List.getElem?_take_of_lt (by omega)
    rw [Nat.zero_add, hcell, ← Array.getElem?_toList, ← h9, htk, List.getElem?_map, List.getElem?_eq_getElem hj]
    simp [hj]
  have hd := Any.slices_Delete_string del_s_lay g 0 c at_ (at_ + 1) z w hH (by omega) hc63 (by omega) (by omega)
  rw [hl, show n + 1 - (at_ + 1 - at_) = n by omega, show ((at_ + 1 : Nat) : Int) = (at_ : Int) + 1 by omega] at hd
  refine hd.mono ?_
  rintro e w' ⟨rfl, q, rfl⟩
  have hne : (z.eraseIdx at_).length = n := by rw [List.length_eraseIdx_of_lt (by omega)]; omega
  have hze : (l.eraseIdx at_).map ByteArray.toList = z.eraseIdx at_ := by rw [hz, ← erase_split, ← erase_split, List.map_append, List.map_take, List.map_drop]
  have htl : (z.take at_ ++ z.drop (at_ + 1) ++ List.replicate (at_ + 1 - at_) ([] : List UInt8)).length = n + 1 := by
    rw [erase_split, List.length_append, hne, List.length_replicate]; omega
  refine ⟨rfl, ⟨by rw [sl_enc, hze, List.length_map]; omega, .inr ⟨g, c, _, rfl, hg, putRow_heap _ w g q _ hh, by omega, hc63, by simp [putCells]; omega, ?_⟩⟩, (putRow_kept _ _ _ _ _).mono (fun b _ e => by rw [e]; rfl)⟩
  have h3 := take_putCells cur (z.take at_ ++ z.drop (at_ + 1) ++ List.replicate (at_ + 1 - at_) ([] : List UInt8)) (by omega)
  rw [htl] at h3
  rw [Nat.mul_one, erase_split, sl_enc, hze]
  rw [erase_split] at h3
  have h4 : ((z.eraseIdx at_ ++ List.replicate (at_ + 1 - at_) ([] : List UInt8)).map encStr).take n = (z.eraseIdx at_).map encStr := by
    rw [← List.map_take, List.take_append_of_le_length (by omega), List.take_of_length_le (by omega)]
  rw [← h4, ← h3, List.take_take, Nat.min_eq_left (by omega)]
end Go.Proofs.Ytdakohbfibcjeaa
