/- Slices of the call's own, that grow by append. No condition. -/
import Derived.Test.YtjndopmjlbhajaaMem
import Derived.Maps.AppendAt
namespace Go.Proofs.Ytjndopmjlbhajaa
open Go.RowKit

def ablk (A : Option Addr) : Option Nat := A.map (·.block)
@[simp] theorem ablk_none : ablk none = none := rfl
@[simp] theorem ablk_some (a : Addr) : ablk (some a) = some a.block := rfl

theorem one_int (k : IntKind) (n : Int) : ∀ u ∈ [Value.int k n], u.oneCell' = true := by
  intro u hu
  rw [List.mem_singleton] at hu
  subst hu
  rfl

/-- a slice's length: for a loop's measure -/
def slen : Value → Nat | .slice _ n _ => n | _ => 0

/-- '.slice A n c' is nil, or the head of a block from base on: its n elements, of s cells each, are the cells xs. -/
def Own (w : World) (base : Nat) (e : TypeId) (s : Nat) (A : Option Addr) (n c : Nat) (xs : List Value) : Prop := w.ownsRow base e s (.slice A n c) n xs

section
variable {w w' : World} {base base' n c B s : Nat} {e : TypeId} {A : Option Addr} {xs : List Value}
theorem Own.len (h : Own w base e s A n c xs) : xs.length = n * s := h.1
theorem Own.len1 (h : Own w base e 1 A n c xs) : xs.length = n := by have := h.1; omega
theorem Own.nil_ (w : World) (base : Nat) (e : TypeId) (s : Nat) : Own w base e s none 0 0 [] := World.ownsRow_nil w base e s
theorem Own.cases (h : Own w base e s A n c xs) : (A = none ∧ n = 0 ∧ c = 0 ∧ xs = []) ∨
    ∃ g cur, A = some ⟨g, 0, none⟩ ∧ base ≤ g ∧ w.heap[g]? = some (.cells cur e (0, 0)) ∧ n ≤ c ∧ c ≤ 9223372036854775807 ∧ cur.size = c * s ∧ cur.toList.take (n * s) = xs := by
  rcases h.2 with ⟨h1, h2⟩ | ⟨g, cap, cur, hv, hg, hh, hnc, hcm, hs, ht⟩
  · injection h1 with ha hn hc
    subst ha hn hc
    exact .inl ⟨rfl, rfl, rfl, List.eq_nil_of_length_eq_zero (by have := h.1; omega)⟩
  · injection hv with ha hn hc
    subst ha hc
    exact .inr ⟨g, cur, rfl, hg, hh, hnc, hcm, hs, ht⟩
theorem Own.cap (h : Own w base e s A n c xs) : n ≤ c ∧ c ≤ 9223372036854775807 := by
  rcases h.cases with ⟨_, rfl, rfl, _⟩ | ⟨g, cur, _, _, _, h1, h2, _⟩
  · omega
  · exact ⟨h1, h2⟩
theorem Own.blk (h : Own w base e s A n c xs) {g : Nat} (hg : ablk A = some g) : base ≤ g ∧ g < w.heap.size := h.lt g (by
  cases A with
  | none => simp at hg
  | some a => simpa [Value.ownBlock] using hg)
theorem Own.head (h : Own w base e s A n c xs) (hn : 0 < n) : ∃ g, A = some ⟨g, 0, none⟩ ∧ base ≤ g ∧ g < w.heap.size := by
  rcases h.cases with ⟨_, rfl, _⟩ | ⟨g, cur, rfl, hb, hh, _⟩
  · omega
  · exact ⟨g, rfl, hb, (Array.getElem?_eq_some_iff.1 hh).1⟩
theorem Own.rd (h : Own w base e s A n c xs) : Rd w base A xs := fun hn => by
  rcases h.cases with ⟨_, _, _, rfl⟩ | ⟨g, cur, rfl, hb, hh, _, _, hs, ht⟩
  · simp at hn
  · refine ⟨g, 0, rfl, hb, (Array.getElem?_eq_some_iff.1 hh).1, fun k hk => ?_⟩
    subst ht
    rw [Nat.zero_add, cell_of_row w g k cur e (0, 0) hh]
    simp only [List.length_take, Array.length_toList] at hk
    simp [show k < cur.size by omega]
theorem Own.keep (h : Own w base e s A n c xs) {row : Option Nat} (hg : w.grownBy w' row) (hne : ablk A = none ∨ ablk A ≠ row) : Own w' base e s A n c xs :=
  World.ownsRow.kept h hg (by
    cases A with
    | none => exact .inl rfl
    | some a => exact .inr (by simpa [Value.ownBlock] using hne))
theorem Own.below (h : Own w base e s A n c xs) (hb : Below B w w') (hB : w.heap.size ≤ B) : Own w' base e s A n c xs :=
  h.keep (row := none) ⟨hb.os, hb.tape, hb.output, hb.size, fun k hk _ => hb.block k (by omega)⟩ (by cases A <;> simp)
theorem Own.alloc (h : Own w base e s A n c xs) (o : Obj) : Own (w.alloc o) base e s A n c xs := World.ownsRow.alloc h o
theorem Own.drew (h : Own w base e s A n c xs) : Own w.drew base e s A n c xs := h
theorem Own.drewN (h : Own w base e s A n c xs) (k : Nat) : Own (w.drewN k) base e s A n c xs := h
theorem Own.far (h : Own w base e s A n c xs) {p : Addr} (hp : p.block < base) (u : Value) : Own (w.setCell p u) base e s A n c xs := ownsRow_setCell_below h hp u
theorem Own.weak (h : Own w base e s A n c xs) (hb : base' ≤ base) : Own w base' e s A n c xs := by
  refine ⟨h.1, ?_⟩
  rcases h.2 with h2 | ⟨g, cap, cur, hv, hg, r⟩
  · exact .inl h2
  · exact .inr ⟨g, cap, cur, hv, by omega, r⟩
theorem Own.take (h : Own w base e s A n c xs) {k : Nat} (hk : k ≤ n) : Own w base e s A k c (xs.take (k * s)) := by
  rcases h.cases with ⟨rfl, rfl, rfl, rfl⟩ | ⟨g, cur, rfl, hb, hh, h1, h2, h3, h4⟩
  · obtain rfl : k = 0 := by omega
    simpa using Own.nil_ w base e s
  · refine ⟨by rw [List.length_take, h.len]; exact Nat.min_eq_left (Nat.mul_le_mul_right _ hk), .inr ⟨g, c, cur, rfl, hb, hh, by omega, h2, h3, ?_⟩⟩
    subst h4
    rw [List.take_take, Nat.min_eq_left (Nat.mul_le_mul_right _ hk)]
/-- a block that was just laid, whole -/
theorem Own.lit (w : World) (e : TypeId) (cs : List Value) {n g : Nat} (hm : n ≤ 9223372036854775807) (hn : cs.length = n * s) (hb : base ≤ g) (hg : g = w.heap.size) : Own (w.alloc (.cells cs.toArray e)) base e s (some ⟨g, 0, none⟩) n n cs := by
  subst hg
  exact ⟨hn, .inr ⟨w.heap.size, n, cs.toArray, rfl, hb, heap_alloc_new w _, Nat.le_refl _, hm, by simpa using hn, by rw [← hn]; simp⟩⟩
theorem Own.cell (h : Own w base e s A n c xs) {k : Nat} (hk : k < xs.length) : ∃ g, A = some ⟨g, 0, none⟩ ∧ base ≤ g ∧ g < w.heap.size ∧ w.cell? ⟨g, k, none⟩ = some xs[k] ∧ w.frozen? ⟨g, k, none⟩ = false := by
  obtain ⟨b, o, e1, h1, h2, hc⟩ := h.rd (by omega)
  rcases h.cases with ⟨rfl, _⟩ | ⟨g, cur, rfl, hb, hh, _⟩
  · cases e1
  · injection e1 with e1
    injection e1 with e2 e3
    subst e2 e3
    refine ⟨g, rfl, hb, h2, by have := hc k hk; rwa [Nat.zero_add] at this, by simp [World.frozen?, hh]⟩
theorem Own.set_ {g : Nat} (h : Own w base e s (some ⟨g, 0, none⟩) n c xs) (j : Nat) (u : Value) : Own (w.setCell ⟨g, j, none⟩ u) base e s (some ⟨g, 0, none⟩) n c (xs.set j u) := by
  rcases h.cases with ⟨h0, _⟩ | ⟨g', cur, e1, hb, hh, h1, h2, h3, h4⟩
  · cases h0
  · injection e1 with e1
    injection e1 with e1
    subst e1
    refine ⟨by rw [List.length_set, h.len], .inr ⟨g, c, cur.setIfInBounds j u, rfl, hb, heap_setCell_same w g j cur e u hh, h1, h2, by simp [h3], ?_⟩⟩
    subst h4
    simp [List.take_set]
end

theorem below_own {w0 w w' : World} {base B n c s : Nat} {e : TypeId} {A : Option Addr} {xs : List Value} (hb : Below B w0 w) (ho : Own w base e s A n c xs) (hg : w.grownBy w' (ablk A)) (h1 : B ≤ base) (h2 : B ≤ w.heap.size) : Below B w0 w' :=
  hb.grown hg h2 (fun k hk => by have := (ho.blk hk).1; omega)

theorem rd_one {w : World} {g : Nat} (x : Value) (e : TypeId) (hg : g = w.heap.size) : Rd (w.alloc (.cells #[x] e)) 0 (some ⟨g, 0, none⟩) [x] := (Blk.new_at (cs := [x]) hg).rd0 (Nat.zero_le _)

theorem own_ne {w : World} {base e s n c g : Nat} {A : Option Addr} {xs : List Value} (ho : Own w base e s A n c xs) (hg : g < base) : some g ≠ ablk A := fun h => by
  have := (ho.blk h.symm).1
  omega

section
variable {P : Program}
theorem run_app (w : World) (base : Nat) (t ty e : TypeId) (z : Value) (s bytes : Nat) (ht : P.underlying t = some (.slice e)) (hi : (P.info? e).map (fun i => (i.zero, i.size, i.bytes)) = some (some z, s, bytes)) (hzs : z.cells.size = s) (hs0 : 0 < s)
    (A : Option Addr) (n c : Nat) (xs : List Value) (hown : Own w base e s A n c xs)
    (X : Option Addr) (m cx lo : Nat) (news : List Value) (hr : Rd w lo X news) (hl : news.length = m * s) (h1 : ∀ u ∈ news, u.oneCell' = true)
    (h63 : n + m ≤ 9223372036854775807) (hbytes : (n + m) * bytes ≤ 140737488355328) (hbase : base ≤ w.heap.size) :
    ∃ A' c' w', (Builtin.append_ #[t, t] ty #[.slice A n c, .slice X m cx]).run P w = .ok (.slice A' (n + m) c') w' ∧ Own w' base e s A' (n + m) c' (xs ++ news) ∧ w.grownBy w' (ablk A) ∧
      (ablk A' = ablk A ∨ ablk A' = some w.heap.size) := by
  obtain ⟨i, hi, hz, hsz, hby⟩ := info_parts hi
  rcases X with _ | ad
  · have hm : m = 0 := by
      rcases Nat.eq_zero_or_pos m with h0 | h0
      · exact h0
      · obtain ⟨_, _, h, _⟩ := hr (by rw [hl]; exact Nat.mul_pos h0 hs0)
        cases h
    subst hm
    have hn : news = [] := List.eq_nil_of_length_eq_zero (by simpa using hl)
    subst hn
    refine ⟨A, c, w, ?_, by simpa using hown, World.grownBy.refl w _, .inl rfl⟩
    rcases hown.cases with ⟨rfl, rfl, rfl, rfl⟩ | ⟨g, cur, rfl, _, _, hnc, _⟩
    · simp [Builtin.append_, run_underlying ht, sizeOf, typeInfo, hi, Builtin.lenOf, Builtin.firstCells]
    · simp [Builtin.append_, run_underlying ht, sizeOf, typeInfo, hi, Builtin.lenOf, Builtin.firstCells, hnc, storeCells]
  · have hcells : ∀ j u, news[j]? = some u → w.cell? (ad.add j) = some u := by
      intro j u hu
      have hj : j < news.length := (List.getElem?_eq_some_iff.1 hu).1
      obtain ⟨b, o, h, _, _, hc⟩ := hr (by omega)
      injection h with h
      subst h
      rw [Addr.add_lit, hc j hj, ← hu, List.getElem?_eq_getElem hj]
    obtain ⟨v', w', hrun, h2, h3, _, h5⟩ := run_append_own_at (P := P) w base t ty e i z s bytes ht hi hz hsz hby hzs hs0 _ n xs hown ad m cx news hl hcells h1 h63 hbytes hbase
    have hv : ∃ A' c', v' = .slice A' (n + m) c' := by
      rcases h2.2 with ⟨h2, h0⟩ | ⟨g, cap, cur, h2, _⟩
      · exact ⟨none, 0, by rw [h2, h0]⟩
      · exact ⟨_, _, h2⟩
    obtain ⟨A', c', rfl⟩ := hv
    refine ⟨A', c', w', hrun, h2, ?_, ?_⟩
    · cases A <;> exact h3
    · cases A <;> cases A' <;> exact h5

theorem wpOp_app {w : World} {o : Oper} {a : Act} {K : Act → World → Prop} {Q : Exit → Act → World → Prop} (d x : Operand) (t : TypeId)
    (ho : o.op = .call { callee := .builtin .append, args := #[d, x], argTypes := #[t, t] })
    (e : TypeId) {z : Value} (s : Nat) {bytes : Nat} (ht : P.underlying t = some (.slice e)) (hi : (P.info? e).map (fun i => (i.zero, i.size, i.bytes)) = some (some z, s, bytes)) (hzs : z.cells.size = s) (hs0 : 0 < s)
    {base : Nat} {A : Option Addr} {n c : Nat} {xs : List Value} (hd : a.eval d = .slice A n c) (hown : Own w base e s A n c xs)
    {X : Option Addr} {m cx lo : Nat} {news : List Value} (hx : a.eval x = .slice X m cx) (hr : Rd w lo X news) (hl : news.length = m * s) (h1 : ∀ u ∈ news, u.oneCell' = true)
    (h63 : n + m ≤ 9223372036854775807) (hbytes : (n + m) * bytes ≤ 140737488355328) (hbase : base ≤ w.heap.size)
    (h : ∀ A' c' w', Own w' base e s A' (n + m) c' (xs ++ news) → w.grownBy w' (ablk A) → (ablk A' = ablk A ∨ ablk A' = some w.heap.size) → K (a.put o.dst (.slice A' (n + m) c')) w') : o.wp P a w K Q := by
  obtain ⟨A', c', w', hrun, h2, h3, h4⟩ := run_app (P := P) w base t o.type e z s bytes ht hi hzs hs0 A n c xs hown X m cx lo news hr hl h1 h63 hbytes hbase
  unfold Oper.wp execOp
  simp only [ho, resolve, invoke, builtin, Sem.run_bind, Sem.run_pure, Result.andThen_ok, List.map_toArray, List.map_cons, List.map_nil, hd, hx, hrun]
  exact h A' c' w' h2 h3 h4

theorem wpList_app {w : World} {ops : Array Oper} {rest : List Oper} {o : Oper} {a : Act} {Q : Exit → Act → World → Prop} (hgd : o.guard = none) (d x : Operand) (t : TypeId)
    (ho : o.op = .call { callee := .builtin .append, args := #[d, x], argTypes := #[t, t] })
    (e : TypeId) {z : Value} (s : Nat) {bytes : Nat} (ht : P.underlying t = some (.slice e)) (hi : (P.info? e).map (fun i => (i.zero, i.size, i.bytes)) = some (some z, s, bytes)) (hzs : z.cells.size = s) (hs0 : 0 < s)
    {base : Nat} {A : Option Addr} {n c : Nat} {xs : List Value} (hd : a.eval d = .slice A n c) (hown : Own w base e s A n c xs)
    {X : Option Addr} {m cx lo : Nat} {news : List Value} (hx : a.eval x = .slice X m cx) (hr : Rd w lo X news) (hl : news.length = m * s) (h1 : ∀ u ∈ news, u.oneCell' = true)
    (h63 : n + m ≤ 9223372036854775807) (hbytes : (n + m) * bytes ≤ 140737488355328) (hbase : base ≤ w.heap.size)
    (h : ∀ A' c' w', Own w' base e s A' (n + m) c' (xs ++ news) → w.grownBy w' (ablk A) → (ablk A' = ablk A ∨ ablk A' = some w.heap.size) → wpList P ops Q rest (a.put o.dst (.slice A' (n + m) c')) w') : wpList P ops Q (o :: rest) a w :=
  wpList_plain hgd fun _ hK => wpOp_app d x t ho e s ht hi hzs hs0 hd hown hx hr hl h1 h63 hbytes hbase fun A' c' w' h2 h3 h4 => hK _ _ (h A' c' w' h2 h3 h4)

theorem step_app {w : World} {ops : Array Oper} {o : Oper} {a : Act} {K : Act → World → Prop} {Q : Exit → Act → World → Prop} {E : Prop} (hgd : o.guard = none) (d x : Operand) (t : TypeId)
    (ho : o.op = .call { callee := .builtin .append, args := #[d, x], argTypes := #[t, t] })
    (e : TypeId) {z : Value} (s : Nat) {bytes : Nat} (ht : P.underlying t = some (.slice e)) (hi : (P.info? e).map (fun i => (i.zero, i.size, i.bytes)) = some (some z, s, bytes)) (hzs : z.cells.size = s) (hs0 : 0 < s)
    {base : Nat} {A : Option Addr} {n c : Nat} {xs : List Value} (hd : a.eval d = .slice A n c) (hown : Own w base e s A n c xs)
    {X : Option Addr} {m cx lo : Nat} {news : List Value} (hx : a.eval x = .slice X m cx) (hr : Rd w lo X news) (hl : news.length = m * s) (h1 : ∀ u ∈ news, u.oneCell' = true)
    (h63 : n + m ≤ 9223372036854775807) (hbytes : (n + m) * bytes ≤ 140737488355328) (hbase : base ≤ w.heap.size)
    (h : ∀ A' c' w', Own w' base e s A' (n + m) c' (xs ++ news) → w.grownBy w' (ablk A) → (ablk A' = ablk A ∨ ablk A' = some w.heap.size) → K (a.put o.dst (.slice A' (n + m) c')) w') :
    if Region.wanted o (yielded ops a.tmps) = true then Oper.wp P o a w K Q else E := by
  have hw : Region.wanted o (yielded ops a.tmps) = true := by simp [Region.wanted, hgd]
  rw [if_pos hw]
  exact wpOp_app d x t ho e s ht hi hzs hs0 hd hown hx hr hl h1 h63 hbytes hbase h
end
end Go.Proofs.Ytjndopmjlbhajaa
