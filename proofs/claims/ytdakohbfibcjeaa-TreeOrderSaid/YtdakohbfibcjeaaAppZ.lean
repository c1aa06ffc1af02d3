/- append(xs, make([]T, m)...) where xs is the call's own and not nil. No condition. -/
import Derived.Test.YtdakohbfibcjeaaTvA
import Derived.Lib.AppendZeros
namespace Go.Proofs.Ytdakohbfibcjeaa
open Go.RowKit

theorem zeroCells_one (z : Value) (m : Nat) : Builtin.zeroCells #[z] m = (List.replicate m z).toArray := by
  apply Array.ext
  · simp [Builtin.zeroCells]
  · intro i h1 h2
    simp [Builtin.zeroCells, Nat.mod_one]

section
variable {P : Program}
theorem run_app_zeros (w : World) (base : Nat) (t tn ty e : TypeId) (z : Value) (bytes : Nat) (k kn : IntKind) (ht : P.underlying t = some (.slice e)) (htn : P.underlying tn = some (.int kn)) (hi : (P.info? e).map (fun i => (i.zero, i.size, i.bytes)) = some (some z, 1, bytes)) (hzs : z.cells = #[z]) (hz1 : z.oneCell' = true)
    (g n c : Nat) (xs : List Value) (hown : Own w base e 1 (some ⟨g, 0, none⟩) n c xs)
    (m : Nat) (hm : 0 < m) (h63 : n + m ≤ 9223372036854775807) (hbytes : (n + m) * bytes ≤ 140737488355328) (hbase : base ≤ w.heap.size) :
    ∃ A' c' w', (Builtin.append_ #[t, tn] ty #[.slice (some ⟨g, 0, none⟩) n c, .int k m]).run P w = .ok (.slice A' (n + m) c') w' ∧ Own w' base e 1 A' (n + m) c' (xs ++ List.replicate m z) ∧ w.grownBy w' (some g) ∧
      (ablk A' = some g ∨ ablk A' = some w.heap.size) := by
  obtain ⟨i, hi', hz, hsz, hby⟩ := info_parts hi
  clear hi
  have hi := hi'
  clear hi'
  rcases hown.cases with ⟨h0, _⟩ | ⟨g', cur, e1, hb, hh, hnc, hcm, hcs, htake⟩
  · cases h0
  injection e1 with e1
  injection e1 with e1
  subst e1
  have hxl := hown.len1
  have hw : IntKind.i64.wrap (m : Int) = m := IntWalk.i64_in _ (by omega)
  have hneg : ¬ ((m : Int) < 0) := by omega
  have hmb : m * bytes ≤ 140737488355328 := Nat.le_trans (Nat.mul_le_mul_right _ (by omega)) hbytes
  have h48i : ¬ (281474976710656 < (m : Int) * (bytes : Int)) := by
    rw [← Int.natCast_mul]
    omega
  have hns : ¬ (m * i.size = 0) := by rw [hsz]; omega
  by_cases hroom : n + m ≤ c
  · have hst := run_storeCells_at P g (n * 1) e (List.replicate m z) 0 cur w hh (by simp; omega) (by intro u hu; rw [(List.mem_replicate.1 hu).2]; exact hz1)
    simp only [Nat.add_zero] at hst
    refine ⟨some ⟨g, 0, none⟩, c, _, ?_, ⟨by simp [hxl], .inr ⟨g, c, (cur.toList.take (n * 1) ++ List.replicate m z ++ cur.toList.drop (n * 1 + (List.replicate m z).length)).toArray, rfl, hb, setRow_heap w g cur _ e _ hh, hroom, hcm, ?_, ?_⟩⟩, ⟨rfl, rfl, rfl, by simp, fun k _ hk => setRow_other w g k _ (fun e => hk (by rw [e]))⟩, .inl rfl⟩
    · have hst' : (storeCells ⟨g, n, none⟩ (List.replicate m z)).run P w = .ok () (w.setRow g (cur.toList.take (n * 1) ++ List.replicate m z ++ cur.toList.drop (n * 1 + (List.replicate m z).length)).toArray) := by
        simpa using hst
      simp [Builtin.append_, run_underlying ht, run_underlying htn, sizeOf, typeInfo, zeroValue, hi, hz, hby, asInt, asIntOf, hw, hneg, h48i, hsz, Nat.pos_iff_ne_zero.1 hm, hroom, Addr.add_lit, hzs, zeroCells_one]
      simp at hst'
      rw [hst']
      simp
    · simp [hcs]; omega
    · simp only [Nat.mul_one] at htake ⊢
      rw [htake, List.take_left' (by simp [hxl])]
  · have hfo := run_firstCells_some (P := P) w.drew i.size n ⟨g, 0, none⟩ n c xs (by rw [hxl, hsz]; omega) (by
      intro j u hu
      have hj : j < xs.length := (List.getElem?_eq_some_iff.1 hu).1
      obtain ⟨g2, e2, _, _, hc, _⟩ := hown.cell hj
      injection e2 with e2
      injection e2 with e2
      subst e2
      show w.cell? _ = _
      rw [Addr.add_lit, Nat.zero_add, hc, ← hu, List.getElem?_eq_getElem hj])
    have hn : ¬ (n + m ≤ c) := hroom
    have h63' : ¬ (9223372036854775807 < ((n : Int) + (m : Int))) := by omega
    have h48' : ¬ (281474976710656 < Builtin.nextslicecap (n + m) c * bytes) := by
      have := growslice_fits (show c < n + m by omega) hbytes
      omega
    have hge := grownCap_ge w (n + m) c e
    have hcm2 : grownCap w (n + m) c e ≤ maxLen := grownCap_le_maxLen w (n + m) c e h63
    refine ⟨some ⟨w.heap.size, 0, none⟩, grownCap w (n + m) c e, w.drew.alloc (.cells (xs.toArray ++ (List.replicate m z).toArray ++ Builtin.zeroCells z.cells (grownCap w (n + m) c e - (n + m))) e), ?_, ⟨by simp [hxl], .inr ⟨w.heap.size, _, _, rfl, hbase, heap_alloc_new w.drew _, hge, hcm2, ?_, ?_⟩⟩, ⟨rfl, rfl, rfl, by simp, fun k hk _ => heap_alloc_old w.drew _ hk⟩, .inr rfl⟩
    · simp [Builtin.append_, run_underlying ht, run_underlying htn, sizeOf, typeInfo, zeroValue, hi, hz, hby, asInt, asIntOf, hw, hneg, h48i, hsz, Nat.pos_iff_ne_zero.1 hm, hn, h63', h48', Question.forced, newRow, grownCap, hzs, zeroCells_one]
      rw [hsz] at hfo
      rw [hfo]
      simp
    · simp [hzs, zeroCells_one, hxl]; omega
    · simp only [Nat.mul_one]
      rw [Array.toList_append, Array.toList_append, List.take_left' (by simp [hxl])]

theorem wpList_app_zeros {w : World} {ops : Array Oper} {rest : List Oper} {o : Oper} {a : Act} {Q : Exit → Act → World → Prop} (hgd : o.guard = none) (d x : Operand) (t tn : TypeId)
    (ho : o.op = .call { callee := .builtin .append, args := #[d, x], argTypes := #[t, tn] })
    (e : TypeId) {z : Value} {bytes : Nat} {k kn : IntKind} (ht : P.underlying t = some (.slice e)) (htn : P.underlying tn = some (.int kn)) (hi : (P.info? e).map (fun i => (i.zero, i.size, i.bytes)) = some (some z, 1, bytes)) (hzs : z.cells = #[z]) (hz1 : z.oneCell' = true)
    {base g n c : Nat} {xs : List Value} (hd : a.eval d = .slice (some ⟨g, 0, none⟩) n c) (hown : Own w base e 1 (some ⟨g, 0, none⟩) n c xs)
    {m : Nat} (hx : a.eval x = .int k m) (hm : 0 < m) (h63 : n + m ≤ 9223372036854775807) (hbytes : (n + m) * bytes ≤ 140737488355328) (hbase : base ≤ w.heap.size)
    (h : ∀ A' c' w', Own w' base e 1 A' (n + m) c' (xs ++ List.replicate m z) → w.grownBy w' (some g) → (ablk A' = some g ∨ ablk A' = some w.heap.size) → wpList P ops Q rest (a.put o.dst (.slice A' (n + m) c')) w') : wpList P ops Q (o :: rest) a w := by
  obtain ⟨A', c', w', hrun, h2, h3, h4⟩ := run_app_zeros (P := P) w base t tn o.type e z bytes k kn ht htn hi hzs hz1 g n c xs hown m hm h63 hbytes hbase
  exact Lib.wpList_append_run w hgd d x t tn ho _ _ hd hx _ _ hrun (h A' c' w' h2 h3 h4)

/-- the call's own, or full: what is appended to it goes to the call's own -/
def Ap (w : World) (base : Nat) (A : Option Addr) (n c : Nat) (xs : List Value) : Prop := Own w base 5 1 A n c xs ∨ (n = c ∧ 0 < n ∧ xs.length = n ∧ Rd w 0 A xs)
theorem run_ap (w : World) (base : Nat) (t ty : TypeId) (z : Value) (ht : P.underlying t = some (.slice 5)) (hi : (P.info? 5).map (fun i => (i.zero, i.size, i.bytes)) = some (some z, 1, 1)) (hzs : z.cells.size = 1)
    (A : Option Addr) (n c : Nat) (xs : List Value) (hown : Ap w base A n c xs)
    (X : Option Addr) (m cx lo : Nat) (news : List Value) (hr : Rd w lo X news) (hl : news.length = m * 1) (hm : 0 < m) (h1 : ∀ u ∈ news, u.oneCell' = true)
    (hbytes : n + m ≤ 140737488355328) (hbase : base ≤ w.heap.size) :
    ∃ A' c' w', (Builtin.append_ #[t, t] ty #[.slice A n c, .slice X m cx]).run P w = .ok (.slice A' (n + m) c') w' ∧ Own w' base 5 1 A' (n + m) c' (xs ++ news) ∧ w.grownBy w' (ablk A) ∧
      (ablk A' = ablk A ∨ ablk A' = some w.heap.size) := by
  rcases hown with ho | ⟨rfl, hn0, hxl, hx⟩
  · exact run_app w base t ty 5 z 1 1 ht hi hzs (by omega) A n c xs ho X m cx lo news hr hl h1 (by omega) (by omega) hbase
  · obtain ⟨i, hi', hz, hsz, hby⟩ := info_parts hi
    obtain ⟨b, o, rfl, _, _, hc⟩ := hx (by omega)
    obtain ⟨b2, o2, rfl, _, _, hc2⟩ := hr (by omega)
    have hrun := run_append_grow (P := P) w t ty 5 i z ht hi' hz ⟨b, o, none⟩ n n xs (by rw [hxl, hsz]; omega)
      (fun j u hu => by
        have hj : j < xs.length := (List.getElem?_eq_some_iff.1 hu).1
        rw [Addr.add_lit, hc j hj, ← hu, List.getElem?_eq_getElem hj])
      ⟨b2, o2, none⟩ m cx news (by rw [hl, hsz])
      (fun j u hu => by
        have hj : j < news.length := (List.getElem?_eq_some_iff.1 hu).1
        rw [Addr.add_lit, hc2 j hj, ← hu, List.getElem?_eq_getElem hj])
      (by omega) (by omega) (growslice_fits (by omega) (by rw [hby]; omega))
    have hge := grownCap_ge w (n + m) n 5
    have hcm2 : grownCap w (n + m) n 5 ≤ maxLen := grownCap_le_maxLen w (n + m) n 5 (by simp [maxLen]; omega)
    refine ⟨_, _, _, hrun, ⟨by rw [List.length_append]; omega, .inr ⟨w.heap.size, _, _, rfl, hbase, heap_alloc_new w.drew _, hge, hcm2, ?_, ?_⟩⟩, ⟨rfl, rfl, rfl, by simp, fun k hk _ => heap_alloc_old w.drew _ hk⟩, .inr rfl⟩
    · simp only [Array.size_append, List.size_toArray, size_zeroCells, hzs, hxl, hl]
      omega
    · rw [Array.toList_append, Array.toList_append]
      simp only [Nat.mul_one]
      rw [List.take_left' (by simp [hxl, hl])]

theorem wpList_ap {w : World} {ops : Array Oper} {rest : List Oper} {o : Oper} {a : Act} {Q : Exit → Act → World → Prop} (hgd : o.guard = none) (d x : Operand) (t : TypeId)
    (ho : o.op = .call { callee := .builtin .append, args := #[d, x], argTypes := #[t, t] })
    {z : Value} (ht : P.underlying t = some (.slice 5)) (hi : (P.info? 5).map (fun i => (i.zero, i.size, i.bytes)) = some (some z, 1, 1)) (hzs : z.cells.size = 1)
    {base : Nat} {A : Option Addr} {n c : Nat} {xs : List Value} (hd : a.eval d = .slice A n c) (hown : Ap w base A n c xs)
    {X : Option Addr} {m cx lo : Nat} {news : List Value} (hx : a.eval x = .slice X m cx) (hr : Rd w lo X news) (hl : news.length = m * 1) (hm : 0 < m) (h1 : ∀ u ∈ news, u.oneCell' = true)
    (hbytes : n + m ≤ 140737488355328) (hbase : base ≤ w.heap.size)
    (h : ∀ A' c' w', Own w' base 5 1 A' (n + m) c' (xs ++ news) → w.grownBy w' (ablk A) → (ablk A' = ablk A ∨ ablk A' = some w.heap.size) → wpList P ops Q rest (a.put o.dst (.slice A' (n + m) c')) w') : wpList P ops Q (o :: rest) a w := by
  obtain ⟨A', c', w', hrun, h2, h3, h4⟩ := run_ap (P := P) w base t o.type z ht hi hzs A n c xs hown X m cx lo news hr hl hm h1 hbytes hbase
  exact Lib.wpList_append_run w hgd d x t t ho _ _ hd hx _ _ hrun (h A' c' w' h2 h3 h4)
theorem Ap.alloc {w : World} {base : Nat} {A : Option Addr} {n c : Nat} {xs : List Value} (h : Ap w base A n c xs) (o : Obj) : Ap (w.alloc o) base A n c xs := by
  rcases h with h | ⟨h1, h2, h3, h4⟩
  · exact .inl (h.alloc o)
  · exact .inr ⟨h1, h2, h3, h4.below (B := w.heap.size) ((Below.refl _ _).alloc (Nat.le_refl _) _) (Nat.le_refl _)⟩
end
end Go.Proofs.Ytdakohbfibcjeaa
