/- What slices.DeleteFunc and maps.Keys are at this program, for the laid contracts. No condition. -/
import Derived.Shelf.SlicesE.DeleteFunc
import Derived.Test.YtdakohbfibcjeaaTvE
import Derived.ArgAppend
namespace Go.Proofs.Ytdakohbfibcjeaa
open Go.Proofs
def delF_ren : Go.Shelf.Ren := ⟨fun | 10 => 58 | 6 => 76 | n => n, fun | 22 => 57 | 23 => 3 | 25 => 113 | 3 => 3 | 4 => 4 | 0 => 0 | n => n, fun | n => n⟩
theorem delF : Go.Proofs.SlLaysH.n10 Try.prog delF_ren where
  mixed := by kernel_rfl
  f6 := ⟨Try.f76.name, by decide, Try.func76.trans (congrArg some (by kernel_rfl))⟩
  f10 := ⟨Try.f58.name, by decide, Try.func58.trans (congrArg some (by kernel_rfl))⟩
  t0 := Try.underlying0
  a0 := Try.isAgg0
  z0 := Try.sizeOf0
  v0 := Try.zeroValue0
  t3 := Try.underlying3
  a3 := Try.isAgg3
  z3 := Try.sizeOf3
  v3 := Try.zeroValue3
  t4 := Try.underlying4
  a4 := Try.isAgg4
  z4 := Try.sizeOf4
  v4 := Try.zeroValue4
  t22 := Try.underlying57
  a22 := Try.isAgg57
  z22 := Try.sizeOf57
  v22 := Try.zeroValue57
  a23 := Try.isAgg3
  z23 := Try.sizeOf3
  t25 := Try.underlying113
  a25 := Try.isAgg113
  z25 := Try.sizeOf113
  v25 := Try.zeroValue113
end Go.Proofs.Ytdakohbfibcjeaa
namespace Go.Proofs.Ytdakohbfibcjeaa
open Go.RowKit Go.Maps
set_option linter.unusedSimpArgs false
set_option linter.unusedVariables false

/-- block M is a map whose numbers below N have the values f -/
def Mp (w : World) (M N : Nat) (f : Nat → Option Value) : Prop :=
  ∃ D : DataW Value, w.ownsMap Try.prog 3 RV M N D ∧ (∀ n, n < N → ∀ z, D.atKey (kl n) (.held z) = .held ((f n).getD z)) ∧ (∀ n, n < N → has D (kl n) = (f n).isSome) ∧ (∀ x, has D x = true → ∃ n, n < N ∧ x = kl n)
def updM (f : Nat → Option Value) (n : Nat) (v : Option Value) : Nat → Option Value := fun j => if j = n then v else f j
section
variable {w w' : World} {M N n : Nat} {f g : Nat → Option Value}
theorem Mp.lt (h : Mp w M N f) : M < w.heap.size := by obtain ⟨D, h1, _⟩ := h; exact h1.lt
theorem Mp.block (h : Mp w M N f) (hb : w'.heap[M]? = w.heap[M]?) : Mp w' M N f := by obtain ⟨D, h1, h2⟩ := h; exact ⟨D, ownsMap_block h1 hb, h2⟩
theorem Mp.congr (h : Mp w M N f) (e : ∀ n, n < N → g n = f n) : Mp w M N g := by
  obtain ⟨D, h1, h2, h3, h4⟩ := h
  exact ⟨D, h1, fun n hn z => by rw [e n hn]; exact h2 n hn z, fun n hn => by rw [e n hn]; exact h3 n hn, h4⟩
theorem Mp.made (w : World) (N : Nat) : Mp (w.alloc (.map #[] 0)) w.heap.size N (fun _ => none) :=
  ⟨.map [], (World.ownsMap_made w Try.prog 3 RV).mono (Nat.zero_le _), fun n _ z => rfl, fun n _ => rfl, fun x hx => by simp [has] at hx⟩
theorem Mp.look (h : Mp w M N f) (hN : N ≤ 4096) (hn : n < N) {t e : TypeId} (hu : Try.prog.underlying t = some (.map 3 e)) {z : Value} (hz : ∀ w, (zeroValue e).run Try.prog w = .ok z w) (hb : w'.heap[M]? = w.heap[M]?) :
    (Instr.lookup t (.map (some M)) (.int .i64 (n : Int)) false).run Try.prog w' = .ok ((f n).getD z) w' := by
  obtain ⟨D, h1, h2, _⟩ := h
  obtain ⟨v, ps, hr, hv⟩ := (ownsMap_block h1 hb).lookup law3 hu (hz w') (zd := .held z) (zp := []) rfl (key_kl n (by omega))
  rw [h2 n hn] at hv
  simp only [RV, Option.some.injEq, Prod.mk.injEq, DataW.held.injEq] at hv
  rw [hr, hv.1]
theorem Mp.look_ok (h : Mp w M N f) (hN : N ≤ 4096) (hn : n < N) {t e : TypeId} (hu : Try.prog.underlying t = some (.map 3 e)) {z : Value} (hz : ∀ w, (zeroValue e).run Try.prog w = .ok z w) (hb : w'.heap[M]? = w.heap[M]?) :
    (Instr.lookup t (.map (some M)) (.int .i64 (n : Int)) true).run Try.prog w' = .ok (.tuple #[(f n).getD z, .bool (f n).isSome]) w' := by
  obtain ⟨D, h1, h2, h3, _⟩ := h
  obtain ⟨v, ps, hr, hv⟩ := (ownsMap_block h1 hb).look_ok law3 hu (hz w') (zd := .held z) (zp := []) rfl (key_kl n (by omega))
  rw [h2 n hn] at hv
  simp only [RV, Option.some.injEq, Prod.mk.injEq, DataW.held.injEq] at hv
  rw [hr, hv.1, h3 n hn]
theorem Mp.put (h : Mp w M N f) (hN : N ≤ 4096) (hn : n < N) {t e : TypeId} (hu : Try.prog.underlying t = some (.map 3 e)) (v : Value) :
    ∃ w', (Instr.mapUpdate t (.map (some M)) (.int .i64 (n : Int)) v).run Try.prog w = .ok () w' ∧ Mp w' M N (updM f n (some v)) ∧ w.grownBy w' (some M) := by
  obtain ⟨D, h1, h2, h3, h4⟩ := h
  obtain ⟨w', hr, ho, hg⟩ := h1.update law3 hu (by unfold maxLen; omega) (key_kl n (by omega)) (val := v) (d := .held v) (ps := []) rfl
  have hkey : ∀ x, has (D.put (kl n) (.held v)) x = true → ∃ j, j < N ∧ x = kl j := fun x hx => by
    by_cases e : x = kl n
    · exact ⟨n, hn, e⟩
    · rw [has_put_other e] at hx; exact h4 x hx
  refine ⟨w', hr, ⟨_, owns_tight ho (by omega) hkey, fun j hj z => ?_, fun j hj => ?_, hkey⟩, hg⟩
  · by_cases e : j = n
    · subst e
      rw [atKey_put_same (h1.tidy law3).isMap (law3.key (key_kl j (by omega)))]
      show _ = DataW.held ((if j = j then some v else f j).getD z)
      rw [if_pos rfl]; rfl
    · rw [atKey_put_other (kl_ne e), h2 j hj]
      show _ = DataW.held ((if j = n then some v else f j).getD z)
      rw [if_neg e]
  · by_cases e : j = n
    · subst e
      rw [has_put_same (h1.tidy law3).isMap (law3.key (key_kl j (by omega)))]
      show _ = (if j = j then some v else f j).isSome
      rw [if_pos rfl]; rfl
    · rw [has_put_other (kl_ne e), h3 j hj]
      show _ = (if j = n then some v else f j).isSome
      rw [if_neg e]
theorem key_z {z : Int} (h : -9223372036854775808 ≤ z ∧ z ≤ 9223372036854775807) : keyOf Try.prog 3 (.int .i64 z) = some (.int .i64 z) := keyOf_int_mk Try.underlying3 (WalkArith.wf_i64 (by omega))
def delM (f : Nat → Option Value) (z : Int) : Nat → Option Value := fun j => if (j : Int) = z then none else f j
theorem Mp.del (h : Mp w M N f) (hN : N ≤ 4096) {z : Int} (hz : -9223372036854775808 ≤ z ∧ z ≤ 9223372036854775807) {t e : TypeId} (hu : Try.prog.underlying t = some (.map 3 e)) (ty : TypeId) :
    ∃ w', (Builtin.delete_ #[t, 3] ty #[.map (some M), .int .i64 z]).run Try.prog w = .ok (.tuple #[]) w' ∧ Mp w' M N (delM f z) ∧ w.grownBy w' (some M) := by
  obtain ⟨D, h1, h2, h3, h4⟩ := h
  obtain ⟨w', hr, ho, hg⟩ := h1.drop law3 hu (key_z hz) ty
  have hne : ∀ j : Nat, ¬ (j : Int) = z → kl j ≠ Lit.int .i64 z := fun j hj e => by unfold kl at e; injection e with _ e; exact hj e
  refine ⟨w', hr, ⟨_, ho, fun j hj y => ?_, fun j hj => ?_, fun x hx => ?_⟩, hg.grown⟩
  · by_cases e : (j : Int) = z
    · subst e
      rw [show kl j = Lit.int .i64 (j : Int) from rfl, atKey_del_same]
      show _ = DataW.held ((if (j : Int) = (j : Int) then none else f j).getD y)
      rw [if_pos rfl]; rfl
    · rw [atKey_del_other (hne j e), h2 j hj]
      show _ = DataW.held ((if (j : Int) = z then none else f j).getD y)
      rw [if_neg e]
  · by_cases e : (j : Int) = z
    · subst e
      rw [show kl j = Lit.int .i64 (j : Int) from rfl, has_del_same]
      show _ = (if (j : Int) = (j : Int) then none else f j).isSome
      rw [if_pos rfl]; rfl
    · rw [has_del_other (hne j e), h3 j hj]
      show _ = (if (j : Int) = z then none else f j).isSome
      rw [if_neg e]
  · by_cases e : x = Lit.int .i64 z
    · subst e; rw [has_del_same] at hx; cases hx
    · rw [has_del_other e] at hx; exact h4 x hx
end

/-- the slice reads as the numbers l; it may begin within its block -/
def Oz (w : World) (base : Nat) (A : Option Addr) (n c : Nat) (l : List Nat) : Prop :=
  l.length = n ∧ ((A = none ∧ n = 0 ∧ c = 0) ∨ ∃ g o cur, A = some ⟨g, o, none⟩ ∧ base ≤ g ∧ w.heap[g]? = some (.cells cur 3 (0, 0)) ∧ n ≤ c ∧ c ≤ 9223372036854775807 ∧ o + c ≤ cur.size ∧ (cur.toList.drop o).take n = iv l)
theorem infoInt : (Try.prog.info? 3).map (fun i => (i.zero, i.size, i.bytes)) = some (some (.int .i64 0), 1, 8) := by kernel_rfl
section
variable {w w' : World} {base n c : Nat} {A : Option Addr} {l : List Nat}
theorem Oz.nil_ (w : World) (base : Nat) : Oz w base none 0 0 [] := ⟨rfl, .inl ⟨rfl, rfl, rfl⟩⟩
theorem Oz.own (h : Own w base 3 1 A n c (iv l)) : Oz w base A n c l := by
  have hl : l.length = n := by have := h.len1; rw [length_iv] at this; exact this
  rcases h.cases with ⟨rfl, rfl, rfl, _⟩ | ⟨g, cur, rfl, hb, hh, h1, h2, h3, h4⟩
  · exact ⟨hl, .inl ⟨rfl, rfl, rfl⟩⟩
  · exact ⟨hl, .inr ⟨g, 0, cur, rfl, hb, hh, h1, h2, by omega, by rw [List.drop_zero]; rw [Nat.mul_one] at h4; exact h4⟩⟩
theorem Oz.blk (h : Oz w base A n c l) {b : Nat} (e : ablk A = some b) : base ≤ b ∧ b < w.heap.size := by
  rcases h.2 with ⟨rfl, _⟩ | ⟨g, o, cur, rfl, hb, hh, _⟩
  · cases e
  · injection e with e
    have e : g = b := e
    subst e
    exact ⟨hb, (Array.getElem?_eq_some_iff.1 hh).1⟩
theorem Oz.kept {F : Nat → Prop} (h : Oz w base A n c l) (K : Kept F w w') (hf : ∀ b, ablk A = some b → ¬ F b) : Oz w' base A n c l := by
  refine ⟨h.1, ?_⟩
  rcases h.2 with h2 | ⟨g, o, cur, rfl, hb, hh, r⟩
  · exact .inl h2
  · exact .inr ⟨g, o, cur, rfl, hb, (K.block g (Array.getElem?_eq_some_iff.1 hh).1 (hf g rfl)).trans hh, r⟩
theorem Oz.rd (h : Oz w base A n c l) : Rd w base A (iv l) := fun hn => by
  rcases h.2 with ⟨_, h0, _⟩ | ⟨g, o, cur, rfl, hb, hh, h1, h2, h3, h4⟩
  · rw [length_iv, h.1] at hn; omega
  · refine ⟨g, o, rfl, hb, (Array.getElem?_eq_some_iff.1 hh).1, fun k hk => ?_⟩
    rw [cell_of_row w g (o + k) cur 3 (0, 0) hh]
    have hk' : k < n := by rw [length_iv, h.1] at hk; exact hk
    have e : (iv l)[k]? = cur.toList[o + k]? := by rw [← h4, List.getElem?_take_of_lt hk', List.getElem?_drop]
    rw [List.getElem?_eq_getElem hk] at e
    rw [← Array.getElem?_toList, ← e]
theorem Oz.at_ (h : Oz w base A n c l) (hn : 0 < n) : ∃ g o, A = some ⟨g, o, none⟩ ∧ base ≤ g ∧ g < w.heap.size ∧ n ≤ c ∧ c ≤ 9223372036854775807 := by
  rcases h.2 with ⟨_, h0, _⟩ | ⟨g, o, cur, rfl, hb, hh, h1, h2, _⟩
  · omega
  · exact ⟨g, o, rfl, hb, (Array.getElem?_eq_some_iff.1 hh).1, h1, h2⟩
theorem Oz.cell {g o : Nat} (h : Oz w base (some ⟨g, o, none⟩) n c l) (k : Nat) (hk : k < n) : w.cell? ⟨g, o + k, none⟩ = some (.int .i64 ((l.getD k 0 : Nat) : Int)) := by
  obtain ⟨b, o', e, _, _, hc⟩ := h.rd (by rw [length_iv, h.1]; omega)
  injection e with e
  injection e with e1 e2
  subst e1 e2
  rw [hc k (by rw [length_iv, h.1]; exact hk)]
  simp only [iv, List.getElem_map]
  rw [List.getD_eq_getElem?_getD, List.getElem?_eq_getElem (by rw [h.1]; exact hk)]
  rfl
theorem Oz.free {g o : Nat} (h : Oz w base (some ⟨g, o, none⟩) n c l) (k : Nat) : w.frozen? ⟨g, k, none⟩ = false := by
  rcases h.2 with ⟨e, _⟩ | ⟨g', o', cur, e, hb, hh, _⟩
  · cases e
  · injection e with e
    injection e with e1 e2
    subst e1
    simp [World.frozen?, hh]
theorem Oz.tail {g o x : Nat} {r : List Nat} (h : Oz w base (some ⟨g, o, none⟩) (n + 1) c (x :: r)) : Oz w base (some ⟨g, o + 1, none⟩) n (c - 1) r := by
  refine ⟨by have := h.1; rw [List.length_cons] at this; omega, ?_⟩
  rcases h.2 with ⟨e, _⟩ | ⟨g', o', cur, e, hb, hh, h1, h2, h3, h4⟩
  · cases e
  · injection e with e
    injection e with e1 e2
    subst e1 e2
    refine .inr ⟨g, o + 1, cur, rfl, hb, hh, by omega, by omega, by omega, ?_⟩
    have e2 : ((cur.toList.drop o).take (n + 1)).drop 1 = (iv (x :: r)).drop 1 := by rw [h4]
    rw [List.drop_take, List.drop_drop] at e2
    exact e2
theorem Oz.set_ {g o : Nat} (h : Oz w base (some ⟨g, o, none⟩) n c l) (hn : n < c) (v : Nat) : Oz (w.setCell ⟨g, o + n, none⟩ (.int .i64 (v : Int))) base (some ⟨g, o, none⟩) (n + 1) c (l ++ [v]) := by
  refine ⟨by rw [List.length_append, h.1]; rfl, ?_⟩
  rcases h.2 with ⟨e, _⟩ | ⟨g', o', cur, e, hb, hh, h1, h2, h3, h4⟩
  · cases e
  · injection e with e
    injection e with e1 e2
    subst e1 e2
    refine .inr ⟨g, o, _, rfl, hb, heap_setCell_same w g (o + n) cur 3 _ hh, by omega, h2, by simpa using h3, ?_⟩
    rw [Array.toList_setIfInBounds]
    apply List.ext_getElem?
    intro k
    have h5 : ∀ k, k < n → cur.toList[o + k]? = (iv l)[k]? := fun k hk => by rw [← h4, List.getElem?_take_of_lt hk, List.getElem?_drop]
    by_cases hk : k < n
    · rw [List.getElem?_take_of_lt (by omega), List.getElem?_drop, List.getElem?_set, if_neg (by omega), h5 k hk, iv, iv, List.getElem?_map, List.getElem?_map, List.getElem?_append_left (by rw [h.1]; exact hk)]
    · by_cases hk2 : k = n
      · subst hk2
        rw [List.getElem?_take_of_lt (by omega), List.getElem?_drop, List.getElem?_set, if_pos rfl, if_pos (by rw [Array.length_toList]; omega), iv, List.getElem?_map, List.getElem?_append_right (by rw [h.1]; omega), h.1, Nat.sub_self]
        rfl
      · rw [List.getElem?_take_eq_none (by omega), List.getElem?_eq_none (by rw [length_iv, List.length_append, h.1]; show k ≥ n + 1; omega)]
set_option maxRecDepth 100000 in
theorem run_app3 (h : Oz w base A n c l) (hbase : base ≤ w.heap.size) {g v : Nat} (hg : w.cell? ⟨g, 0, none⟩ = some (.int .i64 (v : Int))) (hn : n ≤ 1000000) (ty : TypeId) :
    ∃ A' c' w', (Builtin.append_ #[57, 57] ty #[.slice A n c, .slice (some ⟨g, 0, none⟩) 1 1]).run Try.prog w = .ok (.slice A' (n + 1) c') w' ∧ Oz w' base A' (n + 1) c' (l ++ [v]) ∧ w.grownBy w' (ablk A) ∧ (ablk A' = ablk A ∨ ∃ g', ablk A' = some g' ∧ w.heap.size ≤ g') := by
  obtain ⟨i, hi, hz, hsz, hby⟩ := info_parts infoInt
  have hnews : ∀ j u, [Value.int .i64 (v : Int)][j]? = some u → w.cell? ((⟨g, 0, none⟩ : Addr).add j) = some u := by
    intro j u hu
    match j with
    | 0 => rw [Addr.add_lit, Nat.zero_add, hg]; exact hu
    | j + 1 => cases hu
  rcases h.2 with ⟨rfl, rfl, rfl⟩ | ⟨b, o, cur, rfl, hb, hh, h1, h2, h3, h4⟩
  · have hl : l = [] := List.eq_nil_of_length_eq_zero h.1
    subst hl
    obtain ⟨A', c', w', hr, ho, hgr, hA⟩ := run_app (P := Try.prog) w base 57 ty 3 (.int .i64 0) 1 8 Try.underlying57 infoInt rfl (by omega) none 0 0 [] (Own.nil_ _ _ _ _) (some ⟨g, 0, none⟩) 1 1 0 [.int .i64 (v : Int)] (fun _ => ⟨g, 0, rfl, Nat.zero_le _, block_lt_of_cell hg, fun k hk => by
      have : k = 0 := by simp at hk; omega
      subst this; rw [Nat.zero_add, hg]; rfl⟩) rfl (by intro u hu; rw [List.mem_singleton] at hu; rw [hu]; rfl) (by omega) (by omega) hbase
    refine ⟨A', c', w', hr, Oz.own ho, hgr, ?_⟩
    rcases hA with hA | hA
    · exact .inl hA
    · exact .inr ⟨_, hA, Nat.le_refl _⟩
  · by_cases hroom : n + 1 ≤ c
    · have hc : (w.cell? ⟨b, o + n, none⟩).isSome = true := by
        rw [cell_of_row w b (o + n) cur 3 (0, 0) hh, Array.getElem?_eq_getElem (by omega)]; rfl
      have hf : w.frozen? ⟨b, o + n, none⟩ = false := by simp [World.frozen?, hh]
      have hr := run_append_room_cells (P := Try.prog) w 57 ty 3 i Try.underlying57 hi b o n c ⟨g, 0, none⟩ 1 1 [.int .i64 (v : Int)] (by rw [hsz]; rfl) hnews (by intro u hu; rw [List.mem_singleton] at hu; rw [hu]; rfl) hroom
        (fun j hj => by
          have : j = 0 := by simp at hj; omega
          subst this; rw [hsz, Nat.mul_one, Nat.add_zero]; exact hc)
        (fun j hj => by
          have : j = 0 := by simp at hj; omega
          subst this; rw [hsz, Nat.mul_one, Nat.add_zero]; exact hf)
      rw [hsz, Nat.mul_one] at hr
      refine ⟨some ⟨b, o, none⟩, c, w.setCell ⟨b, o + n, none⟩ (.int .i64 (v : Int)), hr, h.set_ (by omega) v, ?_, .inl rfl⟩
      refine ⟨rfl, rfl, rfl, by simp, fun k hk hne => ?_⟩
      exact Below.heap_setCell w _ _ k (fun e => hne (by rw [e]; rfl))
    · obtain ⟨v', w', hr, ho, hgr⟩ := run_append_arg_grows (P := Try.prog) w 57 ty 3 i (.int .i64 0) 1 8 Try.underlying57 hi hz hsz hby rfl (by omega) ⟨b, o, none⟩ n c (iv l) (by rw [length_iv, h.1]; omega) (fun j u hu => by
        have hj : j < (iv l).length := (List.getElem?_eq_some_iff.1 hu).1
        obtain ⟨b', o', e, _, _, hc⟩ := h.rd (by omega)
        injection e with e
        injection e with e1 e2
        subst e1 e2
        rw [Addr.add_lit, hc j hj, ← hu, List.getElem?_eq_getElem hj]) ⟨g, 0, none⟩ 1 1 [.int .i64 (v : Int)] rfl hnews (by omega) (by unfold maxLen; omega) (by omega)
      have hv : ∃ A' c', v' = .slice A' (n + 1) c' := by
        rcases ho.2 with ⟨_, h0⟩ | ⟨g', cap, cur', h2, _⟩
        · omega
        · exact ⟨_, _, h2⟩
      obtain ⟨A', c', rfl⟩ := hv
      have ho2 : Own w' w.heap.size 3 1 A' (n + 1) c' (iv (l ++ [v])) := by
        have : iv (l ++ [v]) = iv l ++ [.int .i64 (v : Int)] := by simp [iv]
        rw [this]; exact ho
      refine ⟨A', c', w', hr, Oz.own (ho2.weak hbase), ⟨hgr.os, hgr.tape, hgr.output, hgr.size, fun k hk _ => hgr.block k hk (by simp)⟩, .inr ?_⟩
      obtain ⟨g', e, h5, _⟩ := ho2.head (by omega)
      exact ⟨g', by rw [e]; rfl, h5⟩
end
end Go.Proofs.Ytdakohbfibcjeaa
