/- A heap of numbers in memory: its methods, and what container/heap makes of it: the same numbers in some order. No condition. -/
import Derived.Test.YtdakohbfibcjeaaTvD
import Derived.Test.YtdakohbfibcjeaaLibL
import Derived.Test.YtdakohbfibcjeaaTvC
import Derived.Handy
namespace Go.Proofs.Ytdakohbfibcjeaa
open Go.RowKit
set_option linter.unusedSimpArgs false
set_option linter.unusedVariables false
set_option maxRecDepth 100000 in
theorem mth_len {w : World} {b o : Nat} {x : Value} (h : w.cell? ⟨b, o, none⟩ = some x) : (method 284 111 (.pointer (some ⟨b, o, none⟩)) "Len").run Try.prog w = .ok (110, x) w := by
  have e : (method 284 111 (.pointer (some ⟨b, o, none⟩)) "Len").run Try.prog w = (do let x ← load ⟨b, o, none⟩; pure (110, x)).run Try.prog w := by kernel_rfl
  rw [e]; simp [go_sem, h]
set_option maxRecDepth 100000 in
theorem mth_less {w : World} {b o : Nat} {x : Value} (h : w.cell? ⟨b, o, none⟩ = some x) : (method 284 111 (.pointer (some ⟨b, o, none⟩)) "Less").run Try.prog w = .ok (111, x) w := by
  have e : (method 284 111 (.pointer (some ⟨b, o, none⟩)) "Less").run Try.prog w = (do let x ← load ⟨b, o, none⟩; pure (111, x)).run Try.prog w := by kernel_rfl
  rw [e]; simp [go_sem, h]
set_option maxRecDepth 100000 in
theorem mth_swap {w : World} {b o : Nat} {x : Value} (h : w.cell? ⟨b, o, none⟩ = some x) : (method 284 111 (.pointer (some ⟨b, o, none⟩)) "Swap").run Try.prog w = .ok (112, x) w := by
  have e : (method 284 111 (.pointer (some ⟨b, o, none⟩)) "Swap").run Try.prog w = (do let x ← load ⟨b, o, none⟩; pure (112, x)).run Try.prog w := by kernel_rfl
  rw [e]; simp [go_sem, h]
theorem mth_pop (w : World) (b o : Nat) : (method 284 111 (.pointer (some ⟨b, o, none⟩)) "Pop").run Try.prog w = .ok (113, .pointer (some ⟨b, o, none⟩)) w := by kernel_rfl
theorem mth_push (w : World) (b o : Nat) : (method 284 111 (.pointer (some ⟨b, o, none⟩)) "Push").run Try.prog w = .ok (114, .pointer (some ⟨b, o, none⟩)) w := by kernel_rfl

theorem numlen_any (w : World) (A : Option Addr) (n c : Nat) : Calls Try.prog 110 #[.slice A n c] w fun e w' => e = .returned (.int .i64 n) ∧ w = w' := by
  go_enter Try.func110, Try.ntmps110
  go_wp2
  go_ret
  exact ⟨rfl, rfl⟩
theorem numless_any {w : World} {g n c i j : Nat} {x y : Int} (hi : i < n) (hj : j < n) (hx : w.cell? ⟨g, i, none⟩ = some (.int .i64 x)) (hy : w.cell? ⟨g, j, none⟩ = some (.int .i64 y)) :
    Calls Try.prog 111 #[.slice (some ⟨g, 0, none⟩) n c, .int .i64 i, .int .i64 j] w fun e w' => e = .returned (.bool (decide (x < y))) ∧ ∃ q, w' = w.drewN q := by
  have h1 : (0 : Int) ≤ (i : Int) ∧ (i : Int) < (n : Int) := by omega
  have h2 : (0 : Int) ≤ (j : Int) ∧ (j : Int) < (n : Int) := by omega
  go_enter Try.func111, Try.ntmps111
  go_upto_region 1 with fail
  go_quiet (fail)
  go_wp2
  go_ret
  exact ⟨rfl, _, rfl⟩
theorem numswap_any {w : World} {g n c i j : Nat} {x y : Int} (hi : i < n) (hj : j < n) (hx : w.cell? ⟨g, i, none⟩ = some (.int .i64 x)) (hy : w.cell? ⟨g, j, none⟩ = some (.int .i64 y)) (fi : w.frozen? ⟨g, i, none⟩ = false) (fj : w.frozen? ⟨g, j, none⟩ = false) :
    Calls Try.prog 112 #[.slice (some ⟨g, 0, none⟩) n c, .int .i64 i, .int .i64 j] w fun e w' => e = .returned (.tuple #[]) ∧ ∃ q, w' = ((w.drewN q).setCell ⟨g, i, none⟩ (.int .i64 y)).setCell ⟨g, j, none⟩ (.int .i64 x) := by
  have h1 : (0 : Int) ≤ (i : Int) ∧ (i : Int) < (n : Int) := by omega
  have h2 : (0 : Int) ≤ (j : Int) ∧ (j : Int) < (n : Int) := by omega
  go_enter Try.func112, Try.ntmps112
  have hj2 : (w.setCell ⟨g, i, none⟩ (.int .i64 y)).cell? ⟨g, j, none⟩ = some (.int .i64 y) := by
    by_cases e : i = j
    · subst e; exact World.cell?_setCell_same' w _ _ (by rw [hx]; rfl)
    · rw [World.cell?_setCell_other _ _ _ _ (by intro h; injection h with _ h; exact e h)]; exact hy
  have fj2 : (w.setCell ⟨g, i, none⟩ (.int .i64 y)).frozen? ⟨g, j, none⟩ = false := by
    rw [World.frozen?_setCell]; exact fj
  go_upto_region 0 with fail
  go_region
  go_end0
  exact ⟨rfl, _, rfl⟩
theorem kept_drewN {F : Nat → Prop} {w w' : World} (h : Kept F w w') (q : Nat) : Kept F w (w'.drewN q) := ⟨h.os, h.tape, h.output, h.size, h.block⟩
def IsB (e : Ending) : Prop := ∃ b, e = .returned (.bool b)
def swp (l : List Nat) (i j : Nat) : List Nat := (l.set i (l.getD j 0)).set j (l.getD i 0)
theorem iv_set (l : List Nat) (i v : Nat) : iv (l.set i v) = (iv l).set i (.int .i64 (v : Int)) := by simp [iv, List.map_set]
theorem swp_perm {l : List Nat} {i j : Nat} (hi : i < l.length) (hj : j < l.length) : (swp l i j).Perm l := by
  unfold swp
  rw [List.getD_eq_getElem?_getD, List.getElem?_eq_getElem hj, List.getD_eq_getElem?_getD, List.getElem?_eq_getElem hi]
  exact List.set_set_perm hi hj
theorem swp_out {l : List Nat} {i j k : Nat} (hi : k ≠ i) (hj : k ≠ j) : (swp l i j)[k]? = l[k]? := by
  unfold swp
  rw [List.getElem?_set_ne (by omega), List.getElem?_set_ne (by omega)]
theorem iv_cell {w : World} {base n c g i : Nat} {l : List Nat} (h : Own w base 3 1 (some ⟨g, 0, none⟩) n c (iv l)) (hi : i < n) : w.cell? ⟨g, i, none⟩ = some (.int .i64 (l.getD i 0 : Nat)) ∧ w.frozen? ⟨g, i, none⟩ = false := by
  have hl : i < l.length := by have := h.len1; rw [length_iv] at this; omega
  obtain ⟨g', e, _, _, h1, h2⟩ := h.cell (k := i) (by rw [length_iv]; exact hl)
  injection e with e; injection e with e; subst e
  refine ⟨?_, h2⟩
  rw [h1, List.getD_eq_getElem?_getD, List.getElem?_eq_getElem hl]
  simp [iv]
theorem less_own {w : World} {base n c g : Nat} {l : List Nat} (h : Own w base 3 1 (some ⟨g, 0, none⟩) n c (iv l)) {x y : Int} (hx : 0 ≤ x ∧ x < n) (hy : 0 ≤ y ∧ y < n) :
    Calls Try.prog 111 #[.slice (some ⟨g, 0, none⟩) n c, .int .i64 x, .int .i64 y] w fun e w' => ∃ b, e = .returned (.bool b) ∧ ∃ q, w' = w.drewN q := by
  obtain ⟨i, rfl⟩ := Int.eq_ofNat_of_zero_le hx.1
  obtain ⟨j, rfl⟩ := Int.eq_ofNat_of_zero_le hy.1
  exact (numless_any (by omega) (by omega) (iv_cell h (by omega)).1 (iv_cell h (by omega)).1).mono (fun e w' ⟨h1, h2⟩ => ⟨_, h1, h2⟩)
theorem swap_own {w : World} {base n c g : Nat} {l : List Nat} (h : Own w base 3 1 (some ⟨g, 0, none⟩) n c (iv l)) {x y : Int} (hx : 0 ≤ x ∧ x < n) (hy : 0 ≤ y ∧ y < n) :
    Calls Try.prog 112 #[.slice (some ⟨g, 0, none⟩) n c, .int .i64 x, .int .i64 y] w fun e w' => e = .returned (.tuple #[]) ∧ (∃ l', Own w' base 3 1 (some ⟨g, 0, none⟩) n c (iv l') ∧ l'.Perm l ∧ ∀ k : Nat, x < k → y < k → l'[k]? = l[k]?) ∧ Kept (fun b => b = g) w w' := by
  obtain ⟨i, rfl⟩ := Int.eq_ofNat_of_zero_le hx.1
  obtain ⟨j, rfl⟩ := Int.eq_ofNat_of_zero_le hy.1
  have hl : n = l.length := by have := h.len1; rw [length_iv] at this; omega
  refine (numswap_any (by omega) (by omega) (iv_cell h (by omega)).1 (iv_cell h (by omega)).1 (iv_cell h (by omega)).2 (iv_cell h (by omega)).2).mono (fun e w' ⟨h1, q, h2⟩ => ⟨h1, ⟨swp l i j, ?_, swp_perm (by omega) (by omega), fun k h3 h4 => swp_out (by omega) (by omega)⟩, ?_⟩)
  · subst h2
    have := ((h.drewN q).set_ i (.int .i64 (l.getD j 0 : Nat))).set_ j (.int .i64 (l.getD i 0 : Nat))
    unfold swp
    rw [iv_set, iv_set]
    exact this
  · subst h2
    exact ⟨rfl, rfl, rfl, by simp, fun b hb hne => by
      rw [Below.heap_setCell _ _ _ b (fun e => hne e), Below.heap_setCell _ _ _ b (fun e => hne e)]; rfl⟩
set_option maxRecDepth 100000 in
set_option maxHeartbeats 2000000 in
theorem down_any {w : World} {base m g n c N : Nat} {l : List Nat} (hp : w.cell? ⟨m, 2, none⟩ = some (.slice (some ⟨g, 0, none⟩) n c)) (ho : Own w base 3 1 (some ⟨g, 0, none⟩) n c (iv l)) (hm : m < w.heap.size) (hne : m ≠ g) (hN : N ≤ n) (hn : n ≤ 1000000) :
    Calls Try.prog 55 #[.iface 111 (.pointer (some ⟨m, 2, none⟩)), .int .i64 0, .int .i64 N] w fun e w' => IsB e ∧ ∃ l', Own w' base 3 1 (some ⟨g, 0, none⟩) n c (iv l') ∧ l'.Perm l ∧ (∀ k : Nat, N ≤ k → l'[k]? = l[k]?) ∧ Kept (fun b => b = g) w w' := by
  have HP := Lib.hid hp
  have HO := Lib.hid ho
  clear hp ho
  go_enter Try.func55, Try.ntmps55
  go_wp2
  go_loopw [7] (fun s7 wr => ∃ (z : Int) (l' : List Nat), s7 = .int .i64 z ∧ 0 ≤ z ∧ z ≤ 1000000 ∧ Own wr base 3 1 (some ⟨g, 0, none⟩) n c (iv l') ∧ l'.Perm l ∧ (∀ k : Nat, N ≤ k → l'[k]? = l[k]?) ∧ Kept (fun b => b = g) w wr) (fun s7 _ => 1000001 - (intOf s7).toNat)
  case atStart => exact ⟨0, l, rfl, by omega, by omega, HO.out, List.Perm.refl _, fun _ _ => rfl, Kept.refl _ _⟩
  case round =>
    obtain ⟨z, l', rfl, hz0, hz1, ho', hpm, hk, hK⟩ := hrel
    have HO' := Lib.hid ho'
    have HPm := Lib.hid hpm
    have HK := Lib.hid hk
    have HKK := Lib.hid hK
    have cp : wr.cell? ⟨m, 2, none⟩ = some (.slice (some ⟨g, 0, none⟩) n c) := (World.cell?_of_block (a := ⟨m, 2, none⟩) (hK.block m hm hne)).trans HP.out
    clear ho' hpm hk hK
    have cq : ∀ q, (wr.drewN q).cell? ⟨m, 2, none⟩ = some (.slice (some ⟨g, 0, none⟩) n c) := fun q => cp
    have mL := mth_less cp
    have mL2 := fun q => mth_less (cq q)
    have mS := mth_swap cp
    have mS2 := fun q => mth_swap (cq q)
    by_cases h1 : 2 * z + 1 < (N : Int)
    · by_cases h2 : 2 * z + 1 + 1 < (N : Int)
      · have L1 := Lib.hid (less_own HO'.out (x := 2 * z + 1 + 1) (y := 2 * z + 1) (by omega) (by omega))
        have L2 := Lib.hid (fun q => less_own (HO'.out.drewN q) (x := 2 * z + 1 + 1) (y := z) (by omega) (by omega))
        have L3 := Lib.hid (fun q => less_own (HO'.out.drewN q) (x := 2 * z + 1) (y := z) (by omega) (by omega))
        have S2 := Lib.hid (fun q => swap_own (HO'.out.drewN q) (x := z) (y := 2 * z + 1 + 1) (by omega) (by omega))
        have S3 := Lib.hid (fun q => swap_own (HO'.out.drewN q) (x := z) (y := 2 * z + 1) (by omega) (by omega))
        go_wp2_with (first
          | (with_reducible refine Calls.mono L1.out ?_; rintro e w6 ⟨b, rfl, q, rfl⟩; cases b)
          | (with_reducible refine Calls.mono (L2.out _) ?_; rintro e w7 ⟨b2, rfl, q2, rfl⟩; cases b2)
          | (with_reducible refine Calls.mono (L3.out _) ?_; rintro e w7 ⟨b2, rfl, q2, rfl⟩; cases b2)
          | (with_reducible refine Calls.mono (S2.out _) ?_; rintro e w7 ⟨rfl, ⟨l2, ho2, hp2, hk2⟩, hK2⟩)
          | (with_reducible refine Calls.mono (S3.out _) ?_; rintro e w7 ⟨rfl, ⟨l2, ho2, hp2, hk2⟩, hK2⟩))
        all_goals first
          | (go_ret
             exact ⟨⟨_, rfl⟩, l', HO'.out, HPm.out, HK.out, kept_drewN HKK.out _⟩)
          | (go_roundw
             case rel => exact ⟨_, l2, rfl, by omega, by omega, ho2, hp2.trans HPm.out, fun k h => (hk2 k (by omega) (by omega)).trans (HK.out k h), (kept_drewN HKK.out _).trans hK2 (fun _ _ x => x)⟩
             case measure => simp only [intOf]; omega)
      · have L3 := Lib.hid (less_own HO'.out (x := 2 * z + 1) (y := z) (by omega) (by omega))
        have S3 := Lib.hid (fun q => swap_own (HO'.out.drewN q) (x := z) (y := 2 * z + 1) (by omega) (by omega))
        go_wp2_with (first
          | (with_reducible refine Calls.mono L3.out ?_; rintro e w7 ⟨b2, rfl, q2, rfl⟩; cases b2)
          | (with_reducible refine Calls.mono (S3.out _) ?_; rintro e w7 ⟨rfl, ⟨l2, ho2, hp2, hk2⟩, hK2⟩))
        all_goals first
          | (go_ret
             exact ⟨⟨_, rfl⟩, l', HO'.out, HPm.out, HK.out, kept_drewN HKK.out _⟩)
          | (go_roundw
             case rel => exact ⟨_, l2, rfl, by omega, by omega, ho2, hp2.trans HPm.out, fun k h => (hk2 k (by omega) (by omega)).trans (HK.out k h), (kept_drewN HKK.out _).trans hK2 (fun _ _ x => x)⟩
             case measure => simp only [intOf]; omega)
    · go_wp2
      go_ret
      exact ⟨⟨_, rfl⟩, l', HO'.out, HPm.out, HK.out, HKK.out⟩
set_option maxRecDepth 100000 in
set_option maxHeartbeats 2000000 in
theorem up_any {w : World} {base m g n c : Nat} {j0 : Int} {l : List Nat} (hp : w.cell? ⟨m, 2, none⟩ = some (.slice (some ⟨g, 0, none⟩) n c)) (ho : Own w base 3 1 (some ⟨g, 0, none⟩) n c (iv l)) (hm : m < w.heap.size) (hne : m ≠ g) (hj : 0 ≤ j0 ∧ j0 < n) (hn : n ≤ 1000000) :
    Calls Try.prog 88 #[.iface 111 (.pointer (some ⟨m, 2, none⟩)), .int .i64 j0] w fun e w' => e = .returned (.tuple #[]) ∧ ∃ l', Own w' base 3 1 (some ⟨g, 0, none⟩) n c (iv l') ∧ l'.Perm l ∧ Kept (fun b => b = g) w w' := by
  have HP := Lib.hid hp
  have HO := Lib.hid ho
  clear hp ho
  go_enter Try.func88, Try.ntmps88
  go_wp2
  go_loopw [1] (fun s1 wr => ∃ (z : Int) (l' : List Nat), s1 = .int .i64 z ∧ 0 ≤ z ∧ z < n ∧ Own wr base 3 1 (some ⟨g, 0, none⟩) n c (iv l') ∧ l'.Perm l ∧ Kept (fun b => b = g) w wr) (fun s1 _ => (intOf s1).toNat)
  case atStart => exact ⟨j0, l, rfl, by omega, by omega, HO.out, List.Perm.refl _, Kept.refl _ _⟩
  case round =>
    obtain ⟨z, l', rfl, hz0, hz1, ho', hpm, hK⟩ := hrel
    have HO' := Lib.hid ho'
    have HPm := Lib.hid hpm
    have HKK := Lib.hid hK
    have cp : wr.cell? ⟨m, 2, none⟩ = some (.slice (some ⟨g, 0, none⟩) n c) := (World.cell?_of_block (a := ⟨m, 2, none⟩) (hK.block m hm hne)).trans HP.out
    clear ho' hpm hK
    have cq : ∀ q, (wr.drewN q).cell? ⟨m, 2, none⟩ = some (.slice (some ⟨g, 0, none⟩) n c) := fun q => cp
    have mL := mth_less cp
    have mS := mth_swap cp
    have mS2 := fun q => mth_swap (cq q)
    by_cases h0 : z = 0
    · subst h0
      go_wp2
      go_end0
      exact ⟨rfl, l', HO'.out, HPm.out, HKK.out⟩
    · obtain ⟨y, hy⟩ : ∃ y, y = (z - 1).tdiv 2 := ⟨_, rfl⟩
      have hyz : 0 ≤ y ∧ y < z := by
        rw [hy, Int.tdiv_eq_ediv_of_nonneg (by omega)]; omega
      have hye : (z - 1).tdiv 2 = y := hy.symm
      have hne2 : ¬ y = z := by omega
      have L3 := Lib.hid (less_own HO'.out (x := z) (y := y) (by omega) (by omega))
      have S3 := Lib.hid (fun q => swap_own (HO'.out.drewN q) (x := y) (y := z) (by omega) (by omega))
      clear hy
      go_wp2_with (first
        | (with_reducible refine Calls.mono L3.out ?_; rintro e w7 ⟨b2, rfl, q2, rfl⟩; cases b2)
        | (with_reducible refine Calls.mono (S3.out _) ?_; rintro e w7 ⟨rfl, ⟨l2, ho2, hp2, hk2⟩, hK2⟩))
      all_goals first
        | (go_end0
           exact ⟨rfl, l', HO'.out, HPm.out, kept_drewN HKK.out _⟩)
        | (go_roundw
           case rel => exact ⟨_, l2, rfl, by omega, by omega, ho2, hp2.trans HPm.out, (kept_drewN HKK.out _).trans hK2 (fun _ _ x => x)⟩
           case measure => simp only [intOf]; omega)
/-- .. as a method: the last one is taken off -/
theorem numpop_any {w : World} {m g n c : Nat} {a0 a1 a3 a4 a5 : Value} {x : Int} {t : TypeId} (hb : Blk w m t [a0, a1, .slice (some ⟨g, 0, none⟩) (n + 1) c, a3, a4, a5]) (hx : w.cell? ⟨g, n, none⟩ = some (.int .i64 x)) (hn : n + 1 ≤ 1000000) (hc : n + 1 ≤ c ∧ c ≤ 9223372036854775807) :
    Calls Try.prog 113 #[.pointer (some ⟨m, 2, none⟩)] w fun e w' => e = .returned (.iface 3 (.int .i64 x)) ∧ w' = w.setCell ⟨m, 2, none⟩ (.slice (some ⟨g, 0, none⟩) n c) := by
  have cp : w.cell? ⟨m, 2, none⟩ = some (.slice (some ⟨g, 0, none⟩) (n + 1) c) := hb.cell 2
  have fp : w.frozen? ⟨m, 2, none⟩ = false := hb.frozen 2
  have h1 : ((n + 1 : Nat) : Int) - 1 = (n : Int) := by omega
  have h2 : (0 : Int) ≤ (n : Int) ∧ (n : Int) < ((n + 1 : Nat) : Int) := by omega
  clear hb
  go_enter Try.func113, Try.ntmps113
  go_wp2
  go_ret
  exact ⟨rfl, rfl⟩
end Go.Proofs.Ytdakohbfibcjeaa
namespace Go.Proofs.Ytdakohbfibcjeaa
open Go.RowKit
set_option linter.unusedSimpArgs false
set_option linter.unusedVariables false

theorem Kept.setCell_ {w : World} {m o : Nat} {v : Value} : Kept (fun b => b = m) w (w.setCell ⟨m, o, none⟩ v) := ⟨rfl, rfl, rfl, by simp, fun b _ hne => Below.heap_setCell w _ _ b (fun e => hne e)⟩
set_option maxRecDepth 100000 in
set_option maxHeartbeats 2000000 in
theorem numpush_any {w : World} {base m n c x : Nat} {A : Option Addr} {l : List Nat} {a0 a1 a3 a4 a5 : Value} {t : TypeId} (hb : Blk w m t [a0, a1, .slice A n c, a3, a4, a5]) (ho : Own w base 3 1 A n c (iv l)) (hne : ablk A ≠ some m) (hn : n ≤ 1000000) (hbase : base ≤ w.heap.size) :
    Calls Try.prog 114 #[.pointer (some ⟨m, 2, none⟩), .iface 3 (.int .i64 (x : Int))] w fun e w' => e = .returned (.tuple #[]) ∧ ∃ A' c', Blk w' m t [a0, a1, .slice A' (n + 1) c', a3, a4, a5] ∧ Own w' base 3 1 A' (n + 1) c' (iv (l ++ [x])) ∧ (ablk A' = ablk A ∨ ∃ g, ablk A' = some g ∧ w.heap.size ≤ g) ∧ Kept (fun b => ablk A = some b ∨ b = m) w w' := by
  have hlen := ho.len1
  rw [length_iv] at hlen
  have HB := Lib.hid hb
  have HO := Lib.hid ho
  have HL := Lib.hid hlen
  have hml := hb.lt
  have hX2 : ∀ W, Kept (fun b => ablk A = some b) w.drew W → W.cell? ⟨m, 2, none⟩ = some (.slice A n c) := fun W K => (K.blk hb.drew hne).cell 2
  have HX2 := Lib.hid hX2
  have HNe := Lib.hid hne
  clear hb ho hlen hX2 hne
  have hta : ∀ w, Sem.run Try.prog (Instr.typeAssert (.iface 3 (.int .i64 (x : Int))) 20 3 false) w = .ok (.int .i64 (x : Int)) w := fun w => by kernel_rfl
  go_enter Try.func114, Try.ntmps114
  go_upto_region 0 with fail
  refine wp_region_last (S := fun w' => w'.cell? ⟨m, 2, none⟩ = some (.slice A n c)) 9 (by kernel_rfl) rfl (by kernel_rfl) ?_ ?_
  · exact HX2.out _ (Kept.refl _ _)
  intro hHeld
  simp only [List.take_succ_cons, List.take_zero]
  refine wpAnyH_take (i := 0) (v := ?_) (by simp only [List.getElem?_toArray, List.getElem?_cons_succ, List.getElem?_cons_zero]; rfl) (by kernel_rfl) (by kernel_rfl) (by kernel_rfl) (fun _ _ _ h => h) (Or.inl ⟨by rfl, ?_⟩) hHeld ?_
  rotate_left
  · intro wz hSw; (try dsimp only at hSw); go_simp; try with_reducible rfl
  (try simp only [Act.put, List.setIfInBounds_toArray, List.set_cons_zero, List.set_cons_succ])
  refine wpAnyH_take (i := 1) (v := ?_) (by simp only [List.getElem?_toArray, List.getElem?_cons_succ, List.getElem?_cons_zero]; rfl) (by kernel_rfl) (by kernel_rfl) (by kernel_rfl) (fun _ _ _ h => h) (Or.inl ⟨by rfl, ?_⟩) hHeld ?_
  rotate_left
  · intro wz hSw; (try dsimp only at hSw); go_simp; try with_reducible rfl
  (try simp only [Act.put, List.setIfInBounds_toArray, List.set_cons_zero, List.set_cons_succ])
  refine wpAnyH_take (i := 2) (v := ?_) (by simp only [List.getElem?_toArray, List.getElem?_cons_succ, List.getElem?_cons_zero]; rfl) (by kernel_rfl) (by kernel_rfl) (by kernel_rfl) (fun _ _ _ h => h) (Or.inl ⟨by rfl, ?_⟩) hHeld ?_
  rotate_left
  · intro wz hSw; (try dsimp only at hSw); go_simp; try with_reducible rfl
  (try simp only [Act.put, List.setIfInBounds_toArray, List.set_cons_zero, List.set_cons_succ])
  refine wpAnyH_take (i := 3) (v := ?_) (by simp only [List.getElem?_toArray, List.getElem?_cons_succ, List.getElem?_cons_zero]; rfl) (by kernel_rfl) (by kernel_rfl) (by kernel_rfl) (fun _ _ _ h => h) (Or.inl ⟨by rfl, ?_⟩) hHeld ?_
  rotate_left
  · intro wz hSw; (try dsimp only at hSw); go_simp; try with_reducible rfl
  (try simp only [Act.put, List.setIfInBounds_toArray, List.set_cons_zero, List.set_cons_succ])
  refine wpAnyH_take (i := 4) (v := ?_) (by simp only [List.getElem?_toArray, List.getElem?_cons_succ, List.getElem?_cons_zero]; rfl) (by kernel_rfl) (by kernel_rfl) (by kernel_rfl) (fun _ _ _ h => h) (Or.inl ⟨by rfl, ?_⟩) hHeld ?_
  rotate_left
  · intro wz hSw; (try dsimp only at hSw); go_simp; try with_reducible rfl
  (try simp only [Act.put, List.setIfInBounds_toArray, List.set_cons_zero, List.set_cons_succ])
  refine wpAnyH_take (i := 5) (v := ?_) (by simp only [List.getElem?_toArray, List.getElem?_cons_succ, List.getElem?_cons_zero]; rfl) (by kernel_rfl) (by kernel_rfl) (by kernel_rfl) (fun _ _ _ h => h) (Or.inl ⟨by rfl, ?_⟩) hHeld ?_
  rotate_left
  · intro wz hSw; (try dsimp only at hSw); go_simp; try with_reducible rfl
  (try simp only [Act.put, List.setIfInBounds_toArray, List.set_cons_zero, List.set_cons_succ])
  refine wpAnyH_ready (rs := [6]) (by kernel_rfl) (by simp) ?_
  refine AllReadyH.cons (by simp only [List.getElem?_toArray, List.getElem?_cons_succ, List.getElem?_cons_zero]; rfl) (fun KK hK => ?_) AllReadyH.nil
  go_simp
  have K8 : Kept (fun b => ablk A = some b) w.drew (w.alloc (.cells #[.int .i64 (x : Int)] 3)).drew := by
    show Kept _ w.drew (w.drew.alloc _)
    exact Kept.of_below ((Below.refl _ _).alloc (Nat.le_refl _) _) (Nat.le_refl _)
  have ho8 : Own (w.alloc (.cells #[.int .i64 (x : Int)] 3)).drew base 3 1 A n c (iv l) := (HO.out.alloc _).drew
  have hr8 : Rd (w.alloc (.cells #[.int .i64 (x : Int)] 3)).drew 0 (some ⟨w.heap.size, 0, none⟩) [.int .i64 (x : Int)] := rd_one (w := w) (.int .i64 (x : Int)) 3 rfl
  obtain ⟨w8, hw8⟩ : ∃ z, z = (w.alloc (.cells #[.int .i64 (x : Int)] 3)).drew := ⟨_, rfl⟩
  rw [← hw8] at K8 ho8 hr8
  rw [← hw8]
  have hs8 : base ≤ w8.heap.size := Nat.le_trans hbase K8.size
  obtain ⟨g8, hg8⟩ : ∃ g, g = w.heap.size := ⟨_, rfl⟩
  rw [← hg8] at hr8
  rw [← hg8]
  clear hw8
  refine hK.out _ _ ?_ (fun hHeld => ?_)
  · exact HX2.out _ K8
  clear hK KK
  (try simp only [Act.put, List.setIfInBounds_toArray, List.set_cons_zero, List.set_cons_succ])
  refine wpAnyH_ready (rs := [7]) (by kernel_rfl) (by simp) ?_
  refine AllReadyH.cons (by simp only [List.getElem?_toArray, List.getElem?_cons_succ, List.getElem?_cons_zero]; rfl) (fun KK hK => ?_) AllReadyH.nil
  refine wpOp_app (.tmp 7) (.tmp 10) 83 rfl 3 1 Try.underlying83 infoInt rfl (by omega) rfl ho8 rfl hr8 rfl (one_int _ _) (by omega) (by omega) hs8 ?_
  intro A9 c9 w9 ho9 hg9 hA9
  have K9 : Kept (fun b => ablk A = some b) w.drew w9 := K8.trans (Kept.of_grown (F := fun b => ablk A = some b) hg9 (fun b e => e)) (fun _ _ x => x)
  refine hK.out _ _ ?_ (fun hHeld => ?_)
  · exact HX2.out _ K9
  clear hK KK
  (try simp only [Act.put, List.setIfInBounds_toArray, List.set_cons_zero, List.set_cons_succ])
  refine wpAnyH_take (i := 8) (v := ?_) (by simp only [List.getElem?_toArray, List.getElem?_cons_succ, List.getElem?_cons_zero]; rfl) (by kernel_rfl) (by kernel_rfl) (by kernel_rfl) (fun _ _ _ h => h) (Or.inl ⟨by rfl, ?_⟩) hHeld ?_
  rotate_left
  · intro wz hSw; (try dsimp only at hSw); go_simp; try with_reducible rfl
  (try simp only [Act.put, List.setIfInBounds_toArray, List.set_cons_zero, List.set_cons_succ])
  have b9 := K9.blk HB.out.drew HNe.out
  have b9c := b9.cells
  have b9f := b9.frees
  refine wpAnyH_done (by kernel_rfl) ?_ _
  simp only [lastQ]
  go_simp
  have hA9m : ablk A9 ≠ some m := by
    rcases hA9 with e | e
    · rw [e]; exact HNe.out
    · rw [e]; intro e2; injection e2 with e2; have := K8.size; have : w.drew.heap.size = w.heap.size := rfl; omega
  have hfin : Blk (w9.setCell ⟨m, 2, none⟩ (.slice A9 (n + 1) c9)) m t [a0, a1, .slice A9 (n + 1) c9, a3, a4, a5] ∧ Own (w9.setCell ⟨m, 2, none⟩ (.slice A9 (n + 1) c9)) base 3 1 A9 (n + 1) c9 (iv (l ++ [x])) ∧ (ablk A9 = ablk A ∨ ∃ g, ablk A9 = some g ∧ w.heap.size ≤ g) ∧ Kept (fun b => ablk A = some b ∨ b = m) w (w9.setCell ⟨m, 2, none⟩ (.slice A9 (n + 1) c9)) := by
    refine ⟨b9.set_ 2 _, own_kept (by rw [show iv (l ++ [x]) = iv l ++ [.int .i64 (x : Int)] from by simp [iv]]; exact ho9) Kept.setCell_ (fun b e e2 => hA9m (by rw [e, e2])), ?_, ?_⟩
    · rcases hA9 with e | e
      · exact .inl e
      · exact .inr ⟨_, e, Nat.le_trans (Nat.le_refl _) K8.size⟩
    · have K0 : Kept (fun b => ablk A = some b ∨ b = m) w w9 := ⟨K9.os, K9.tape, K9.output, K9.size, fun b hb hn => K9.block b hb (fun e => hn (.inl e))⟩
      exact K0.trans Kept.setCell_ (fun _ _ e => .inr e)
  have HF := Lib.hid hfin
  clear hfin b9c b9f b9 K9 ho9 hg9 hA9 hA9m hHeld ho8 hr8 hs8 K8
  go_end0
  exact ⟨rfl, A9, c9, HF.out⟩
def PopTo (w : World) (base m g n c : Nat) (t : TypeId) (a0 a1 a3 a4 a5 : Value) (l : List Nat) (e : Ending) (w' : World) : Prop := ∃ (x : Nat) (l' : List Nat), e = .returned (.iface 3 (.int .i64 (x : Int))) ∧ (x :: l').Perm l ∧ Own w' base 3 1 (some ⟨g, 0, none⟩) n c (iv l') ∧ Blk w' m t [a0, a1, .slice (some ⟨g, 0, none⟩) n c, a3, a4, a5] ∧ Kept (fun b => b = g ∨ b = m) w w'
set_option maxRecDepth 100000 in
set_option maxHeartbeats 2000000 in
theorem heappop_any {w : World} {base m g n c : Nat} {l : List Nat} {a0 a1 a3 a4 a5 : Value} {t : TypeId} (hb : Blk w m t [a0, a1, .slice (some ⟨g, 0, none⟩) (n + 1) c, a3, a4, a5]) (ho : Own w base 3 1 (some ⟨g, 0, none⟩) (n + 1) c (iv l)) (hne : m ≠ g) (hn : n + 1 ≤ 1000000) :
    Calls Try.prog 35 #[.iface 111 (.pointer (some ⟨m, 2, none⟩))] w (PopTo w base m g n c t a0 a1 a3 a4 a5 l) := by
  have hlen := ho.len1
  rw [length_iv] at hlen
  have cp : w.cell? ⟨m, 2, none⟩ = some (.slice (some ⟨g, 0, none⟩) (n + 1) c) := hb.cell 2
  have h1 : ((n + 1 : Nat) : Int) - 1 = (n : Int) := by omega
  have S0 := swap_own ho (x := 0) (y := n) (by omega) (by omega)
  have S := Lib.hid S0
  have L := Lib.hid (numlen_any w (some ⟨g, 0, none⟩) (n + 1) c)
  have HB := Lib.hid hb
  have HO := Lib.hid ho
  have hml := hb.lt
  have mL := mth_len cp
  have mS := mth_swap cp
  clear hb ho S0
  go_enter Try.func35, Try.ntmps35
  go_upto_region 3 with (first
    | ((with_reducible refine Calls.mono L.out ?_); rintro e w2 ⟨rfl, rfl⟩)
    | ((with_reducible refine Calls.mono S.out ?_); rintro e w3 ⟨rfl, ⟨l2, ho2, hp2, hk2⟩, hK2⟩))
  have HP2 := Lib.hid hp2
  have HK2 := Lib.hid hK2
  have hb3 := hK2.blk HB.out hne
  have D := Lib.hid (down_any (N := n) (hb3.cell 2) ho2 (Nat.lt_of_lt_of_le hml hK2.size) hne (by omega) hn)
  have HB3 := Lib.hid hb3
  clear hp2 hk2 hK2 hb3 ho2 L S mL mS cp
  go_upto_region 4 with ((with_reducible refine Calls.mono D.out ?_); rintro e w4 ⟨⟨b, rfl⟩, l3, ho3, hp3, hk3, hK3⟩)
  have hl3 : l3.length = n + 1 := by have := ho3.len1; rw [length_iv] at this; exact this
  have hb4 := hK3.blk HB3.out hne
  obtain ⟨xv, hxv⟩ : ∃ z, z = l3.getD n 0 := ⟨_, rfl⟩
  have P0 := numpop_any (x := (xv : Int)) hb4 (by rw [hxv]; exact (iv_cell ho3 (by omega)).1) hn (by have := ho3.cap; omega)
  have HXv := Lib.hid hxv
  have P := Lib.hid P0
  have HP3 := Lib.hid hp3
  have HK3 := Lib.hid hK3
  have HO3 := Lib.hid ho3
  have HB4 := Lib.hid hb4
  have mP := mth_pop w4 m 2
  clear hxv P0 hp3 hk3 hK3 ho3 hb4 D
  go_wp2_with ((with_reducible refine Calls.mono P.out ?_); rintro e w5 ⟨rfl, rfl⟩)
  have hfin : PopTo w base m g n c t a0 a1 a3 a4 a5 l (.returned (.iface 3 (.int .i64 (xv : Int)))) (w4.setCell ⟨m, 2, none⟩ (.slice (some ⟨g, 0, none⟩) n c)) := by
    refine ⟨xv, l3.take n, rfl, ?_, ?_, HB4.out.set_ 2 _, ?_⟩
    · rw [HXv.out]
      have e : l3 = l3.take n ++ [l3.getD n 0] := by
        rw [List.getD_eq_getElem?_getD, List.getElem?_eq_getElem (by omega), Option.getD_some, ← List.take_succ_eq_append_getElem (by omega), List.take_of_length_le (by omega)]
      have e2 : (l3.getD n 0 :: l3.take n).Perm l3 := by
        conv => rhs; rw [e]
        exact (List.perm_append_singleton _ _).symm
      exact e2.trans (HP3.out.trans HP2.out)
    · have h3 := HO3.out.take (k := n) (by omega)
      have e3 : iv (l3.take n) = (iv l3).take (n * 1) := by simp [iv, List.map_take]
      rw [e3]
      exact own_kept h3 Kept.setCell_ (fun b e e2 => hne (by injection e with e; have e : g = b := e; omega))
    · exact ((HK2.out.trans HK3.out (fun _ _ e => e)).mono (F' := fun b => b = g ∨ b = m) (fun _ _ e => .inl e)).trans Kept.setCell_ (fun _ _ e => .inr e)
  have HF := Lib.hid hfin
  clear hfin P HP2 HK2 HB3 HP3 HK3 HO3 HB4 mP
  go_ret
  exact HF.out
def PushTo (w : World) (base m n : Nat) (A : Option Addr) (t : TypeId) (a0 a1 a3 a4 a5 : Value) (l : List Nat) (x : Nat) (e : Ending) (w' : World) : Prop := e = .returned (.tuple #[]) ∧ ∃ A' c' l', Blk w' m t [a0, a1, .slice A' (n + 1) c', a3, a4, a5] ∧ Own w' base 3 1 A' (n + 1) c' (iv l') ∧ l'.Perm (x :: l) ∧ (ablk A' = ablk A ∨ ∃ g, ablk A' = some g ∧ w.heap.size ≤ g) ∧ Kept (fun b => ablk A = some b ∨ b = m) w w'
set_option maxRecDepth 100000 in
set_option maxHeartbeats 2000000 in
theorem heappush_any {w : World} {base m n c x : Nat} {A : Option Addr} {l : List Nat} {a0 a1 a3 a4 a5 : Value} {t : TypeId} (hb : Blk w m t [a0, a1, .slice A n c, a3, a4, a5]) (ho : Own w base 3 1 A n c (iv l)) (hne : ablk A ≠ some m) (hn : n + 1 ≤ 1000000) (hbase : base ≤ w.heap.size) :
    Calls Try.prog 86 #[.iface 111 (.pointer (some ⟨m, 2, none⟩)), .iface 3 (.int .i64 (x : Int))] w (PushTo w base m n A t a0 a1 a3 a4 a5 l x) := by
  have hml := hb.lt
  have P := Lib.hid (numpush_any (x := x) hb ho hne (by omega) hbase)
  have h1 : ((n + 1 : Nat) : Int) - 1 = (n : Int) := by omega
  have mP := mth_push w m 2
  have HNe := Lib.hid hne
  clear hb ho hne
  go_enter Try.func86, Try.ntmps86
  go_upto_region 1 with ((with_reducible refine Calls.mono P.out ?_); rintro e w2 ⟨rfl, A2, c2, hb2, ho2, hA2, hK2⟩)
  clear P mP
  obtain ⟨g, rfl, _, _⟩ := ho2.head (by omega)
  have hgm : m ≠ g := by
    rintro rfl
    rcases hA2 with e | ⟨g', e, h⟩
    · exact HNe.out e.symm
    · injection e with e; have e : m = g' := e; omega
  have cp := hb2.cell 2
  simp only [List.getElem?_cons_zero, List.getElem?_cons_succ] at cp
  have mL := mth_len cp
  have L := Lib.hid (numlen_any w2 (some ⟨g, 0, none⟩) (n + 1) c2)
  have U := Lib.hid (up_any (j0 := (n : Int)) cp ho2 (Nat.lt_of_lt_of_le hml hK2.size) hgm (by omega) (by omega))
  have HB2 := Lib.hid hb2
  have HA2 := Lib.hid hA2
  have HK2 := Lib.hid hK2
  clear hb2 ho2 hA2 hK2
  go_wp2_with (first
    | ((with_reducible refine Calls.mono L.out ?_); rintro e w3 ⟨rfl, rfl⟩)
    | ((with_reducible refine Calls.mono U.out ?_); rintro e w3 ⟨rfl, l3, ho3, hp3, hK3⟩))
  have hfin : PushTo w base m n A t a0 a1 a3 a4 a5 l x (.returned (.tuple #[])) w3 := by
    refine ⟨rfl, some ⟨g, 0, none⟩, c2, l3, hK3.blk HB2.out hgm, ho3, hp3.trans (List.perm_append_singleton _ _), HA2.out, ?_⟩
    refine HK2.out.trans hK3 (fun b hb e => ?_)
    subst e
    rcases HA2.out with e | ⟨g', e, h⟩
    · exact .inl e.symm
    · injection e with e; have e : b = g' := e; omega
  have HF := Lib.hid hfin
  clear hfin ho3 hp3 hK3 HB2 HA2 HK2 L U mL cp
  go_end0
  exact HF.out
end Go.Proofs.Ytdakohbfibcjeaa
namespace Go.Proofs.Ytdakohbfibcjeaa
open Go.RowKit
set_option linter.unusedSimpArgs false
set_option linter.unusedVariables false

/-- the states: 0: free, 1: taken -/
def stV (N : Nat) (f : Nat → Bool) : List Value := (List.range N).map fun i => .int .u8 (if f (50 + i) then 0 else 1)
def updF (f : Nat → Bool) (n : Nat) (b : Bool) : Nat → Bool := fun j => if j = n then b else f j
structure AlW where
  m : Nat
  sb : Nat
  A : Option Addr
  c : Nat
def AlW.foot (k : AlW) : Nat → Prop := fun b => b = k.m ∨ b = k.sb ∨ ablk k.A = some b
def alC (k : AlW) (N n : Nat) : List Value := [.int .i64 50, .slice (some ⟨k.sb, 0, none⟩) N N, .slice k.A n k.c, .int .i64 (n : Int), .int .i64 0, .int .i64 0]
structure AlM (w : World) (base : Nat) (k : AlW) (N : Nat) (f : Nat → Bool) (q : List Nat) : Prop where
  blk : Blk w k.m 85 (alC k N q.length)
  sts : Blk w k.sb 5 (stV N f)
  own : Own w base 3 1 k.A q.length k.c (iv q)
  bases : base ≤ k.m ∧ base ≤ k.sb
  ne : k.m ≠ k.sb ∧ ablk k.A ≠ some k.m ∧ ablk k.A ≠ some k.sb
  nd : q.Nodup
  mem : ∀ n, n ∈ q ↔ 50 ≤ n ∧ n < 50 + N ∧ f n = true
  small : N ≤ 4096
def Al (w : World) (base : Nat) (k : AlW) (N : Nat) (f : Nat → Bool) : Prop := ∃ q, AlM w base k N f q
structure ACh (w w' : World) (base : Nat) (k k' : AlW) (N : Nat) (f' : Nat → Bool) : Prop where
  al : Al w' base k' N f'
  m : k'.m = k.m
  K : Kept k.foot w w'
  foot : ∀ b, k'.foot b → k.foot b ∨ w.heap.size ≤ b
theorem kept_drew {F : Nat → Prop} {w w' : World} (h : Kept F w w') : Kept F w w'.drew := ⟨h.os, h.tape, h.output, h.size, h.block⟩
theorem nodup_len : ∀ {l m : List Nat}, l.Nodup → (∀ x ∈ l, x ∈ m) → l.length ≤ m.length
  | [], _, _, _ => Nat.zero_le _
  | x :: r, m, hn, hs => by
    have hx := hs x List.mem_cons_self
    have h1 := nodup_len (l := r) (m := m.erase x) (List.nodup_cons.1 hn).2 (fun y hy => by
      have hne : y ≠ x := fun e => (List.nodup_cons.1 hn).1 (e ▸ hy)
      exact (List.mem_erase_of_ne hne).2 (hs y (List.mem_cons_of_mem _ hy)))
    have h2 := List.length_erase_of_mem hx
    have h3 := List.length_pos_of_mem hx
    simp only [List.length_cons]; omega
section
variable {F : Nat → Prop} {w w' : World} {base N n i : Nat} {k : AlW} {f g : Nat → Bool} {q : List Nat}
theorem length_stV : (stV N f).length = N := by simp [stV]
theorem stV_get (h : i < N) : (stV N f)[i]? = some (.int .u8 (if f (50 + i) then 0 else 1)) := by
  unfold stV
  rw [List.getElem?_map, List.getElem?_range h]; rfl
theorem stV_set {b : Bool} : (stV N f).set i (.int .u8 (if b then 0 else 1)) = stV N (updF f (50 + i) b) := by
  apply List.ext_getElem?
  intro j
  by_cases hj : j < N
  · rw [stV_get hj]
    by_cases e : i = j
    · subst e
      rw [List.getElem?_set_self (by rw [length_stV]; exact hj)]
      simp [updF]
    · rw [List.getElem?_set_ne e, stV_get hj]
      have e2 : updF f (50 + i) b (50 + j) = f (50 + j) := if_neg (by omega)
      rw [e2]
  · rw [List.getElem?_eq_none (by rw [List.length_set, length_stV]; omega), List.getElem?_eq_none (by rw [length_stV]; omega)]
theorem AlM.foot_base (h : AlM w base k N f q) : ∀ b, k.foot b → base ≤ b ∧ b < w.heap.size := by
  rintro b (rfl | rfl | e)
  · exact ⟨h.bases.1, h.blk.lt⟩
  · exact ⟨h.bases.2, h.sts.lt⟩
  · exact h.own.blk e
theorem AlM.kept (h : AlM w base k N f q) (K : Kept F w w') (hF : ∀ b, k.foot b → ¬ F b) : AlM w' base k N f q :=
  ⟨K.blk h.blk (hF _ (.inl rfl)), K.blk h.sts (hF _ (.inr (.inl rfl))), own_kept h.own K (fun b e => hF b (.inr (.inr e))), h.bases, h.ne, h.nd, h.mem, h.small⟩
theorem Al.foot_base (h : Al w base k N f) : ∀ b, k.foot b → base ≤ b ∧ b < w.heap.size := by obtain ⟨q, h⟩ := h; exact h.foot_base
theorem Al.kept (h : Al w base k N f) (K : Kept F w w') (hF : ∀ b, k.foot b → ¬ F b) : Al w' base k N f := by obtain ⟨q, h⟩ := h; exact ⟨q, h.kept K hF⟩
theorem AlM.congr (h : AlM w base k N f q) (e : ∀ n, 50 ≤ n → n < 50 + N → g n = f n) : AlM w base k N g q := by
  have e2 : stV N g = stV N f := by
    unfold stV
    apply List.map_congr_left
    intro i hi
    rw [e (50 + i) (by omega) (by have := List.mem_range.1 hi; omega)]
  refine ⟨h.blk, by rw [e2]; exact h.sts, h.own, h.bases, h.ne, h.nd, fun n => ?_, h.small⟩
  rw [h.mem]
  constructor
  · rintro ⟨h1, h2, h3⟩; exact ⟨h1, h2, by rw [e n h1 h2]; exact h3⟩
  · rintro ⟨h1, h2, h3⟩; exact ⟨h1, h2, by rw [← e n h1 h2]; exact h3⟩
theorem Al.congr (h : Al w base k N f) (e : ∀ n, 50 ≤ n → n < 50 + N → g n = f n) : Al w base k N g := by obtain ⟨q, h⟩ := h; exact ⟨q, h.congr e⟩
theorem AlM.len (h : AlM w base k N f q) : q.length ≤ N := by
  have h1 : q ⊆ (List.range N).map (50 + ·) := fun n hn => by
    obtain ⟨a, b, _⟩ := (h.mem n).1 hn
    exact List.mem_map.2 ⟨n - 50, List.mem_range.2 (by omega), by omega⟩
  have h2 := nodup_len h.nd h1
  simpa using h2
end

set_option maxRecDepth 100000 in
theorem alis_any {w : World} {m sb N n i : Nat} {s : Int} {a2 a3 a4 a5 : Value} {t : TypeId} (hb : Blk w m t [.int .i64 50, .slice (some ⟨sb, 0, none⟩) N N, a2, a3, a4, a5]) (hs : w.cell? ⟨sb, i, none⟩ = some (.int .u8 s)) (hn : n = 50 + i) (hi : i < N) (hN : N ≤ 4096) :
    Calls Try.prog 36 #[.pointer (some ⟨m, 0, none⟩), .int .i64 (n : Int), .int .u8 s] w fun e w' => e = .returned (.bool true) ∧ ∃ q, w' = w.drewN q := by
  have e1 : (n : Int) - 50 = (i : Int) := by omega
  have c0 : w.cell? ⟨m, 0, none⟩ = some (.int .i64 50) := hb.cell 0
  have c1 : w.cell? ⟨m, 1, none⟩ = some (.slice (some ⟨sb, 0, none⟩) N N) := hb.cell 1
  have h1 : decide ((50 : Int) ≤ (n : Int)) = true := decide_eq_true (by omega)
  have h2 : decide ((i : Int) < (N : Int)) = true := decide_eq_true (by omega)
  have h3 : (0 : Int) ≤ (i : Int) ∧ (i : Int) < (N : Int) := by omega
  have h4 : (50 : Int) ≤ (n : Int) := by omega
  clear hb hn
  go_enter Try.func36, Try.ntmps36
  go_upto_region 1 with fail
  go_quiet (fail)
  go_wp2
  go_ret
  exact ⟨rfl, _, rfl⟩
set_option maxRecDepth 100000 in
set_option maxHeartbeats 2000000 in
theorem alfrees_any {w : World} {base N n : Nat} {k : AlW} {f : Nat → Bool} {q : List Nat} (h : AlM w base k N f q) (hn : 50 ≤ n ∧ n < 50 + N) (hf : f n = false) (hbase : base ≤ w.heap.size) :
    Calls Try.prog 73 #[.pointer (some ⟨k.m, 0, none⟩), .int .i64 (n : Int)] w fun e w' => e = .returned (.tuple #[]) ∧ ∃ k', ACh w w' base k k' N (updF f n true) := by
  obtain ⟨i, rfl⟩ : ∃ i, n = 50 + i := ⟨n - 50, by omega⟩
  have hi : i < N := by omega
  have hN := h.small
  have hql := h.len
  have e1 : ((50 + i : Nat) : Int) - 50 = (i : Int) := by omega
  have h3 : (0 : Int) ≤ (i : Int) ∧ (i : Int) < (N : Int) := by omega
  obtain ⟨n, hne⟩ : ∃ n, n = 50 + i := ⟨_, rfl⟩
  rw [← hne] at e1 hf
  rw [← hne]
  have c0 : w.cell? ⟨k.m, 0, none⟩ = some (.int .i64 50) := h.blk.cell 0
  have c1 : w.cell? ⟨k.m, 1, none⟩ = some (.slice (some ⟨k.sb, 0, none⟩) N N) := h.blk.cell 1
  have cs : w.cell? ⟨k.sb, i, none⟩ = some (.int .u8 1) := by
    have := h.sts.cell i
    rw [stV_get hi, ← hne, hf] at this
    exact this
  have cf : w.frozen? ⟨k.sb, i, none⟩ = false := h.sts.frozen i
  have H := Lib.hid h
  have HNe := Lib.hid hne
  have HF := Lib.hid hf
  obtain ⟨m, hm⟩ : ∃ m, m = k.m := ⟨_, rfl⟩
  obtain ⟨sb, hsb⟩ : ∃ m, m = k.sb := ⟨_, rfl⟩
  rw [← hm] at c0 c1
  rw [← hsb] at c1 cs cf
  rw [← hm]
  have HM := Lib.hid hm
  have HSb := Lib.hid hsb
  clear h hne hf hm hsb hn
  go_enter Try.func73, Try.ntmps73
  go_upto_region 0 with fail
  go_region
  have K0 : Kept (fun b => b = sb) w (w.setCell ⟨sb, i, none⟩ (.int .u8 0)).drew := kept_drew Kept.setCell_
  have hB1 : Blk (w.setCell ⟨sb, i, none⟩ (.int .u8 0)).drew sb 5 (stV N (updF f n true)) := by
    have := H.out.sts.set_ i (.int .u8 0)
    rw [← HSb.out] at this
    have e : (stV N f).set i (.int .u8 0) = stV N (updF f n true) := by rw [HNe.out]; exact stV_set (b := true)
    rw [e] at this
    exact this
  have hM1 : Blk (w.setCell ⟨sb, i, none⟩ (.int .u8 0)).drew m 85 (alC k N q.length) := by
    have h1 := H.out.blk
    rw [← HM.out] at h1
    exact K0.blk h1 (fun e => H.out.ne.1 (by rw [← HM.out, ← HSb.out]; exact e))
  have hO1 : Own (w.setCell ⟨sb, i, none⟩ (.int .u8 0)).drew base 3 1 k.A q.length k.c (iv q) := own_kept H.out.own K0 (fun b e e2 => H.out.ne.2.2 (by rw [e, e2, HSb.out]))
  have hK1 : Kept k.foot w (w.setCell ⟨sb, i, none⟩ (.int .u8 0)).drew := K0.mono (fun b _ e => .inr (.inl (by rw [e, HSb.out])))
  clear c0 c1 cs cf K0
  go_upto_region 1 with fail
  refine wp_world (fun V => Blk V sb 5 (stV N (updF f n true)) ∧ Blk V m 85 (alC k N q.length) ∧ Own V base 3 1 k.A q.length k.c (iv q) ∧ Kept k.foot w V) ⟨hB1, hM1, hO1, hK1⟩ ?_
  clear hB1 hM1 hO1 hK1
  rintro V ⟨hB1, hM1, hO1, hK1⟩
  have hA1 : ablk k.A ≠ some m := by rw [HM.out]; exact H.out.ne.2.1
  have hms : m ≠ sb := by rw [HM.out, HSb.out]; exact H.out.ne.1
  have c3 : V.cell? ⟨m, 3, none⟩ = some (.int .i64 (q.length : Int)) := hM1.cell 3
  have f3 : V.frozen? ⟨m, 3, none⟩ = false := hM1.frozen 3
  have HB1 := Lib.hid hB1
  have HM1 := Lib.hid hM1
  have HO1 := Lib.hid hO1
  have HK1 := Lib.hid hK1
  have HA1 := Lib.hid hA1
  have HMS := Lib.hid hms
  clear hB1 hO1 hK1 hM1 hA1 hms
  go_upto_region 2 with fail
  have K1 : Kept (fun b => b = m) V (V.setCell ⟨m, 3, none⟩ (.int .i64 ((q.length : Int) + 1))) := Kept.setCell_
  refine wp_world (fun V2 => Blk V2 sb 5 (stV N (updF f n true)) ∧ Blk V2 m 85 [.int .i64 50, .slice (some ⟨k.sb, 0, none⟩) N N, .slice k.A q.length k.c, .int .i64 ((q.length : Int) + 1), .int .i64 0, .int .i64 0] ∧ Own V2 base 3 1 k.A q.length k.c (iv q) ∧ Kept k.foot w V2)
    ⟨K1.blk HB1.out (fun e => HMS.out e.symm), HM1.out.set_ 3 (.int .i64 ((q.length : Int) + 1)), own_kept HO1.out K1 (fun b e e2 => HA1.out (by rw [e, e2])), HK1.out.trans K1 (fun b _ e => .inl (by rw [e, HM.out]))⟩ ?_
  clear HB1 HM1 HO1 HK1 K1 c3 f3
  rintro V2 ⟨hB2, hM2, hO2, hK2⟩
  have P := Lib.hid (heappush_any (x := n) hM2 hO2 HA1.out (by omega) (Nat.le_trans hbase hK2.size))
  have HB2 := Lib.hid hB2
  have HK2 := Lib.hid hK2
  have fin : ∀ w', PushTo V2 base m q.length k.A 85 (.int .i64 50) (.slice (some ⟨k.sb, 0, none⟩) N N) (.int .i64 ((q.length : Int) + 1)) (.int .i64 0) (.int .i64 0) q n (.returned (.tuple #[])) w' → ∃ k', ACh w w' base k k' N (updF f n true) := by
    rintro w' ⟨_, A', c', l', hb', ho', hp', hA', hK'⟩
    have hl' : l'.length = q.length + 1 := by have := hp'.length_eq; simpa using this
    have hsz : w.heap.size ≤ V2.heap.size := hK2.size
    have hAn : ∀ b, ablk A' = some b → ablk k.A = some b ∨ w.heap.size ≤ b := fun b e => by
      rcases hA' with e2 | ⟨g, e2, h⟩
      · exact .inl (by rw [← e2]; exact e)
      · rw [e2] at e; injection e with e; exact .inr (by omega)
    have hfb := H.out.foot_base
    have hns : sb ≠ m := fun e => HMS.out e.symm
    refine ⟨{ k with A := A', c := c' }, ⟨l', ?_, ?_, ?_, H.out.bases, ⟨H.out.ne.1, fun e => ?_, fun e => ?_⟩, ?_, fun x => ?_, H.out.small⟩, rfl, ?_, ?_⟩
    · show Blk w' k.m _ (alC { k with A := A', c := c' } N l'.length)
      rw [← HM.out, hl']
      exact hb'
    · show Blk w' k.sb _ _
      rw [← HSb.out]
      exact hK'.blk hB2 (fun e => by
        rcases e with e | e
        · exact H.out.ne.2.2 (by rw [← HSb.out]; exact e)
        · exact hns e)
    · rw [hl']; exact ho'
    · rcases hAn _ e with e2 | e2
      · exact H.out.ne.2.1 e2
      · have e2 : w.heap.size ≤ k.m := e2
        have := (hfb k.m (.inl rfl)).2; omega
    · rcases hAn _ e with e2 | e2
      · exact H.out.ne.2.2 e2
      · have e2 : w.heap.size ≤ k.sb := e2
        have := (hfb k.sb (.inr (.inl rfl))).2; omega
    · refine hp'.nodup_iff.2 (List.nodup_cons.2 ⟨fun hm => ?_, H.out.nd⟩)
      have := ((H.out.mem n).1 hm).2.2
      rw [HF.out] at this; cases this
    · rw [hp'.mem_iff, List.mem_cons, H.out.mem]
      have hne := HNe.out
      unfold updF
      by_cases e : x = n
      · subst e
        constructor
        · intro _; exact ⟨by omega, by omega, if_pos rfl⟩
        · intro _; exact .inl rfl
      · rw [if_neg e]
        constructor
        · rintro (h | h)
          · exact absurd h e
          · exact h
        · exact .inr
    · refine hK2.trans hK' (fun b _ e => ?_)
      rcases e with e | e
      · exact .inr (.inr e)
      · exact .inl (by rw [e, HM.out])
    · rintro b (e | e | e)
      · exact .inl (.inl e)
      · exact .inl (.inr (.inl e))
      · rcases hAn b e with e2 | e2
        · exact .inl (.inr (.inr e2))
        · exact .inr e2
  have FIN := Lib.hid fin
  clear fin hB2 hM2 hO2 hK2 HB2 HK2 HA1 HMS HF HNe
  go_wp2_with ((with_reducible refine Calls.mono P.out ?_); rintro e w3 hP; obtain rfl := hP.1)
  have F3 := Lib.hid (FIN.out _ hP)
  clear hP FIN P
  go_end0
  exact ⟨rfl, F3.out⟩
theorem alback_any {w : World} {base N n : Nat} {k : AlW} {f : Nat → Bool} (h : Al w base k N f) (hn : 50 ≤ n ∧ n < 50 + N) (hf : f n = false) (hbase : base ≤ w.heap.size) :
    Calls Try.prog 49 #[.pointer (some ⟨k.m, 0, none⟩), .int .i64 (n : Int)] w fun e w' => e = .returned (.bool true) ∧ ∃ k', ACh w w' base k k' N (updF f n true) := by
  obtain ⟨q, h⟩ := h
  have I0 : ∀ W, AlM W base k N f q → Calls Try.prog 36 #[.pointer (some ⟨k.m, 0, none⟩), .int .i64 (n : Int), .int .u8 1] W fun e w' => e = .returned (.bool true) ∧ ∃ q, w' = W.drewN q := fun W hW => by
    refine alis_any (i := n - 50) hW.blk ?_ (by omega) (by omega) h.small
    have := hW.sts.cell (n - 50)
    rw [stV_get (by omega), show 50 + (n - 50) = n by omega, hf] at this
    exact this
  have I := Lib.hid (I0 w h)
  have Fr := Lib.hid (fun q0 => alfrees_any (w := w.drewN q0) (h.kept (F := fun _ => False) (kept_drewN (Kept.refl _ _) _) (fun _ _ x => x)) hn hf hbase)
  have HI : Hid (∀ q0 w' k', ACh (w.drewN q0) w' base k k' N (updF f n true) → ACh w w' base k k' N (updF f n true)) := Lib.hid fun q0 w' k' c => ⟨c.al, c.m, (kept_drewN (Kept.refl k.foot w) q0).trans c.K (fun _ _ x => x), c.foot⟩
  obtain ⟨m, hm⟩ : ∃ m, m = k.m := ⟨_, rfl⟩
  rw [← hm] at I Fr
  rw [← hm]
  clear I0 h hm
  go_enter Try.func49, Try.ntmps49
  go_wp2_with (first
    | ((with_reducible refine Calls.mono I.out ?_); rintro e w2 ⟨rfl, q0, rfl⟩)
    | ((with_reducible refine Calls.mono (Fr.out _) ?_); rintro e w3 ⟨rfl, k', hc⟩; have HC := Lib.hid (HI.out _ _ _ hc); clear hc))
  clear I Fr HI
  go_ret
  exact ⟨rfl, k', HC.out⟩
def TakeTo (w : World) (base : Nat) (k : AlW) (N : Nat) (f : Nat → Bool) (e : Ending) (w' : World) : Prop := ∃ n k', e = .returned (.tuple #[.int .i64 ((n : Nat) : Int), .bool true]) ∧ 50 ≤ n ∧ n < 50 + N ∧ f n = true ∧ ACh w w' base k k' N (updF f n false)
set_option maxRecDepth 100000 in
set_option maxHeartbeats 2000000 in
theorem altake_any {w : World} {base N : Nat} {k : AlW} {f : Nat → Bool} (h : Al w base k N f) {n0 : Nat} (hn0 : 50 ≤ n0 ∧ n0 < 50 + N) (hf0 : f n0 = true) :
    Calls Try.prog 24 #[.pointer (some ⟨k.m, 0, none⟩)] w (TakeTo w base k N f) := by
  obtain ⟨q, h⟩ := h
  have hN := h.small
  have hql := h.len
  have hq0 : n0 ∈ q := (h.mem n0).2 ⟨hn0.1, hn0.2, hf0⟩
  obtain ⟨p, hp⟩ : ∃ p, q.length = p + 1 := ⟨q.length - 1, by have := List.length_pos_of_mem hq0; omega⟩
  have hown := h.own
  rw [hp] at hown
  obtain ⟨g, hA, _, _⟩ := hown.head (by omega)
  rw [hA] at hown
  have hblk := h.blk
  unfold alC at hblk
  rw [hp, hA] at hblk
  have hgm : k.m ≠ g := fun e => h.ne.2.1 (by rw [hA, e]; rfl)
  have hgs : k.sb ≠ g := fun e => h.ne.2.2 (by rw [hA, e]; rfl)
  have H := Lib.hid h
  have HA := Lib.hid hA
  have P0 := heappop_any hblk hown hgm (by omega)
  obtain ⟨m, hm⟩ : ∃ m, m = k.m := ⟨_, rfl⟩
  rw [← hm] at P0 hblk hgm
  rw [← hm]
  have HM := Lib.hid hm
  have HB := Lib.hid hblk
  have HP := Lib.hid hp
  have c2 : w.cell? ⟨m, 2, none⟩ = some (.slice (some ⟨g, 0, none⟩) (p + 1) k.c) := hblk.cell 2
  have P := Lib.hid P0
  have hpos : (0 : Int) < (p : Int) + 1 := by omega
  clear hm P0 hblk hown h hq0 hf0 hp hA
  go_enter Try.func24, Try.ntmps24
  go_wp2
  go_loopw [2] (fun s2 wr => s2 = .int .i64 0 ∧ wr = w) (fun _ _ => 0)
  case atStart => exact ⟨rfl, rfl⟩
  case round =>
    obtain ⟨rfl, rfl⟩ := hrel
    go_upto_region 3 with ((with_reducible refine Calls.mono P.out ?_); rintro e w2 ⟨n, l', rfl, hpm, ho', hb', hK'⟩; have hta : ∀ w, Sem.run Try.prog (Instr.typeAssert (.iface 3 (.int .i64 (n : Int))) 20 3 false) w = .ok (.int .i64 (n : Int)) w := fun w => by kernel_rfl)
    clear P hta c2
    have hnq : n ∈ q := hpm.mem_iff.1 List.mem_cons_self
    obtain ⟨hn1, hn2, hfn⟩ := (H.out.mem n).1 hnq
    obtain ⟨i, hi⟩ : ∃ i, n = 50 + i := ⟨n - 50, by omega⟩
    have hiN : i < N := by omega
    obtain ⟨sb, hsb⟩ : ∃ m, m = k.sb := ⟨_, rfl⟩
    have hmsb : m ≠ sb := by rw [HM.out, hsb]; exact H.out.ne.1
    have hsg : sb ≠ g := by rw [hsb]; exact hgs
    have hs2 : Blk w2 sb 5 (stV N f) := by
      rw [hsb]
      exact hK'.blk H.out.sts (fun e => by
        rcases e with e | e
        · exact hgs e
        · exact H.out.ne.1 (by rw [← HM.out, e]))
    rw [← hsb] at hb'
    have cs : w2.cell? ⟨sb, i, none⟩ = some (.int .u8 0) := by
      have := hs2.cell i
      rw [stV_get hiN, ← hi, hfn] at this
      exact this
    have cf : w2.frozen? ⟨sb, i, none⟩ = false := hs2.frozen i
    have I := Lib.hid (alis_any (n := n) (i := i) hb' cs hi hiN hN)
    have c0 : w2.cell? ⟨m, 0, none⟩ = some (.int .i64 50) := hb'.cell 0
    have c1 : w2.cell? ⟨m, 1, none⟩ = some (.slice (some ⟨sb, 0, none⟩) N N) := hb'.cell 1
    have e1 : (n : Int) - 50 = (i : Int) := by omega
    have h3 : (0 : Int) ≤ (i : Int) ∧ (i : Int) < (N : Int) := by omega
    have HPM := Lib.hid hpm
    have HO' := Lib.hid ho'
    have HB' := Lib.hid hb'
    have HK' := Lib.hid hK'
    have HS2 := Lib.hid hs2
    have HI := Lib.hid hi
    have HN12 : Hid (50 ≤ n ∧ n < 50 + N ∧ f n = true) := Lib.hid ⟨hn1, hn2, hfn⟩
    have HSb := Lib.hid hsb
    have HMS : Hid (m ≠ sb ∧ sb ≠ g ∧ m ≠ g) := Lib.hid ⟨hmsb, hsg, hgm⟩
    clear hpm ho' hb' hK' hs2 hi hn1 hn2 hfn hsb hmsb hsg hnq hgm hgs
    go_upto_region 4 with ((with_reducible refine Calls.mono I.out ?_); rintro e w3 ⟨rfl, q0, rfl⟩)
    clear I
    go_region
    go_upto_region 5 with fail
    have K0 : Kept (fun b => b = sb) w2 ((w2.drewN (q0 + 1)).setCell ⟨sb, i, none⟩ (.int .u8 1)) := (kept_drewN (Kept.refl _ _) (q0 + 1)).trans Kept.setCell_ (fun _ _ x => x)
    have hB1 : Blk ((w2.drewN (q0 + 1)).setCell ⟨sb, i, none⟩ (.int .u8 1)) sb 5 (stV N (updF f n false)) := by
      have := (HS2.out.drewN (q0 + 1)).set_ i (.int .u8 1)
      have e : (stV N f).set i (.int .u8 1) = stV N (updF f n false) := by rw [HI.out]; exact stV_set (b := false)
      rw [e] at this
      exact this
    have HF0 : Hid (∀ b, ((b = g ∨ b = m) ∨ b = sb) → k.foot b) := Lib.hid fun b e => by
      rcases e with (e | e) | e
      · exact .inr (.inr (by rw [HA.out, e]; rfl))
      · exact .inl (by rw [e, HM.out])
      · exact .inr (.inl (by rw [e, HSb.out]))
    refine wp_world (fun V => Blk V sb 5 (stV N (updF f n false)) ∧ Blk V m 85 [.int .i64 50, .slice (some ⟨sb, 0, none⟩) N N, .slice (some ⟨g, 0, none⟩) p k.c, .int .i64 ((p + 1 : Nat) : Int), .int .i64 0, .int .i64 0] ∧ Own V base 3 1 (some ⟨g, 0, none⟩) p k.c (iv l') ∧ Kept k.foot wr V)
      ⟨hB1, K0.blk HB'.out HMS.out.1, own_kept HO'.out K0 (fun b e e2 => HMS.out.2.1 (by injection e with e; have e : g = b := e; omega)), (HK'.out.mono (F' := k.foot) (fun b _ e => HF0.out b (.inl e))).trans K0 (fun b _ e => HF0.out b (.inr e))⟩ ?_
    clear hB1 K0 HS2 HB' HO' HK' c0 c1 cs cf
    rintro V ⟨hB1, hM1, hO1, hK1⟩
    have hMc := hM1.cells
    have hMf := hM1.frees
    have e9 : ((p + 1 : Nat) : Int) - 1 = (p : Int) := by omega
    have HB1 := Lib.hid hB1
    have HM1 := Lib.hid hM1
    have HO1 := Lib.hid hO1
    have HK1 := Lib.hid hK1
    clear hB1 hM1 hO1 hK1
    have fin : ∀ V', Kept (fun b => b = m) V V' → Blk V' m 85 [.int .i64 50, .slice (some ⟨sb, 0, none⟩) N N, .slice (some ⟨g, 0, none⟩) p k.c, .int .i64 (p : Int), .int .i64 0, .int .i64 0] → TakeTo wr base k N f (.returned (.tuple #[.int .i64 (n : Int), .bool true])) V' := by
      intro V' K hb
      have hl' : l'.length = p := by have := HPM.out.length_eq; rw [HP.out] at this; simpa using this
      have hnd : (n :: l').Nodup := HPM.out.nodup_iff.2 H.out.nd
      refine ⟨n, k, rfl, HN12.out.1, HN12.out.2.1, HN12.out.2.2, ⟨l', ?_, ?_, ?_, H.out.bases, H.out.ne, (List.nodup_cons.1 hnd).2, fun x => ?_, hN⟩, rfl, HK1.out.trans K (fun b _ e => HF0.out b (.inl (.inr e))), fun b e => .inl e⟩
      · unfold alC
        rw [← HM.out, ← HSb.out, hl', HA.out]
        exact hb
      · rw [← HSb.out]; exact K.blk HB1.out (fun e => HMS.out.1 e.symm)
      · rw [hl', HA.out]; exact own_kept HO1.out K (fun b e e2 => HMS.out.2.2 (by injection e with e; have e : g = b := e; omega))
      · have h1 := HPM.out.mem_iff (a := x)
        rw [H.out.mem, List.mem_cons] at h1
        unfold updF
        by_cases e : x = n
        · subst e
          rw [if_pos rfl]
          constructor
          · intro hx; exact absurd hx (List.nodup_cons.1 hnd).1
          · rintro ⟨_, _, h⟩; cases h
        · rw [if_neg e, ← h1]
          constructor
          · exact .inr
          · rintro (h | h)
            · exact absurd h e
            · exact h
    have hM9 := (HM1.out.set_ 3 (.int .i64 (p : Int))).set_ 5 (.int .i64 0)
    have K9 : Kept (fun b => b = m) V ((V.setCell ⟨m, 3, none⟩ (.int .i64 (p : Int))).setCell ⟨m, 5, none⟩ (.int .i64 0)) := Kept.setCell_.trans Kept.setCell_ (fun _ _ x => x)
    have F := Lib.hid (fin _ K9 hM9)
    have hpb : p ≤ 4096 := by have := HP.out; omega
    clear fin hM9 K9 HB1 HM1 HO1 HK1
    go_wp2
    go_ret2
    exact F.out
theorem zeroMap (w : World) : (zeroValue 85).run Try.prog w = .ok (.agg #[.int .i64 0, .slice none 0 0, .slice none 0 0, .int .i64 0, .int .i64 0, .int .i64 0]) w := by kernel_rfl
theorem infoU8_ : (Try.prog.info? 5).map (fun i => (i.zero, i.size, i.bytes)) = some (some (.int .u8 0), 1, 1) := by kernel_rfl
theorem makeU8 {N : Nat} (hN : N ≤ 4096) (w : World) : (Instr.makeSlice 82 (.int .i64 (N : Int)) (.int .i64 (N : Int))).run Try.prog w = .ok (.slice (some ⟨w.heap.size, 0, none⟩) N N) (w.alloc (.cells (stV N (fun _ => true)).toArray 5)) := by
  obtain ⟨i, hi, hz, hsz, hby⟩ := info_parts infoU8_
  have h := run_make (P := Try.prog) w 82 5 i _ Try.underlying82 hi hz .i64 .i64 (N : Int) (N : Int) (by omega) (by omega) (by rw [hby]; omega) (by omega)
  rw [hsz, Int.toNat_natCast, Nat.mul_one] at h
  have e : madeCells (Value.int .u8 0).cells N = (stV N (fun _ => true)).toArray := by
    apply Array.toList_inj.1
    show (madeCells #[Value.int .u8 0] N).toList = _
    rw [toList_madeCells_one]
    apply List.ext_getElem?
    intro j
    by_cases hj : j < N
    · rw [List.getElem?_replicate, if_pos hj]
      show _ = (stV N (fun _ => true))[j]?
      rw [stV_get hj]; rfl
    · rw [List.getElem?_eq_none (by simp; omega), List.getElem?_eq_none (by rw [List.toList_toArray, length_stV]; omega)]
  rw [h, e]
theorem iv_range (i : Nat) : iv ((List.range (i + 1)).map (50 + ·)) = iv ((List.range i).map (50 + ·)) ++ [.int .i64 ((50 + i : Nat) : Int)] := by
  rw [List.range_succ, List.map_append]; simp [iv]
structure NewI (w wr : World) (sb m N i : Nat) (A : Option Addr) (c : Nat) : Prop where
  sts : Blk wr sb 5 (stV N (fun _ => true))
  blk : Blk wr m 85 [.int .i64 50, .slice (some ⟨sb, 0, none⟩) N N, .slice A i c, .int .i64 (N : Int), .int .i64 0, .int .i64 0]
  own : Own wr (w.heap.size + 2) 3 1 A i c (iv ((List.range i).map (50 + ·)))
  bel : Below w.heap.size w wr
  sz : w.heap.size + 2 ≤ wr.heap.size
set_option maxRecDepth 100000 in
set_option maxHeartbeats 2000000 in
theorem alnew_any (w : World) {N : Nat} (hN : 1 ≤ N ∧ N ≤ 4046) :
    Calls Try.prog 13 #[.int .i64 50, .int .i64 ((50 + N : Nat) : Int)] w fun e w' => ∃ k : AlW, e = .returned (.tuple #[.pointer (some ⟨k.m, 0, none⟩), .int .i64 0]) ∧ Al w' w.heap.size k N (fun _ => true) ∧ Below w.heap.size w w' := by
  obtain ⟨E, hE⟩ : ∃ E, E = 50 + N := ⟨_, rfl⟩
  rw [← hE]
  have e1 : (E : Int) - 50 = (N : Int) := by omega
  have h1 : (E : Int) ≤ 65536 := by omega
  have h2 : (50 : Int) ≤ (E : Int) := by omega
  have hmk := fun W => makeU8 (N := N) (by omega) W
  have hz := zeroMap
  have HE := Lib.hid hE
  have HN := Lib.hid hN
  have hN4 : N ≤ 4046 := hN.2
  clear hE hN
  go_enter Try.func13, Try.ntmps13
  go_upto_region 4 with fail
  obtain ⟨sb, hsb⟩ : ∃ z, z = w.heap.size := ⟨_, rfl⟩
  rw [← hsb]
  refine wp_world (fun V => NewI w V sb (sb + 1) N 0 none 0) ⟨(Blk.new_at (cs := stV N (fun _ => true)) hsb).alloc _, Blk.new_at (cs := [.int .i64 50, .slice (some ⟨sb, 0, none⟩) N N, .slice none 0 0, .int .i64 (N : Int), .int .i64 0, .int .i64 0]) (by simp [hsb]), Own.nil_ _ _ _ _, (((Below.refl _ _).alloc (Nat.le_refl _) _).alloc (by simp) _), by simp⟩ ?_
  rintro V hV
  have HSb := Lib.hid hsb
  have HV := Lib.hid hV
  clear hV hsb hmk
  obtain ⟨m, hm⟩ : ∃ m, m = sb + 1 := ⟨_, rfl⟩
  rw [← hm] at HV
  rw [← hm]
  have HM := Lib.hid hm
  clear hm hz e1 h1 h2
  go_wp2
  go_loopw [7] (fun s7 wr => ∃ (i : Nat) (A : Option Addr) (c : Nat), i ≤ N ∧ s7 = .int .i64 ((50 + i : Nat) : Int) ∧ NewI w wr sb m N i A c) (fun s7 _ => E - (intOf s7).toNat)
  case atStart => exact ⟨0, none, 0, Nat.zero_le _, rfl, HV.out⟩
  case round =>
    clear HV
    obtain ⟨i, A, c, hi, rfl, hI⟩ := hrel
    obtain ⟨n, hn⟩ : ∃ n, n = 50 + i := ⟨_, rfl⟩
    rw [← hn]
    by_cases hlt : i < N
    · have hA1 : ablk A ≠ some m := fun e => by have := (hI.own.blk e).1; have := HSb.out; have := HM.out; omega
      have hA2 : ablk A ≠ some sb := fun e => by have := (hI.own.blk e).1; have := HSb.out; omega
      have hlt2 : (n : Int) < (E : Int) := by have := HE.out; omega
      have c2 := hI.blk.cell 2
      simp only [List.getElem?_cons_zero, List.getElem?_cons_succ] at c2
      have f2 := hI.blk.frozen 2
      have hlb : (iv ((List.range i).map (50 + ·))).length = i := by simp [iv]
      have hml := hI.blk.lt
      have ho1 : Own (wr.alloc (.cells #[.int .i64 (n : Int)] 3)) (w.heap.size + 2) 3 1 A i c (iv ((List.range i).map (50 + ·))) := hI.own.alloc _
      have hr1 : Rd (wr.alloc (.cells #[.int .i64 (n : Int)] 3)) 0 (some ⟨wr.heap.size, 0, none⟩) [.int .i64 (n : Int)] := rd_one _ _ rfl
      have K1 : Below wr.heap.size wr (wr.alloc (.cells #[.int .i64 (n : Int)] 3)) := (Below.refl _ _).alloc (Nat.le_refl _) _
      have hs1 : w.heap.size + 2 ≤ (wr.alloc (.cells #[.int .i64 (n : Int)] 3)).heap.size := Nat.le_trans hI.sz K1.size
      have b1m : Blk (wr.alloc (.cells #[.int .i64 (n : Int)] 3)) m 85 [.int .i64 50, .slice (some ⟨sb, 0, none⟩) N N, .slice A i c, .int .i64 (N : Int), .int .i64 0, .int .i64 0] := hI.blk.alloc _
      have b1s : Blk (wr.alloc (.cells #[.int .i64 (n : Int)] 3)) sb 5 (stV N (fun _ => true)) := hI.sts.alloc _
      have step : ∀ A2 c2 w2, Own w2 (w.heap.size + 2) 3 1 A2 (i + 1) c2 (iv ((List.range i).map (50 + ·)) ++ [.int .i64 (n : Int)]) → (wr.alloc (.cells #[.int .i64 (n : Int)] 3)).grownBy w2 (ablk A) → (ablk A2 = ablk A ∨ ablk A2 = some (wr.alloc (.cells #[.int .i64 (n : Int)] 3)).heap.size) →
          w2.cell? ⟨m, 2, none⟩ = some (.slice A i c) ∧ w2.frozen? ⟨m, 2, none⟩ = false ∧ NewI w (w2.setCell ⟨m, 2, none⟩ (.slice A2 (i + 1) c2)) sb m N (i + 1) A2 c2 := by
        intro A2 c2 w2 ho2 hg2 hA
        have KK : Kept (fun b => ablk A = some b) (wr.alloc (.cells #[.int .i64 (n : Int)] 3)) w2 := Kept.of_grown hg2 (fun b e => e)
        have b2m := KK.blk b1m hA1
        have b2s := KK.blk b1s hA2
        have hA2m : ablk A2 ≠ some m := fun e => by
          rcases hA with e2 | e2
          · exact hA1 (by rw [← e2]; exact e)
          · rw [e2] at e; injection e with e
            have h1 := K1.size; have h2 := hI.blk.lt; omega
        have hms : m ≠ sb := by have := HM.out; omega
        refine ⟨b2m.cell 2, b2m.frozen 2, ⟨Kept.setCell_.blk b2s (fun e => hms e.symm), b2m.set_ 2 _, ?_, ?_, ?_⟩⟩
        · rw [iv_range, ← hn]; exact own_kept ho2 Kept.setCell_ (fun b e e2 => hA2m (by rw [e, e2]))
        · have KB : Below w.heap.size w w2 := hI.bel.trans ((K1.mono (by have := hI.bel.size; exact this)).trans (KK.below (by have := K1.size; have := hI.sz; omega) (fun b e => by have := (hI.own.blk e).1; omega)))
          exact KB.trans (Kept.below (F := fun b => b = m) Kept.setCell_ KB.size (fun b e => by have := HM.out; have := HSb.out; omega))
        · have := KK.size; have := K1.size; have := hI.sz; simp; omega
      have HST := Lib.hid step
      have HO1 := Lib.hid ho1
      have HR1 := Lib.hid hr1
      have HLb := Lib.hid hlb
      have HNn := Lib.hid hn
      clear step ho1 hr1 hlb K1 hI hn hA1 hA2 b1m b1s
      go_wp2_with (at_builtin; refine wpList_app rfl (.tmp 39) (.tmp 41) 83 rfl 3 1 Try.underlying83 infoInt rfl (by omega) rfl HO1.out rfl HR1.out rfl (one_int _ _) (by omega) (by omega) hs1 ?_; intro A2 c3 w2 ho2 hg2 hA2'; obtain ⟨c22, f22, hN2⟩ := HST.out _ _ _ ho2 hg2 hA2'; have HN2 := Lib.hid hN2; clear hN2 ho2 hg2 hA2')
      refine ⟨⟨i + 1, A2, c3, by omega, ?_, HN2.out⟩, ?_⟩
      · have e : (n : Int) + 1 = ((50 + (i + 1) : Nat) : Int) := by have := HNn.out; omega
        rw [e]
      · have := HE.out; have := HNn.out; simp only [intOf]; omega
    · obtain rfl : i = N := by omega
      have hge : ¬ (n : Int) < (E : Int) := by have := HE.out; omega
      have fin : Al wr w.heap.size ⟨m, sb, A, c⟩ i (fun _ => true) ∧ Below w.heap.size w wr := by
        have hl : ((List.range i).map (50 + ·)).length = i := by simp
        refine ⟨⟨(List.range i).map (50 + ·), ?_, hI.sts, ?_, ⟨?_, ?_⟩, ⟨?_, ?_, ?_⟩, ?_, fun x => ?_, by omega⟩, hI.bel⟩
        · unfold alC; rw [hl]; exact hI.blk
        · rw [hl]; exact hI.own.weak (by omega)
        · show w.heap.size ≤ m; have := HM.out; have := HSb.out; omega
        · show w.heap.size ≤ sb; have := HSb.out; omega
        · show m ≠ sb; have := HM.out; omega
        · intro e; have e : ablk A = some m := e; have := (hI.own.blk e).1; have := HSb.out; have := HM.out; omega
        · intro e; have e : ablk A = some sb := e; have := (hI.own.blk e).1; have := HSb.out; omega
        · refine List.Pairwise.map _ (fun a b (h : a ≠ b) => ?_) List.nodup_range
          omega
        · rw [List.mem_map]
          constructor
          · rintro ⟨j, hj, rfl⟩; have := List.mem_range.1 hj; exact ⟨by omega, by omega, rfl⟩
          · rintro ⟨h1, h2, _⟩; exact ⟨x - 50, List.mem_range.2 (by omega), by omega⟩
      have FIN := Lib.hid fin
      clear fin hI
      go_wp2
      go_ret2
      exact ⟨⟨m, sb, A, c⟩, rfl, FIN.out⟩
end Go.Proofs.Ytdakohbfibcjeaa
