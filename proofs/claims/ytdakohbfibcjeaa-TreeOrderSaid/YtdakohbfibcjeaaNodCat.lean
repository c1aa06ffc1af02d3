/- Two lists, one behind the other: slices.Concat, slices.Grow. (Printed by gen_nodconcat.py.) Condition: no longer than memory. -/
import Derived.Test.YtdakohbfibcjeaaTvN
import Derived.Test.YtdakohbfibcjeaaAppZ
namespace Go.Proofs.Ytdakohbfibcjeaa
open Go.RowKit
set_option linter.unusedSimpArgs false
set_option linter.unusedVariables false

set_option maxHeartbeats 1000000 in
theorem cat_str_grow (w : World) (n : Nat) (hn : n * 16 ≤ 140737488355328) :
    Calls Try.prog 82 #[.slice none 0 0, .int .i64 n] w fun e w' => ∃ A c, e = .returned (.slice A 0 c) ∧ Own w' w.heap.size 9 1 A 0 c [] ∧ Below w.heap.size w w' := by
  have w1 : IntKind.i64.wrap ((0 : Int) - 0) = 0 := rfl
  rcases Nat.eq_zero_or_pos n with h0 | h0
  · subst h0
    go_enter Try.func82, Try.ntmps82
    go_wp2
    go_ret
    exact ⟨none, 0, rfl, Own.nil_ _ _ _ _, Below.refl _ _⟩
  · obtain ⟨i, hi', hz, hsz, hby⟩ := info_parts info9
    have hr := fun ty => Lib.run_append_nil_zeros (P := Try.prog) w 56 3 ty 9 i (.string .empty) .i64 .i64 Try.underlying56 Try.underlying3 hi' hz n h0 (by rw [hsz]; omega) (by omega) (by rw [hby]; omega)
    have hge := grownCap_ge w n 0 9
    have hcm := grownCap_le_maxLen w n 0 9 (by simp [maxLen]; omega)
    have HF : Hid (Own (w.drew.alloc (.cells (Builtin.zeroCells (Value.string .empty).cells n ++ Builtin.zeroCells (Value.string .empty).cells (grownCap w n 0 9 - n)) 9)) w.heap.size 9 1 (some ⟨w.heap.size, 0, none⟩) 0 (grownCap w n 0 9) []) := by
      refine ⟨rfl, .inr ⟨w.heap.size, _, _, rfl, Nat.le_refl _, heap_alloc_new w.drew _, Nat.zero_le _, hcm, ?_, rfl⟩⟩
      simp [Value.cells, zeroCells_one]
      omega
    have HB : Hid (Below w.heap.size w (w.drew.alloc (.cells (Builtin.zeroCells (Value.string .empty).cells n ++ Builtin.zeroCells (Value.string .empty).cells (grownCap w n 0 9 - n)) 9))) := (Below.refl _ _).drew.alloc (Nat.le_refl _) _
    have h1 : ¬ ((n : Int) ≤ 0) := by omega
    have h2 : (0 : Int) < (n : Int) := by omega
    generalize w.drew.alloc (.cells (Builtin.zeroCells (Value.string .empty).cells n ++ Builtin.zeroCells (Value.string .empty).cells (grownCap w n 0 9 - n)) 9) = w2 at *
    generalize grownCap w n 0 9 = gc at *
    have HR := Lib.hid hr
    clear hr hi' hz hsz hby
    go_enter Try.func82, Try.ntmps82
    go_upto_region 6 with (at_builtin; refine Lib.wpList_append_run _ rfl (.tmp 20) (.tmp 21) 56 3 rfl _ _ rfl rfl _ _ (HR.out _) ?_)
    clear HR
    go_wp2
    go_ret
    exact ⟨_, _, rfl, HF.out, HB.out⟩

set_option maxRecDepth 100000 in
set_option maxHeartbeats 2000000 in
theorem cat_str {w : World} {g : Nat} {A1 A2 : Option Addr} {n1 c1 n2 c2 lo : Nat} {l1 l2 : List ByteArray} (hB : Blk w g 56 [.slice A1 n1 c1, .slice A2 n2 c2]) (h1 : Ls w lo A1 n1 c1 (sl l1)) (h2 : Ls w lo A2 n2 c2 (sl l2)) (hr : n1 + n2 ≤ 8796093022208) :
    Calls Try.prog 69 #[.slice (some ⟨g, 0, none⟩) 2 2] w fun e w' => ∃ A m c, e = .returned (.slice A m c) ∧ Own w' w.heap.size 9 1 A m c (sl (l1 ++ l2)) ∧ Below w.heap.size w w' := by
  have HB := Lib.hid hB
  have HL1 := Lib.hid h1
  have HL2 := Lib.hid h2
  have k0 := hB.cell 0
  have k1 := hB.cell 1
  simp only [List.getElem?_cons_zero, List.getElem?_cons_succ] at k0 k1
  have e1 : n1 ≤ 8796093022208 := by omega
  have e2 : n2 ≤ 8796093022208 := by omega
  obtain ⟨N, hN⟩ : ∃ N, N = n1 + n2 := ⟨_, rfl⟩
  have HN := Lib.hid hN
  have eN : N ≤ 8796093022208 := by omega
  have q1 := h1.2.1
  have q2 := h1.2.2.1
  have q3 := h2.2.1
  have q4 := h2.2.2.1
  clear hB h1 h2 hN hr
  go_enter Try.func69, Try.ntmps69
  go_wp2
  go_loopw [3, 5, 11] (fun s3 _ s11 wr => wr = w ∧ ∃ j : Nat, j ≤ 2 ∧ s11 = .int .i64 j ∧ s3 = .int .i64 ((if j = 0 then 0 else if j = 1 then n1 else N : Nat) : Int)) (fun _ _ s11 _ => 2 - (intOf s11).toNat)
  case atStart => exact ⟨rfl, 0, by omega, rfl, rfl⟩
  case round =>
    obtain ⟨rfl, j, hj, rfl, rfl⟩ := hrel
    by_cases j0 : j = 0
    · subst j0
      have w1 : IntKind.i64.wrap ((0 : Int) + (n1 : Int)) = n1 := by rw [IntWalk.i64_in _ (by omega)]; omega
      go_wp2
      go_roundw
      case rel => exact ⟨trivial, 1, by omega, rfl, by go_num⟩
      case measure => simp [intOf]
    · by_cases j1 : j = 1
      · subst j1
        go_wp2
        go_roundw
        case rel => exact ⟨trivial, 2, by omega, rfl, by have := HN.out; simp only [Nat.reduceEqDiff, if_false]; subst this; go_num⟩
        case measure => simp [intOf]
      · obtain rfl : j = 2 := by omega
        have G1 := Lib.hid (cat_str_grow wr N (by omega))
        go_upto_region 10 with ((with_reducible refine Calls.mono G1.out ?_); rintro e w1 ⟨A, c, rfl, ho, hb⟩)
        refine wp_world (fun U => Own U wr.heap.size 9 1 A 0 c [] ∧ Below wr.heap.size wr U) ⟨ho, hb⟩ ?_
        clear ho hb G1
        rintro U ⟨ho, hb⟩
        go_wp2
        go_loopw [6, 8, 27] (fun s6 _ s27 wr2 => Below wr.heap.size wr wr2 ∧ ∃ (j n : Nat) (xs : List ByteArray) (A' : Option Addr) (c' : Nat), s27 = .int .i64 j ∧ s6 = .slice A' n c' ∧ Own wr2 wr.heap.size 9 1 A' n c' (sl xs) ∧ ((j = 0 ∧ n = 0 ∧ xs = []) ∨ (j = 1 ∧ n = n1 ∧ xs = l1) ∨ (j = 2 ∧ n = N ∧ xs = l1 ++ l2))) (fun _ _ s27 _ => 2 - (intOf s27).toNat)
        case atStart => exact ⟨hb, 0, 0, [], A, c, rfl, rfl, ho, .inl ⟨rfl, rfl, rfl⟩⟩
        case round =>
          clear ho hb
          obtain ⟨hb, j, n, xs, A', c', rfl, rfl, ho, (⟨rfl, rfl, rfl⟩ | ⟨rfl, rfl, rfl⟩ | ⟨rfl, rfl, rfl⟩)⟩ := hrel
          · have k0' := (HB.out.below hb HB.out.lt).cell 0
            simp only [List.getElem?_cons_zero, List.getElem?_cons_succ] at k0'
            go_upto_region 14 with (at_builtin; refine wpList_app rfl (.tmp 31) (.tmp 32) 56 rfl 9 1 Try.underlying56 info9 rfl (by omega) rfl ho rfl (HL1.out.below hb (Nat.le_refl _)).2.2.2 (by have := HL1.out.1; omega) (sl_oneCell _) (by omega) (by omega) hb.size ?_; intro A' c' w' ho2 hg2 hf2; have hb2 := below_own hb ho hg2 (Nat.le_refl _) hb.size)
            have HO := Lib.hid ho2
            clear ho ho2 hg2 hf2 k0'
            go_wp2
            go_roundw
            case rel => exact ⟨hb2, 1, n1, l1, A', c', by go_num, by go_num, by have := HO.out; rw [Nat.zero_add] at this; simpa [sl] using this, .inr (.inl ⟨rfl, rfl, rfl⟩)⟩
            case measure => simp [intOf]
          · have e12 : n + n2 ≤ 8796093022208 := by have := HN.out; omega
            have k1' := (HB.out.below hb HB.out.lt).cell 1
            simp only [List.getElem?_cons_zero, List.getElem?_cons_succ] at k1'
            go_upto_region 14 with (at_builtin; refine wpList_app rfl (.tmp 31) (.tmp 32) 56 rfl 9 1 Try.underlying56 info9 rfl (by omega) rfl ho rfl (HL2.out.below hb (Nat.le_refl _)).2.2.2 (by have := HL2.out.1; omega) (sl_oneCell _) (by omega) (by omega) hb.size ?_; intro A' c' w' ho2 hg2 hf2; have hb2 := below_own hb ho hg2 (Nat.le_refl _) hb.size)
            have HO := Lib.hid ho2
            clear ho ho2 hg2 hf2 k1'
            go_wp2
            go_roundw
            case rel => exact ⟨hb2, 2, N, _, A', c', by go_num, by have := HN.out; subst this; go_num, by have := HO.out; rw [← HN.out] at this; simpa [sl] using this, .inr (.inr ⟨rfl, rfl, rfl⟩)⟩
            case measure => simp [intOf]
          · go_wp2
            go_ret
            exact ⟨A', _, c', rfl, ho, hb⟩

set_option maxHeartbeats 1000000 in
theorem cat_int_grow (w : World) (n : Nat) (hn : n * 8 ≤ 140737488355328) :
    Calls Try.prog 83 #[.slice none 0 0, .int .i64 n] w fun e w' => ∃ A c, e = .returned (.slice A 0 c) ∧ Own w' w.heap.size 3 1 A 0 c [] ∧ Below w.heap.size w w' := by
  have w1 : IntKind.i64.wrap ((0 : Int) - 0) = 0 := rfl
  rcases Nat.eq_zero_or_pos n with h0 | h0
  · subst h0
    go_enter Try.func83, Try.ntmps83
    go_wp2
    go_ret
    exact ⟨none, 0, rfl, Own.nil_ _ _ _ _, Below.refl _ _⟩
  · obtain ⟨i, hi', hz, hsz, hby⟩ := info_parts info3
    have hr := fun ty => Lib.run_append_nil_zeros (P := Try.prog) w 57 3 ty 3 i (.int .i64 0) .i64 .i64 Try.underlying57 Try.underlying3 hi' hz n h0 (by rw [hsz]; omega) (by omega) (by rw [hby]; omega)
    have hge := grownCap_ge w n 0 3
    have hcm := grownCap_le_maxLen w n 0 3 (by simp [maxLen]; omega)
    have HF : Hid (Own (w.drew.alloc (.cells (Builtin.zeroCells (Value.int .i64 0).cells n ++ Builtin.zeroCells (Value.int .i64 0).cells (grownCap w n 0 3 - n)) 3)) w.heap.size 3 1 (some ⟨w.heap.size, 0, none⟩) 0 (grownCap w n 0 3) []) := by
      refine ⟨rfl, .inr ⟨w.heap.size, _, _, rfl, Nat.le_refl _, heap_alloc_new w.drew _, Nat.zero_le _, hcm, ?_, rfl⟩⟩
      simp [Value.cells, zeroCells_one]
      omega
    have HB : Hid (Below w.heap.size w (w.drew.alloc (.cells (Builtin.zeroCells (Value.int .i64 0).cells n ++ Builtin.zeroCells (Value.int .i64 0).cells (grownCap w n 0 3 - n)) 3))) := (Below.refl _ _).drew.alloc (Nat.le_refl _) _
    have h1 : ¬ ((n : Int) ≤ 0) := by omega
    have h2 : (0 : Int) < (n : Int) := by omega
    generalize w.drew.alloc (.cells (Builtin.zeroCells (Value.int .i64 0).cells n ++ Builtin.zeroCells (Value.int .i64 0).cells (grownCap w n 0 3 - n)) 3) = w2 at *
    generalize grownCap w n 0 3 = gc at *
    have HR := Lib.hid hr
    clear hr hi' hz hsz hby
    go_enter Try.func83, Try.ntmps83
    go_upto_region 6 with (at_builtin; refine Lib.wpList_append_run _ rfl (.tmp 20) (.tmp 21) 57 3 rfl _ _ rfl rfl _ _ (HR.out _) ?_)
    clear HR
    go_wp2
    go_ret
    exact ⟨_, _, rfl, HF.out, HB.out⟩

set_option maxRecDepth 100000 in
set_option maxHeartbeats 2000000 in
theorem cat_int {w : World} {g : Nat} {A1 A2 : Option Addr} {n1 c1 n2 c2 lo : Nat} {l1 l2 : List Int} (hB : Blk w g 57 [.slice A1 n1 c1, .slice A2 n2 c2]) (h1 : Ls w lo A1 n1 c1 (il l1)) (h2 : Ls w lo A2 n2 c2 (il l2)) (hr : n1 + n2 ≤ 17592186044416) :
    Calls Try.prog 70 #[.slice (some ⟨g, 0, none⟩) 2 2] w fun e w' => ∃ A m c, e = .returned (.slice A m c) ∧ Own w' w.heap.size 3 1 A m c (il (l1 ++ l2)) ∧ Below w.heap.size w w' := by
  have HB := Lib.hid hB
  have HL1 := Lib.hid h1
  have HL2 := Lib.hid h2
  have k0 := hB.cell 0
  have k1 := hB.cell 1
  simp only [List.getElem?_cons_zero, List.getElem?_cons_succ] at k0 k1
  have e1 : n1 ≤ 17592186044416 := by omega
  have e2 : n2 ≤ 17592186044416 := by omega
  obtain ⟨N, hN⟩ : ∃ N, N = n1 + n2 := ⟨_, rfl⟩
  have HN := Lib.hid hN
  have eN : N ≤ 17592186044416 := by omega
  have q1 := h1.2.1
  have q2 := h1.2.2.1
  have q3 := h2.2.1
  have q4 := h2.2.2.1
  clear hB h1 h2 hN hr
  go_enter Try.func70, Try.ntmps70
  go_wp2
  go_loopw [3, 5, 11] (fun s3 _ s11 wr => wr = w ∧ ∃ j : Nat, j ≤ 2 ∧ s11 = .int .i64 j ∧ s3 = .int .i64 ((if j = 0 then 0 else if j = 1 then n1 else N : Nat) : Int)) (fun _ _ s11 _ => 2 - (intOf s11).toNat)
  case atStart => exact ⟨rfl, 0, by omega, rfl, rfl⟩
  case round =>
    obtain ⟨rfl, j, hj, rfl, rfl⟩ := hrel
    by_cases j0 : j = 0
    · subst j0
      have w1 : IntKind.i64.wrap ((0 : Int) + (n1 : Int)) = n1 := by rw [IntWalk.i64_in _ (by omega)]; omega
      go_wp2
      go_roundw
      case rel => exact ⟨trivial, 1, by omega, rfl, by go_num⟩
      case measure => simp [intOf]
    · by_cases j1 : j = 1
      · subst j1
        go_wp2
        go_roundw
        case rel => exact ⟨trivial, 2, by omega, rfl, by have := HN.out; simp only [Nat.reduceEqDiff, if_false]; subst this; go_num⟩
        case measure => simp [intOf]
      · obtain rfl : j = 2 := by omega
        have G1 := Lib.hid (cat_int_grow wr N (by omega))
        go_upto_region 10 with ((with_reducible refine Calls.mono G1.out ?_); rintro e w1 ⟨A, c, rfl, ho, hb⟩)
        refine wp_world (fun U => Own U wr.heap.size 3 1 A 0 c [] ∧ Below wr.heap.size wr U) ⟨ho, hb⟩ ?_
        clear ho hb G1
        rintro U ⟨ho, hb⟩
        go_wp2
        go_loopw [6, 8, 27] (fun s6 _ s27 wr2 => Below wr.heap.size wr wr2 ∧ ∃ (j n : Nat) (xs : List Int) (A' : Option Addr) (c' : Nat), s27 = .int .i64 j ∧ s6 = .slice A' n c' ∧ Own wr2 wr.heap.size 3 1 A' n c' (il xs) ∧ ((j = 0 ∧ n = 0 ∧ xs = []) ∨ (j = 1 ∧ n = n1 ∧ xs = l1) ∨ (j = 2 ∧ n = N ∧ xs = l1 ++ l2))) (fun _ _ s27 _ => 2 - (intOf s27).toNat)
        case atStart => exact ⟨hb, 0, 0, [], A, c, rfl, rfl, ho, .inl ⟨rfl, rfl, rfl⟩⟩
        case round =>
          clear ho hb
          obtain ⟨hb, j, n, xs, A', c', rfl, rfl, ho, (⟨rfl, rfl, rfl⟩ | ⟨rfl, rfl, rfl⟩ | ⟨rfl, rfl, rfl⟩)⟩ := hrel
          · have k0' := (HB.out.below hb HB.out.lt).cell 0
            simp only [List.getElem?_cons_zero, List.getElem?_cons_succ] at k0'
            go_upto_region 14 with (at_builtin; refine wpList_app rfl (.tmp 31) (.tmp 32) 57 rfl 3 1 Try.underlying57 info3 rfl (by omega) rfl ho rfl (HL1.out.below hb (Nat.le_refl _)).2.2.2 (by have := HL1.out.1; omega) (il_oneCell _) (by omega) (by omega) hb.size ?_; intro A' c' w' ho2 hg2 hf2; have hb2 := below_own hb ho hg2 (Nat.le_refl _) hb.size)
            have HO := Lib.hid ho2
            clear ho ho2 hg2 hf2 k0'
            go_wp2
            go_roundw
            case rel => exact ⟨hb2, 1, n1, l1, A', c', by go_num, by go_num, by have := HO.out; rw [Nat.zero_add] at this; simpa [il] using this, .inr (.inl ⟨rfl, rfl, rfl⟩)⟩
            case measure => simp [intOf]
          · have e12 : n + n2 ≤ 17592186044416 := by have := HN.out; omega
            have k1' := (HB.out.below hb HB.out.lt).cell 1
            simp only [List.getElem?_cons_zero, List.getElem?_cons_succ] at k1'
            go_upto_region 14 with (at_builtin; refine wpList_app rfl (.tmp 31) (.tmp 32) 57 rfl 3 1 Try.underlying57 info3 rfl (by omega) rfl ho rfl (HL2.out.below hb (Nat.le_refl _)).2.2.2 (by have := HL2.out.1; omega) (il_oneCell _) (by omega) (by omega) hb.size ?_; intro A' c' w' ho2 hg2 hf2; have hb2 := below_own hb ho hg2 (Nat.le_refl _) hb.size)
            have HO := Lib.hid ho2
            clear ho ho2 hg2 hf2 k1'
            go_wp2
            go_roundw
            case rel => exact ⟨hb2, 2, N, _, A', c', by go_num, by have := HN.out; subst this; go_num, by have := HO.out; rw [← HN.out] at this; simpa [il] using this, .inr (.inr ⟨rfl, rfl, rfl⟩)⟩
            case measure => simp [intOf]
          · go_wp2
            go_ret
            exact ⟨A', _, c', rfl, ho, hb⟩
end Go.Proofs.Ytdakohbfibcjeaa
