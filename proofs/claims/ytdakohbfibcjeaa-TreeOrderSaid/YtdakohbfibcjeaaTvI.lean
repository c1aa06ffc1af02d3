/- A part of a list in memory of its own: node.piece. (Printed by gen_nodpiece.py.) Condition: no longer than memory. -/
import Derived.Test.YtdakohbfibcjeaaTvN
import Derived.Deep.RegionHeld3
import Derived.Test.YtdakohbfibcjeaaTvD
namespace Go.Proofs.Ytdakohbfibcjeaa
open Go.RowKit
set_option linter.unusedSimpArgs false
set_option linter.unusedVariables false
set_option maxHeartbeats 1000000

theorem ls_cut {w : World} {lo b o n c : Nat} {xs : List Value} (h : Ls w lo (some ⟨b, o, none⟩) n c xs) (i j : Nat) (hij : i ≤ j) (hj : j ≤ n) : Rd w lo (some ⟨b, o + i, none⟩) ((xs.take j).drop i) := by
  obtain ⟨h1, h2, h3, h4⟩ := h
  intro hn
  simp only [List.length_drop, List.length_take] at hn
  obtain ⟨b', o', e, hl, hb, hc⟩ := h4 (by omega)
  injection e with e
  injection e with e1 e2
  subst e1 e2
  refine ⟨b, o + i, rfl, hl, hb, fun k hk => ?_⟩
  simp only [List.length_drop, List.length_take] at hk
  rw [Nat.add_assoc, hc (i + k) (by omega)]
  simp

theorem piece_str_nil {A : Option Addr} {n c lo : Nat} {l : List ByteArray} {w : World} (h : Ls w lo A n c (sl l)) (hn : n ≤ 8796093022208) (a b : Nat) (hab : a ≤ b) (hb : b ≤ 4611686018427387904) (hna : n ≤ a) :
    Calls Try.prog 84 #[.slice A n c, .int .i64 a, .int .i64 b] w fun e w' => ∃ A' m' c', e = .returned (.slice A' m' c') ∧ Own w' w.heap.size 9 1 A' m' c' (sl []) ∧ Below w.heap.size w w' := by
  have hc1 := h.2.1
  have hc2 := h.2.2.1
  have hl : l.length = n := by have := h.1; rwa [length_sl] at this
  rcases Nat.lt_or_eq_of_le hna with h1 | h1
  · have h2 : n < b := by omega
    have HB := Lib.hid hb
    rcases Nat.eq_zero_or_pos n with h0 | h0
    · subst h0
      clear h hl hb
      go_enter Try.func84, Try.ntmps84
      go_upto_region 99 with (at_builtin; refine wpList_app rfl (.const (.slice none 0 0)) (.tmp 18) 56 rfl 9 1 Try.underlying56 info9 rfl (by omega) rfl (Own.nil_ w w.heap.size 9 1) rfl (show Rd w 0 _ (sl []) from Rd.nil_) (by simp) (sl_oneCell _) (by omega) (by omega) (Nat.le_refl _) ?_; intro K1 ck1 w1 ho1 hg1 _; rw [Nat.zero_add, List.nil_append] at ho1; rw [Nat.zero_add])
      go_wp2
      go_ret
      exact ⟨_, _, _, rfl, ho1, (Below.refl _ _).grown hg1 (Nat.le_refl _) (by simp)⟩
    · obtain ⟨b0, o0, rfl, _, _⟩ := h.at_ h0
      clear h hl hb
      by_cases hcn : c = n
      · subst hcn
        go_enter Try.func84, Try.ntmps84
        go_upto_region 99 with (at_builtin; refine wpList_app rfl (.const (.slice none 0 0)) (.tmp 18) 56 rfl 9 1 Try.underlying56 info9 rfl (by omega) rfl (Own.nil_ w w.heap.size 9 1) rfl (show Rd w 0 _ (sl []) from Rd.nil_) (by simp) (sl_oneCell _) (by omega) (by omega) (Nat.le_refl _) ?_; intro K1 ck1 w1 ho1 hg1 _; rw [Nat.zero_add, List.nil_append] at ho1; rw [Nat.zero_add])
        go_wp2
        go_ret
        exact ⟨_, _, _, rfl, ho1, (Below.refl _ _).grown hg1 (Nat.le_refl _) (by simp)⟩
      · skip
        go_enter Try.func84, Try.ntmps84
        go_upto_region 99 with (at_builtin; refine wpList_app rfl (.const (.slice none 0 0)) (.tmp 18) 56 rfl 9 1 Try.underlying56 info9 rfl (by omega) rfl (Own.nil_ w w.heap.size 9 1) rfl (show Rd w 0 _ (sl []) from Rd.nil_) (by simp) (sl_oneCell _) (by omega) (by omega) (Nat.le_refl _) ?_; intro K1 ck1 w1 ho1 hg1 _; rw [Nat.zero_add, List.nil_append] at ho1; rw [Nat.zero_add])
        go_wp2
        go_ret
        exact ⟨_, _, _, rfl, ho1, (Below.refl _ _).grown hg1 (Nat.le_refl _) (by simp)⟩
  · subst h1
    rcases Nat.lt_or_eq_of_le hab with h2 | h2
    · have HB := Lib.hid hb
      rcases Nat.eq_zero_or_pos n with h0 | h0
      · subst h0
        clear h hl hb
        go_enter Try.func84, Try.ntmps84
        go_upto_region 99 with (at_builtin; refine wpList_app rfl (.const (.slice none 0 0)) (.tmp 18) 56 rfl 9 1 Try.underlying56 info9 rfl (by omega) rfl (Own.nil_ w w.heap.size 9 1) rfl (show Rd w 0 _ (sl []) from Rd.nil_) (by simp) (sl_oneCell _) (by omega) (by omega) (Nat.le_refl _) ?_; intro K1 ck1 w1 ho1 hg1 _; rw [Nat.zero_add, List.nil_append] at ho1; rw [Nat.zero_add])
        go_wp2
        go_ret
        exact ⟨_, _, _, rfl, ho1, (Below.refl _ _).grown hg1 (Nat.le_refl _) (by simp)⟩
      · obtain ⟨b0, o0, rfl, _, _⟩ := h.at_ h0
        clear h hl hb
        by_cases hcn : c = n
        · subst hcn
          go_enter Try.func84, Try.ntmps84
          go_upto_region 99 with (at_builtin; refine wpList_app rfl (.const (.slice none 0 0)) (.tmp 18) 56 rfl 9 1 Try.underlying56 info9 rfl (by omega) rfl (Own.nil_ w w.heap.size 9 1) rfl (show Rd w 0 _ (sl []) from Rd.nil_) (by simp) (sl_oneCell _) (by omega) (by omega) (Nat.le_refl _) ?_; intro K1 ck1 w1 ho1 hg1 _; rw [Nat.zero_add, List.nil_append] at ho1; rw [Nat.zero_add])
          go_wp2
          go_ret
          exact ⟨_, _, _, rfl, ho1, (Below.refl _ _).grown hg1 (Nat.le_refl _) (by simp)⟩
        · skip
          go_enter Try.func84, Try.ntmps84
          go_upto_region 99 with (at_builtin; refine wpList_app rfl (.const (.slice none 0 0)) (.tmp 18) 56 rfl 9 1 Try.underlying56 info9 rfl (by omega) rfl (Own.nil_ w w.heap.size 9 1) rfl (show Rd w 0 _ (sl []) from Rd.nil_) (by simp) (sl_oneCell _) (by omega) (by omega) (Nat.le_refl _) ?_; intro K1 ck1 w1 ho1 hg1 _; rw [Nat.zero_add, List.nil_append] at ho1; rw [Nat.zero_add])
          go_wp2
          go_ret
          exact ⟨_, _, _, rfl, ho1, (Below.refl _ _).grown hg1 (Nat.le_refl _) (by simp)⟩
    · subst h2
      have HB := Lib.hid hb
      rcases Nat.eq_zero_or_pos n with h0 | h0
      · subst h0
        clear h hl hb
        go_enter Try.func84, Try.ntmps84
        go_upto_region 99 with (at_builtin; refine wpList_app rfl (.const (.slice none 0 0)) (.tmp 18) 56 rfl 9 1 Try.underlying56 info9 rfl (by omega) rfl (Own.nil_ w w.heap.size 9 1) rfl (show Rd w 0 _ (sl []) from Rd.nil_) (by simp) (sl_oneCell _) (by omega) (by omega) (Nat.le_refl _) ?_; intro K1 ck1 w1 ho1 hg1 _; rw [Nat.zero_add, List.nil_append] at ho1; rw [Nat.zero_add])
        go_wp2
        go_ret
        exact ⟨_, _, _, rfl, ho1, (Below.refl _ _).grown hg1 (Nat.le_refl _) (by simp)⟩
      · obtain ⟨b0, o0, rfl, _, _⟩ := h.at_ h0
        clear h hl hb
        by_cases hcn : c = n
        · subst hcn
          go_enter Try.func84, Try.ntmps84
          go_upto_region 99 with (at_builtin; refine wpList_app rfl (.const (.slice none 0 0)) (.tmp 18) 56 rfl 9 1 Try.underlying56 info9 rfl (by omega) rfl (Own.nil_ w w.heap.size 9 1) rfl (show Rd w 0 _ (sl []) from Rd.nil_) (by simp) (sl_oneCell _) (by omega) (by omega) (Nat.le_refl _) ?_; intro K1 ck1 w1 ho1 hg1 _; rw [Nat.zero_add, List.nil_append] at ho1; rw [Nat.zero_add])
          go_wp2
          go_ret
          exact ⟨_, _, _, rfl, ho1, (Below.refl _ _).grown hg1 (Nat.le_refl _) (by simp)⟩
        · skip
          go_enter Try.func84, Try.ntmps84
          go_upto_region 99 with (at_builtin; refine wpList_app rfl (.const (.slice none 0 0)) (.tmp 18) 56 rfl 9 1 Try.underlying56 info9 rfl (by omega) rfl (Own.nil_ w w.heap.size 9 1) rfl (show Rd w 0 _ (sl []) from Rd.nil_) (by simp) (sl_oneCell _) (by omega) (by omega) (Nat.le_refl _) ?_; intro K1 ck1 w1 ho1 hg1 _; rw [Nat.zero_add, List.nil_append] at ho1; rw [Nat.zero_add])
          go_wp2
          go_ret
          exact ⟨_, _, _, rfl, ho1, (Below.refl _ _).grown hg1 (Nat.le_refl _) (by simp)⟩

theorem piece_str {A : Option Addr} {n c lo : Nat} {l : List ByteArray} {w : World} (h : Ls w lo A n c (sl l)) (hn : n ≤ 8796093022208) (a b : Nat) (hab : a ≤ b) (hb : b ≤ 4611686018427387904) :
    Calls Try.prog 84 #[.slice A n c, .int .i64 a, .int .i64 b] w fun e w' => ∃ A' m' c', e = .returned (.slice A' m' c') ∧ Own w' w.heap.size 9 1 A' m' c' (sl ((l.take b).drop a)) ∧ Below w.heap.size w w' := by
  have hc1 := h.2.1
  have hc2 := h.2.2.1
  have hl : l.length = n := by have := h.1; rwa [length_sl] at this
  by_cases hna : n ≤ a
  · have he : (l.take b).drop a = [] := by rw [List.drop_eq_nil_iff, List.length_take]; omega
    rw [he]
    exact piece_str_nil h hn a b hab hb hna
  · obtain ⟨b0, o0, rfl, _, _⟩ := h.at_ (by omega)
    have hca : ¬ c = a := by omega
    have han : a < n := by omega
    have hd := Lib.hid (ls_cut h a (min b n) (by omega) (by omega))
    have he : Hid (((sl l).take (min b n)).drop a = sl ((l.take b).drop a)) := by
      show _ = _
      rw [sl, sl, List.map_drop, List.map_take]
      congr 1
      rw [List.take_eq_take_iff]
      simp
      omega
    have hlen : Hid ((sl ((l.take b).drop a)).length = min b n - a) := by show _ = _; rw [length_sl, List.length_drop, List.length_take]; omega
    rw [he.out] at hd
    clear h hl he hna
    rcases Nat.lt_trichotomy n b with h2 | h2 | h2
    · have hlen2 : Hid ((sl ((l.take b).drop a)).length = n - a) := by show _ = _; rw [hlen.out]; omega
      clear hlen
      go_enter Try.func84, Try.ntmps84
      go_upto_region 99 with (at_builtin; refine wpList_app rfl (.const (.slice none 0 0)) (.tmp 18) 56 rfl 9 1 Try.underlying56 info9 rfl (by omega) rfl (Own.nil_ w w.heap.size 9 1) rfl hd.out (by rw [hlen2.out]; omega) (sl_oneCell _) (by omega) (by omega) (Nat.le_refl _) ?_; intro K1 ck1 w1 ho1 hg1 _; rw [Nat.zero_add, List.nil_append] at ho1; rw [Nat.zero_add])
      go_wp2
      go_ret
      exact ⟨_, _, _, rfl, ho1, (Below.refl _ _).grown hg1 (Nat.le_refl _) (by simp)⟩
    · have hlen2 : Hid ((sl ((l.take b).drop a)).length = n - a) := by show _ = _; rw [hlen.out]; omega
      clear hlen
      subst h2
      go_enter Try.func84, Try.ntmps84
      go_upto_region 99 with (at_builtin; refine wpList_app rfl (.const (.slice none 0 0)) (.tmp 18) 56 rfl 9 1 Try.underlying56 info9 rfl (by omega) rfl (Own.nil_ w w.heap.size 9 1) rfl hd.out (by rw [hlen2.out]; omega) (sl_oneCell _) (by omega) (by omega) (Nat.le_refl _) ?_; intro K1 ck1 w1 ho1 hg1 _; rw [Nat.zero_add, List.nil_append] at ho1; rw [Nat.zero_add])
      go_wp2
      go_ret
      exact ⟨_, _, _, rfl, ho1, (Below.refl _ _).grown hg1 (Nat.le_refl _) (by simp)⟩
    · have hlen2 : Hid ((sl ((l.take b).drop a)).length = b - a) := by show _ = _; rw [hlen.out]; omega
      clear hlen
      go_enter Try.func84, Try.ntmps84
      go_upto_region 99 with (at_builtin; refine wpList_app rfl (.const (.slice none 0 0)) (.tmp 18) 56 rfl 9 1 Try.underlying56 info9 rfl (by omega) rfl (Own.nil_ w w.heap.size 9 1) rfl hd.out (by rw [hlen2.out]; omega) (sl_oneCell _) (by omega) (by omega) (Nat.le_refl _) ?_; intro K1 ck1 w1 ho1 hg1 _; rw [Nat.zero_add, List.nil_append] at ho1; rw [Nat.zero_add])
      go_wp2
      go_ret
      exact ⟨_, _, _, rfl, ho1, (Below.refl _ _).grown hg1 (Nat.le_refl _) (by simp)⟩

theorem piece_int_nil {A : Option Addr} {n c lo : Nat} {l : List Int} {w : World} (h : Ls w lo A n c (il l)) (hn : n ≤ 17592186044416) (a b : Nat) (hab : a ≤ b) (hb : b ≤ 4611686018427387904) (hna : n ≤ a) :
    Calls Try.prog 85 #[.slice A n c, .int .i64 a, .int .i64 b] w fun e w' => ∃ A' m' c', e = .returned (.slice A' m' c') ∧ Own w' w.heap.size 3 1 A' m' c' (il []) ∧ Below w.heap.size w w' := by
  have hc1 := h.2.1
  have hc2 := h.2.2.1
  have hl : l.length = n := by have := h.1; rwa [length_il] at this
  rcases Nat.lt_or_eq_of_le hna with h1 | h1
  · have h2 : n < b := by omega
    have HB := Lib.hid hb
    rcases Nat.eq_zero_or_pos n with h0 | h0
    · subst h0
      clear h hl hb
      go_enter Try.func85, Try.ntmps85
      go_upto_region 99 with (at_builtin; refine wpList_app rfl (.const (.slice none 0 0)) (.tmp 18) 57 rfl 3 1 Try.underlying57 info3 rfl (by omega) rfl (Own.nil_ w w.heap.size 3 1) rfl (show Rd w 0 _ (il []) from Rd.nil_) (by simp) (il_oneCell _) (by omega) (by omega) (Nat.le_refl _) ?_; intro K1 ck1 w1 ho1 hg1 _; rw [Nat.zero_add, List.nil_append] at ho1; rw [Nat.zero_add])
      go_wp2
      go_ret
      exact ⟨_, _, _, rfl, ho1, (Below.refl _ _).grown hg1 (Nat.le_refl _) (by simp)⟩
    · obtain ⟨b0, o0, rfl, _, _⟩ := h.at_ h0
      clear h hl hb
      by_cases hcn : c = n
      · subst hcn
        go_enter Try.func85, Try.ntmps85
        go_upto_region 99 with (at_builtin; refine wpList_app rfl (.const (.slice none 0 0)) (.tmp 18) 57 rfl 3 1 Try.underlying57 info3 rfl (by omega) rfl (Own.nil_ w w.heap.size 3 1) rfl (show Rd w 0 _ (il []) from Rd.nil_) (by simp) (il_oneCell _) (by omega) (by omega) (Nat.le_refl _) ?_; intro K1 ck1 w1 ho1 hg1 _; rw [Nat.zero_add, List.nil_append] at ho1; rw [Nat.zero_add])
        go_wp2
        go_ret
        exact ⟨_, _, _, rfl, ho1, (Below.refl _ _).grown hg1 (Nat.le_refl _) (by simp)⟩
      · skip
        go_enter Try.func85, Try.ntmps85
        go_upto_region 99 with (at_builtin; refine wpList_app rfl (.const (.slice none 0 0)) (.tmp 18) 57 rfl 3 1 Try.underlying57 info3 rfl (by omega) rfl (Own.nil_ w w.heap.size 3 1) rfl (show Rd w 0 _ (il []) from Rd.nil_) (by simp) (il_oneCell _) (by omega) (by omega) (Nat.le_refl _) ?_; intro K1 ck1 w1 ho1 hg1 _; rw [Nat.zero_add, List.nil_append] at ho1; rw [Nat.zero_add])
        go_wp2
        go_ret
        exact ⟨_, _, _, rfl, ho1, (Below.refl _ _).grown hg1 (Nat.le_refl _) (by simp)⟩
  · subst h1
    rcases Nat.lt_or_eq_of_le hab with h2 | h2
    · have HB := Lib.hid hb
      rcases Nat.eq_zero_or_pos n with h0 | h0
      · subst h0
        clear h hl hb
        go_enter Try.func85, Try.ntmps85
        go_upto_region 99 with (at_builtin; refine wpList_app rfl (.const (.slice none 0 0)) (.tmp 18) 57 rfl 3 1 Try.underlying57 info3 rfl (by omega) rfl (Own.nil_ w w.heap.size 3 1) rfl (show Rd w 0 _ (il []) from Rd.nil_) (by simp) (il_oneCell _) (by omega) (by omega) (Nat.le_refl _) ?_; intro K1 ck1 w1 ho1 hg1 _; rw [Nat.zero_add, List.nil_append] at ho1; rw [Nat.zero_add])
        go_wp2
        go_ret
        exact ⟨_, _, _, rfl, ho1, (Below.refl _ _).grown hg1 (Nat.le_refl _) (by simp)⟩
      · obtain ⟨b0, o0, rfl, _, _⟩ := h.at_ h0
        clear h hl hb
        by_cases hcn : c = n
        · subst hcn
          go_enter Try.func85, Try.ntmps85
          go_upto_region 99 with (at_builtin; refine wpList_app rfl (.const (.slice none 0 0)) (.tmp 18) 57 rfl 3 1 Try.underlying57 info3 rfl (by omega) rfl (Own.nil_ w w.heap.size 3 1) rfl (show Rd w 0 _ (il []) from Rd.nil_) (by simp) (il_oneCell _) (by omega) (by omega) (Nat.le_refl _) ?_; intro K1 ck1 w1 ho1 hg1 _; rw [Nat.zero_add, List.nil_append] at ho1; rw [Nat.zero_add])
          go_wp2
          go_ret
          exact ⟨_, _, _, rfl, ho1, (Below.refl _ _).grown hg1 (Nat.le_refl _) (by simp)⟩
        · skip
          go_enter Try.func85, Try.ntmps85
          go_upto_region 99 with (at_builtin; refine wpList_app rfl (.const (.slice none 0 0)) (.tmp 18) 57 rfl 3 1 Try.underlying57 info3 rfl (by omega) rfl (Own.nil_ w w.heap.size 3 1) rfl (show Rd w 0 _ (il []) from Rd.nil_) (by simp) (il_oneCell _) (by omega) (by omega) (Nat.le_refl _) ?_; intro K1 ck1 w1 ho1 hg1 _; rw [Nat.zero_add, List.nil_append] at ho1; rw [Nat.zero_add])
          go_wp2
          go_ret
          exact ⟨_, _, _, rfl, ho1, (Below.refl _ _).grown hg1 (Nat.le_refl _) (by simp)⟩
    · subst h2
      have HB := Lib.hid hb
      rcases Nat.eq_zero_or_pos n with h0 | h0
      · subst h0
        clear h hl hb
        go_enter Try.func85, Try.ntmps85
        go_upto_region 99 with (at_builtin; refine wpList_app rfl (.const (.slice none 0 0)) (.tmp 18) 57 rfl 3 1 Try.underlying57 info3 rfl (by omega) rfl (Own.nil_ w w.heap.size 3 1) rfl (show Rd w 0 _ (il []) from Rd.nil_) (by simp) (il_oneCell _) (by omega) (by omega) (Nat.le_refl _) ?_; intro K1 ck1 w1 ho1 hg1 _; rw [Nat.zero_add, List.nil_append] at ho1; rw [Nat.zero_add])
        go_wp2
        go_ret
        exact ⟨_, _, _, rfl, ho1, (Below.refl _ _).grown hg1 (Nat.le_refl _) (by simp)⟩
      · obtain ⟨b0, o0, rfl, _, _⟩ := h.at_ h0
        clear h hl hb
        by_cases hcn : c = n
        · subst hcn
          go_enter Try.func85, Try.ntmps85
          go_upto_region 99 with (at_builtin; refine wpList_app rfl (.const (.slice none 0 0)) (.tmp 18) 57 rfl 3 1 Try.underlying57 info3 rfl (by omega) rfl (Own.nil_ w w.heap.size 3 1) rfl (show Rd w 0 _ (il []) from Rd.nil_) (by simp) (il_oneCell _) (by omega) (by omega) (Nat.le_refl _) ?_; intro K1 ck1 w1 ho1 hg1 _; rw [Nat.zero_add, List.nil_append] at ho1; rw [Nat.zero_add])
          go_wp2
          go_ret
          exact ⟨_, _, _, rfl, ho1, (Below.refl _ _).grown hg1 (Nat.le_refl _) (by simp)⟩
        · skip
          go_enter Try.func85, Try.ntmps85
          go_upto_region 99 with (at_builtin; refine wpList_app rfl (.const (.slice none 0 0)) (.tmp 18) 57 rfl 3 1 Try.underlying57 info3 rfl (by omega) rfl (Own.nil_ w w.heap.size 3 1) rfl (show Rd w 0 _ (il []) from Rd.nil_) (by simp) (il_oneCell _) (by omega) (by omega) (Nat.le_refl _) ?_; intro K1 ck1 w1 ho1 hg1 _; rw [Nat.zero_add, List.nil_append] at ho1; rw [Nat.zero_add])
          go_wp2
          go_ret
          exact ⟨_, _, _, rfl, ho1, (Below.refl _ _).grown hg1 (Nat.le_refl _) (by simp)⟩

theorem piece_int {A : Option Addr} {n c lo : Nat} {l : List Int} {w : World} (h : Ls w lo A n c (il l)) (hn : n ≤ 17592186044416) (a b : Nat) (hab : a ≤ b) (hb : b ≤ 4611686018427387904) :
    Calls Try.prog 85 #[.slice A n c, .int .i64 a, .int .i64 b] w fun e w' => ∃ A' m' c', e = .returned (.slice A' m' c') ∧ Own w' w.heap.size 3 1 A' m' c' (il ((l.take b).drop a)) ∧ Below w.heap.size w w' := by
  have hc1 := h.2.1
  have hc2 := h.2.2.1
  have hl : l.length = n := by have := h.1; rwa [length_il] at this
  by_cases hna : n ≤ a
  · have he : (l.take b).drop a = [] := by rw [List.drop_eq_nil_iff, List.length_take]; omega
    rw [he]
    exact piece_int_nil h hn a b hab hb hna
  · obtain ⟨b0, o0, rfl, _, _⟩ := h.at_ (by omega)
    have hca : ¬ c = a := by omega
    have han : a < n := by omega
    have hd := Lib.hid (ls_cut h a (min b n) (by omega) (by omega))
    have he : Hid (((il l).take (min b n)).drop a = il ((l.take b).drop a)) := by
      show _ = _
      rw [il, il, List.map_drop, List.map_take]
      congr 1
      rw [List.take_eq_take_iff]
      simp
      omega
    have hlen : Hid ((il ((l.take b).drop a)).length = min b n - a) := by show _ = _; rw [length_il, List.length_drop, List.length_take]; omega
    rw [he.out] at hd
    clear h hl he hna
    rcases Nat.lt_trichotomy n b with h2 | h2 | h2
    · have hlen2 : Hid ((il ((l.take b).drop a)).length = n - a) := by show _ = _; rw [hlen.out]; omega
      clear hlen
      go_enter Try.func85, Try.ntmps85
      go_upto_region 99 with (at_builtin; refine wpList_app rfl (.const (.slice none 0 0)) (.tmp 18) 57 rfl 3 1 Try.underlying57 info3 rfl (by omega) rfl (Own.nil_ w w.heap.size 3 1) rfl hd.out (by rw [hlen2.out]; omega) (il_oneCell _) (by omega) (by omega) (Nat.le_refl _) ?_; intro K1 ck1 w1 ho1 hg1 _; rw [Nat.zero_add, List.nil_append] at ho1; rw [Nat.zero_add])
      go_wp2
      go_ret
      exact ⟨_, _, _, rfl, ho1, (Below.refl _ _).grown hg1 (Nat.le_refl _) (by simp)⟩
    · have hlen2 : Hid ((il ((l.take b).drop a)).length = n - a) := by show _ = _; rw [hlen.out]; omega
      clear hlen
      subst h2
      go_enter Try.func85, Try.ntmps85
      go_upto_region 99 with (at_builtin; refine wpList_app rfl (.const (.slice none 0 0)) (.tmp 18) 57 rfl 3 1 Try.underlying57 info3 rfl (by omega) rfl (Own.nil_ w w.heap.size 3 1) rfl hd.out (by rw [hlen2.out]; omega) (il_oneCell _) (by omega) (by omega) (Nat.le_refl _) ?_; intro K1 ck1 w1 ho1 hg1 _; rw [Nat.zero_add, List.nil_append] at ho1; rw [Nat.zero_add])
      go_wp2
      go_ret
      exact ⟨_, _, _, rfl, ho1, (Below.refl _ _).grown hg1 (Nat.le_refl _) (by simp)⟩
    · have hlen2 : Hid ((il ((l.take b).drop a)).length = b - a) := by show _ = _; rw [hlen.out]; omega
      clear hlen
      go_enter Try.func85, Try.ntmps85
      go_upto_region 99 with (at_builtin; refine wpList_app rfl (.const (.slice none 0 0)) (.tmp 18) 57 rfl 3 1 Try.underlying57 info3 rfl (by omega) rfl (Own.nil_ w w.heap.size 3 1) rfl hd.out (by rw [hlen2.out]; omega) (il_oneCell _) (by omega) (by omega) (Nat.le_refl _) ?_; intro K1 ck1 w1 ho1 hg1 _; rw [Nat.zero_add, List.nil_append] at ho1; rw [Nat.zero_add])
      go_wp2
      go_ret
      exact ⟨_, _, _, rfl, ho1, (Below.refl _ _).grown hg1 (Nat.le_refl _) (by simp)⟩
end Go.Proofs.Ytdakohbfibcjeaa
namespace Go.Proofs.Ytdakohbfibcjeaa
open Go.RowKit

/-- a node's keys from one up to another, with what goes with them -/
def partN (s : Nd) (a b : Nat) : Nd := ⟨s.leaf, (s.keys.take b).drop a, (s.vals.take b).drop a, (s.kids.take b).drop a⟩
theorem kAt_part (s : Nd) (a b i : Nat) (h : a + i < b) : kAt (partN s a b) i = kAt s (a + i) := by
  unfold kAt partN
  rw [List.getD_eq_getElem?_getD, List.getD_eq_getElem?_getD, List.getElem?_drop, List.getElem?_take_of_lt h]
theorem vAt_part (s : Nd) (a b i : Nat) (h : a + i < b) : vAt (partN s a b) i = vAt s (a + i) := by
  unfold vAt partN
  rw [List.getD_eq_getElem?_getD, List.getD_eq_getElem?_getD, List.getElem?_drop, List.getElem?_take_of_lt h]
theorem dAt_part (s : Nd) (a b i : Nat) (h : a + i < b) : dAt (partN s a b) i = dAt s (a + i) := by
  unfold dAt partN
  rw [List.getD_eq_getElem?_getD, List.getD_eq_getElem?_getD, List.getElem?_drop, List.getElem?_take_of_lt h]
theorem small_cut {l : List ByteArray} (h : ∀ i, (l.getD i .empty).size ≤ 140737488355328) (a b i : Nat) : (((l.take b).drop a).getD i .empty).size ≤ 140737488355328 := by
  by_cases hi : a + i < b
  · have := h (a + i)
    rw [List.getD_eq_getElem?_getD, List.getElem?_drop, List.getElem?_take_of_lt hi, ← List.getD_eq_getElem?_getD]
    exact this
  · rw [List.getD_eq_getElem?_getD, List.getElem?_drop, List.getElem?_take, if_neg hi]
    simp

/-- a node that came out of a call -/
def NodeTo (w : World) (t : Nd) (e : Ending) (w' : World) : Prop :=
  ∃ K nk ck V nv cv D nd cd, e = .returned (.agg #[.bool t.leaf, .slice K nk ck, .slice V nv cv, .slice D nd cd]) ∧ NdR w' w.heap.size t K nk ck V nv cv D nd cd ∧ Below w.heap.size w w'

set_option maxRecDepth 100000 in
set_option maxHeartbeats 2000000 in
theorem part_any (s : Nd) {w : World} {lo : Nat} {K V D : Option Addr} {nk ck nv cv nd cd : Nat} (h : NdR w lo s K nk ck V nv cv D nd cd) (a b : Nat) (hab : a ≤ b) (hb : b ≤ 4611686018427387904) :
    Calls Try.prog 72 #[.agg #[.bool s.leaf, .slice K nk ck, .slice V nv cv, .slice D nd cd], .int .i64 a, .int .i64 b] w (NodeTo w (partN s a b)) := by
  have hz := zero26
  have HR := Lib.hid h
  have HAB := Lib.hid hab
  have HBB := Lib.hid hb
  have k1 := h.kroom
  have v1 := h.vroom
  have d1 := h.droom
  have lk : ((s.keys.take b).drop a).length ≤ nk := by have := h.nk_eq; rw [List.length_drop, List.length_take]; omega
  have lv : ((s.vals.take b).drop a).length ≤ nv := by have := h.nv_eq; rw [List.length_drop, List.length_take]; omega
  have ld : ((s.kids.take b).drop a).length ≤ nd := by have := h.nd_eq; rw [List.length_drop, List.length_take]; omega
  have HL := Lib.hid (And.intro lk (And.intro lv ld))
  clear h lk lv ld hab hb
  go_enter Try.func72, Try.ntmps72
  go_upto_region 1 with fail
  refine wp_world (fun U => Blk U w.heap.size 59 [.bool s.leaf, .slice K nk ck, .slice V nv cv, .slice D nd cd] ∧ Blk U (w.heap.size + 1) 59 [.bool false, .slice none 0 0, .slice none 0 0, .slice none 0 0] ∧ Below w.heap.size w U)
    ⟨(Blk.new w _ [.bool s.leaf, .slice K nk ck, .slice V nv cv, .slice D nd cd]).alloc _, Blk.new_at (cs := [.bool false, .slice none 0 0, .slice none 0 0, .slice none 0 0]) (n := w.heap.size + 1) (by simp), ((Below.refl _ _).alloc (Nat.le_refl _) _).alloc (by simp) _⟩ ?_
  clear hz
  rintro U ⟨B0, B1, b0⟩
  have HB0 := Lib.hid B0
  have HB1 := Lib.hid B1
  have hz0 := B0.lt
  have hz1 := B1.lt
  have c0 := B0.cell 0
  have c1 := B0.cell 1
  have c2 := B0.cell 2
  have c3 := B0.cell 3
  simp only [List.getElem?_cons_zero, List.getElem?_cons_succ] at c0 c1 c2 c3
  clear B0 B1
  have P1 := Lib.hid (piece_str (HR.out.keys.below b0.drew (Nat.le_refl _)) k1 a b HAB.out HBB.out)
  go_region_held3 (fun w' => w'.cell? ⟨w.heap.size, 0, none⟩ = some (.bool s.leaf) ∧ w'.cell? ⟨w.heap.size, 1, none⟩ = some (.slice K nk ck) ∧ w'.cell? ⟨w.heap.size, 2, none⟩ = some (.slice V nv cv) ∧ w'.cell? ⟨w.heap.size, 3, none⟩ = some (.slice D nd cd))
    (first | (exact K7.out) | (exact K6.out) | (exact K5.out) | go_keep)
    (first
      | ((with_reducible refine Calls.mono P1.out ?_); rintro e w5 ⟨A5, m5, c5, rfl, ho5, hb5⟩; have B5 := HB0.out.drew.below hb5 hz0; have N5 := HB1.out.drew.below hb5 hz1; have K5 : Hid (w5.cell? ⟨w.heap.size, 0, none⟩ = some (.bool s.leaf) ∧ w5.cell? ⟨w.heap.size, 1, none⟩ = some (.slice K nk ck) ∧ w5.cell? ⟨w.heap.size, 2, none⟩ = some (.slice V nv cv) ∧ w5.cell? ⟨w.heap.size, 3, none⟩ = some (.slice D nd cd)) := ⟨B5.cell 0, B5.cell 1, B5.cell 2, B5.cell 3⟩; have b5 : Below w.heap.size w w5 := b0.drew.trans (hb5.mono b0.size); have P2 := Lib.hid (piece_str (HR.out.vals.below b5 (Nat.le_refl _)) v1 a b HAB.out HBB.out))
      | ((with_reducible refine Calls.mono P2.out ?_); rintro e w6 ⟨A6, m6, c6, rfl, ho6, hb6⟩; have B6 := B5.below hb6 B5.lt; have N6 := N5.below hb6 N5.lt; have K6 : Hid (w6.cell? ⟨w.heap.size, 0, none⟩ = some (.bool s.leaf) ∧ w6.cell? ⟨w.heap.size, 1, none⟩ = some (.slice K nk ck) ∧ w6.cell? ⟨w.heap.size, 2, none⟩ = some (.slice V nv cv) ∧ w6.cell? ⟨w.heap.size, 3, none⟩ = some (.slice D nd cd)) := ⟨B6.cell 0, B6.cell 1, B6.cell 2, B6.cell 3⟩; have b6 : Below w.heap.size w w6 := b5.trans (hb6.mono b5.size); have P3 := Lib.hid (piece_int (HR.out.kids.below b6 (Nat.le_refl _)) d1 a b HAB.out HBB.out))
      | ((with_reducible refine Calls.mono P3.out ?_); rintro e w7 ⟨A7, m7, c7, rfl, ho7, hb7⟩; have B7 := B6.below hb7 B6.lt; have N7 := N6.below hb7 N6.lt; have K7 : Hid (w7.cell? ⟨w.heap.size, 0, none⟩ = some (.bool s.leaf) ∧ w7.cell? ⟨w.heap.size, 1, none⟩ = some (.slice K nk ck) ∧ w7.cell? ⟨w.heap.size, 2, none⟩ = some (.slice V nv cv) ∧ w7.cell? ⟨w.heap.size, 3, none⟩ = some (.slice D nd cd)) := ⟨B7.cell 0, B7.cell 1, B7.cell 2, B7.cell 3⟩; have rc := N7.cells; have rf := N7.frees; have b7 : Below w.heap.size w w7 := b6.trans (hb7.mono b6.size)))
  go_wp2
  have hB := (((N7.set_ 0 (.bool s.leaf)).set_ 1 (.slice A5 m5 c5)).set_ 2 (.slice A6 m6 c6)).set_ 3 (.slice A7 m7 c7)
  refine bodyPost_ret (results_cell_row rfl _ _ (w.heap.size + 1) 59 #[.bool s.leaf, .slice A5 m5 c5, .slice A6 m6 c6, .slice A7 m7 c7] (0, 0) _ rfl hB Try.underlying59 rfl (by rw [size26]; rfl)) rfl ?_
  have l5 := own_ls ((((((ho5.below hb6 (Nat.le_refl _)).below hb7 (Nat.le_trans (Nat.le_refl _) (Nat.le_refl _))).far (by simp <;> omega) (.bool s.leaf) (p := ⟨w.heap.size + 1, 0, none⟩)).far (by simp <;> omega) (.slice A5 m5 c5) (p := ⟨w.heap.size + 1, 1, none⟩)).far (by simp <;> omega) (.slice A6 m6 c6) (p := ⟨w.heap.size + 1, 2, none⟩)).far (by simp <;> omega) (.slice A7 m7 c7) (p := ⟨w.heap.size + 1, 3, none⟩))
  have l6 := own_ls (((((ho6.below hb7 (Nat.le_refl _)).far (by have := hb5.size; simp at this ⊢; omega) (.bool s.leaf) (p := ⟨w.heap.size + 1, 0, none⟩)).far (by have := hb5.size; simp at this ⊢; omega) (.slice A5 m5 c5) (p := ⟨w.heap.size + 1, 1, none⟩)).far (by have := hb5.size; simp at this ⊢; omega) (.slice A6 m6 c6) (p := ⟨w.heap.size + 1, 2, none⟩)).far (by have := hb5.size; simp at this ⊢; omega) (.slice A7 m7 c7) (p := ⟨w.heap.size + 1, 3, none⟩))
  have l7 := own_ls ((((ho7.far (by have := hb5.size; have := hb6.size; simp at *; omega) (.bool s.leaf) (p := ⟨w.heap.size + 1, 0, none⟩)).far (by have := hb5.size; have := hb6.size; simp at *; omega) (.slice A5 m5 c5) (p := ⟨w.heap.size + 1, 1, none⟩)).far (by have := hb5.size; have := hb6.size; simp at *; omega) (.slice A6 m6 c6) (p := ⟨w.heap.size + 1, 2, none⟩)).far (by have := hb5.size; have := hb6.size; simp at *; omega) (.slice A7 m7 c7) (p := ⟨w.heap.size + 1, 3, none⟩))
  have e5 := l5.1
  have e6 := l6.1
  have e7 := l7.1
  rw [length_sl] at e5 e6
  rw [length_il] at e7
  have hl := HL.out
  have z5 := b0.size
  have z6 := b5.size
  have z7 := b6.size
  exact ⟨A5, m5, c5, A6, m6, c6, A7, m7, c7, rfl,
    ⟨l5.weak (by simp; omega), l6.weak (by omega), l7.weak (by omega), fun i => small_cut HR.out.ksmall a b i, fun i => small_cut HR.out.vsmall a b i, by omega, by omega, by omega⟩,
    (((b7.setCell (by simp) _).setCell (by simp) _).setCell (by simp) _).setCell (by simp) _⟩
end Go.Proofs.Ytdakohbfibcjeaa
namespace Go.Proofs.Ytdakohbfibcjeaa
open Go.RowKit

/-- half of what a node has, as the machine holds it -/
def halfN (s : Nd) : Int := (szV (sizeN s)).tdiv 2
/-- a node of two keys and more is split behind its first m keys -/
def isSplit (s : Nd) (m : Nat) : Prop :=
  1 ≤ m ∧ m < s.keys.length ∧ (∀ j, 1 ≤ j → j < m → szV (sizeTo s j) < halfN s) ∧ (m + 1 < s.keys.length → halfN s ≤ szV (sizeTo s m))
theorem isSplit_one {s : Nd} {m n : Nat} (h : isSplit s m) (k : isSplit s n) : m = n := by
  obtain ⟨h1, h2, h3, h4⟩ := h
  obtain ⟨k1, k2, k3, k4⟩ := k
  rcases Nat.lt_trichotomy m n with hlt | hlt | hlt
  · have := k3 m h1 hlt
    have := h4 (by omega)
    omega
  · exact hlt
  · have := h3 n k1 hlt
    have := k4 (by omega)
    omega
def mostN (s : Nd) : Nat := max (max s.keys.length s.vals.length) s.kids.length
/-- the two nodes -/
def SplitN (s p q : Nd) : Prop :=
  (s.keys.length < 2 ∧ p = partN s 0 (mostN s) ∧ q = Nd.nil) ∨ ∃ m, isSplit s m ∧ p = partN s 0 m ∧ q = partN s m (mostN s)
def SplitTo (w : World) (s : Nd) (e : Ending) (w' : World) : Prop :=
  ∃ p q K nk ck V nv cv D nd cd K' nk' ck' V' nv' cv' D' nd' cd', e = .returned (.tuple #[.agg #[.bool p.leaf, .slice K nk ck, .slice V nv cv, .slice D nd cd], .agg #[.bool q.leaf, .slice K' nk' ck', .slice V' nv' cv', .slice D' nd' cd']]) ∧
    NdR w' w.heap.size p K nk ck V nv cv D nd cd ∧ NdR w' w.heap.size q K' nk' ck' V' nv' cv' D' nd' cd' ∧ SplitN s p q ∧ Below w.heap.size w w'

theorem tdiv2_bd {Z : Int} (h : -9223372036854775808 ≤ Z ∧ Z ≤ 9223372036854775807) : -9223372036854775808 ≤ Z.tdiv 2 ∧ Z.tdiv 2 ≤ 9223372036854775807 := by
  rcases Int.le_total 0 Z with h0 | h0
  · rw [Int.tdiv_eq_ediv_of_nonneg h0]; omega
  · have e : Z.tdiv 2 = -((-Z).tdiv 2) := by rw [Int.neg_tdiv, Int.neg_neg]
    rw [e, Int.tdiv_eq_ediv_of_nonneg (by omega)]; omega
theorem results_nn {fn : Func} {p t : Tmp} (h : fn.results = #[.cell p 59, .cell t 59]) {tmps : Array Value} {w : World} {g1 g2 : Nat} {a0 a1 a2 a3 b0 b1 b2 b3 : Value}
    (hp : tmps.getD p undef = .pointer (some ⟨g1, 0, none⟩)) (ht : tmps.getD t undef = .pointer (some ⟨g2, 0, none⟩))
    (hb1 : Blk w g1 59 [a0, a1, a2, a3]) (hb2 : Blk w g2 59 [b0, b1, b2, b3]) :
    (results fn tmps).run Try.prog w = .ok (.tuple #[.agg #[a0, a1, a2, a3], .agg #[b0, b1, b2, b3]]) w := by
  have hr := run_loadVar_row (P := Try.prog) w g1 59 59 #[a0, a1, a2, a3] (0, 0) _ hb1 Try.underlying59 rfl size26
  have hr2 := run_loadVar_row (P := Try.prog) w g2 59 59 #[b0, b1, b2, b3] (0, 0) _ hb2 Try.underlying59 rfl size26
  have hp' : tmps[p]?.getD undef = .pointer (some ⟨g1, 0, none⟩) := by simpa using hp
  have ht' : tmps[t]?.getD undef = .pointer (some ⟨g2, 0, none⟩) := by simpa using ht
  simp [results, h, hp', ht', asAddr, hr, hr2]

/-- the heap while a node is split: the node, and where its two parts go -/
structure SpW (w W : World) (lf : Bool) (K : Option Addr) (nk ck : Nat) (V : Option Addr) (nv cv : Nat) (D : Option Addr) (nd cd : Nat) : Prop where
  box : Blk W w.heap.size 59 [.bool lf, .slice K nk ck, .slice V nv cv, .slice D nd cd]
  one : Blk W (w.heap.size + 1) 59 [.bool false, .slice none 0 0, .slice none 0 0, .slice none 0 0]
  two : Blk W (w.heap.size + 2) 59 [.bool false, .slice none 0 0, .slice none 0 0, .slice none 0 0]
  below : Below w.heap.size w W
  high : w.heap.size + 3 ≤ W.heap.size
theorem SpW.init {w : World} {lf : Bool} {K : Option Addr} {nk ck : Nat} {V : Option Addr} {nv cv : Nat} {D : Option Addr} {nd cd : Nat} :
    SpW w (((w.alloc (.cells #[.bool lf, .slice K nk ck, .slice V nv cv, .slice D nd cd] 59)).alloc (.cells #[.bool false, .slice none 0 0, .slice none 0 0, .slice none 0 0] 59)).alloc (.cells #[.bool false, .slice none 0 0, .slice none 0 0, .slice none 0 0] 59)) lf K nk ck V nv cv D nd cd :=
  ⟨((Blk.new w _ [.bool lf, .slice K nk ck, .slice V nv cv, .slice D nd cd]).alloc _).alloc _,
    (Blk.new_at (cs := [.bool false, .slice none 0 0, .slice none 0 0, .slice none 0 0]) (n := w.heap.size + 1) (by simp)).alloc _,
    Blk.new_at (cs := [.bool false, .slice none 0 0, .slice none 0 0, .slice none 0 0]) (n := w.heap.size + 2) (by simp),
    (((Below.refl _ _).alloc (Nat.le_refl _) _).alloc (by simp) _).alloc (by simp; omega) _, by simp⟩
section
variable {w W W' : World} {lf : Bool} {K : Option Addr} {nk ck : Nat} {V : Option Addr} {nv cv : Nat} {D : Option Addr} {nd cd : Nat}
theorem SpW.under (h : SpW w W lf K nk ck V nv cv D nd cd) (hb : Below W.heap.size W W') : SpW w W' lf K nk ck V nv cv D nd cd :=
  ⟨h.box.below hb h.box.lt, h.one.below hb h.one.lt, h.two.below hb h.two.lt, h.below.trans (hb.mono h.below.size), Nat.le_trans h.high hb.size⟩
theorem SpW.drew (h : SpW w W lf K nk ck V nv cv D nd cd) : SpW w W.drew lf K nk ck V nv cv D nd cd := ⟨h.box, h.one, h.two, h.below.drew, h.high⟩
end
/-- a node in memory is not touched by what is stored below it -/
theorem NdR.far8 {w : World} {lo : Nat} {s : Nd} {K V D : Option Addr} {nk ck nv cv nd cd : Nat} (h : NdR w lo s K nk ck V nv cv D nd cd) {g g' : Nat} (hg : g < lo) (hg' : g' < lo) {a0 a1 a2 a3 b0 b1 b2 b3 : Value} :
    NdR ((((((((w.setCell ⟨g, 0, none⟩ a0).setCell ⟨g, 1, none⟩ a1).setCell ⟨g, 2, none⟩ a2).setCell ⟨g, 3, none⟩ a3).setCell ⟨g', 0, none⟩ b0).setCell ⟨g', 1, none⟩ b1).setCell ⟨g', 2, none⟩ b2).setCell ⟨g', 3, none⟩ b3) lo s K nk ck V nv cv D nd cd :=
  (((((((h.far (by simpa using hg) _).far (by simpa using hg) _).far (by simpa using hg) _).far (by simpa using hg) _).far (by simpa using hg') _).far (by simpa using hg') _).far (by simpa using hg') _).far (by simpa using hg') _

set_option maxRecDepth 100000 in
set_option maxHeartbeats 2000000 in
theorem split_few (s : Nd) {w : World} {lo : Nat} {K V D : Option Addr} {nk ck nv cv nd cd : Nat} (h : NdR w lo s K nk ck V nv cv D nd cd) (hf : nk < 2) :
    Calls Try.prog 48 #[.agg #[.bool s.leaf, .slice K nk ck, .slice V nv cv, .slice D nd cd]] w (SplitTo w s) := by
  have hz := zero26
  have HR := Lib.hid h
  have HM : Hid (mostN s = max (max nk nv) nd) := by show _ = _; unfold mostN; rw [h.nk_eq, h.nv_eq, h.nd_eq]
  have hmx : ∀ (w : World) (ts : Array TypeId) (t : TypeId), (Builtin.max_ ts t #[.int .i64 (nk : Int), .int .i64 (nv : Int), .int .i64 (nd : Int)]).run Try.prog w = .ok (.int .i64 ((mostN s : Nat) : Int)) w := fun w ts t => by
    rw [run_max_int3, HM.out]
    congr 2
    split <;> split <;> omega
  have hmz : mostN s ≤ 4611686018427387904 := by
    have := h.kroom; have := h.vroom; have := h.droom
    rw [HM.out]; omega
  clear h
  go_enter Try.func48, Try.ntmps48
  go_upto_region 3 with fail
  refine wp_world (fun U => SpW w U s.leaf K nk ck V nv cv D nd cd) SpW.init ?_
  clear hz
  rintro U hS
  have B0c := hS.box.cells
  have P1 := Lib.hid (part_any s (HR.out.below hS.below (Nat.le_refl _)) 0 (mostN s) (Nat.zero_le _) hmz)
  go_upto_region 99 with ((with_reducible refine Calls.mono P1.out ?_); rintro e w1 ⟨K1, nk1, ck1, V1, nv1, cv1, D1, nd1, cd1, rfl, n1, hb1⟩; have hS1 := hS.under hb1; have oc := hS1.one.cells; have of_ := hS1.one.frees; have tc := hS1.two.cells; have tf := hS1.two.frees)
  clear B0c P1
  have z1 := hS.high
  have HP := Lib.hid (show s.keys.length < 2 by rw [HR.out.nk_eq]; exact hf)
  refine bodyPost_ret (results_nn rfl rfl rfl ((((((((hS1.one.set_ 0 (.bool s.leaf)).set_ 1 (.slice K1 nk1 ck1)).set_ 2 (.slice V1 nv1 cv1)).set_ 3 (.slice D1 nd1 cd1)).far (by simp) _).far (by simp) _).far (by simp) _).far (by simp) _)
    ((((((((hS1.two.far (by simp) _).far (by simp) _).far (by simp) _).far (by simp) _).set_ 0 (.bool false)).set_ 1 (.slice none 0 0)).set_ 2 (.slice none 0 0)).set_ 3 (.slice none 0 0))) rfl ?_
  exact ⟨partN s 0 (mostN s), Nd.nil, _, _, _, _, _, _, _, _, _, _, _, _, _, _, _, _, _, _, rfl, (n1.far8 (by omega) (by omega)).weak (by omega), ndr_nil _ _, .inl ⟨HP.out, rfl, rfl⟩,
    (((((((hS1.below.setCell (by simp) _).setCell (by simp) _).setCell (by simp) _).setCell (by simp) _).setCell (by simp; omega) _).setCell (by simp; omega) _).setCell (by simp; omega) _).setCell (by simp; omega) _⟩

set_option maxRecDepth 100000 in
set_option maxHeartbeats 4000000 in
theorem split_many (s : Nd) {w : World} {lo : Nat} {K V D : Option Addr} {nk ck nv cv nd cd : Nat} (h : NdR w lo s K nk ck V nv cv D nd cd) (hf : 2 ≤ nk) :
    Calls Try.prog 48 #[.agg #[.bool s.leaf, .slice K nk ck, .slice V nv cv, .slice D nd cd]] w (SplitTo w s) := by
  have hz := zero26
  have HR := Lib.hid h
  have HM : Hid (mostN s = max (max nk nv) nd) := by show _ = _; unfold mostN; rw [h.nk_eq, h.nv_eq, h.nd_eq]
  have hmx : Hid (∀ (w : World) (ts : Array TypeId) (t : TypeId), (Builtin.max_ ts t #[.int .i64 (nk : Int), .int .i64 (nv : Int), .int .i64 (nd : Int)]).run Try.prog w = .ok (.int .i64 ((mostN s : Nat) : Int)) w) := fun w ts t => by
    rw [run_max_int3, HM.out]
    congr 2
    split <;> split <;> omega
  have HMz : Hid (mostN s ≤ 4611686018427387904 ∧ nk ≤ mostN s) := by
    have := h.kroom; have := h.vroom; have := h.droom
    show _ ∧ _
    rw [HM.out]; omega
  have hkr := h.kroom
  have HH : Hid (halfN s = (szV (sizeN s)).tdiv 2) := rfl
  have bz := szV_bd (sizeN s)
  have HSz : Hid (∀ {w' : World}, Below w.heap.size w w' → Calls Try.prog 47 #[.agg #[.bool s.leaf, .slice K nk ck, .slice V nv cv, .slice D nd cd]] w' fun e w'' => e = .returned (.int .i64 (szV (sizeN s))) ∧ Below w'.heap.size w' w'') := fun hb => nsize_any s (HR.out.below hb (Nat.le_refl _))
  generalize szV (sizeN s) = Z at *
  clear h
  go_enter Try.func48, Try.ntmps48
  go_upto_region 4 with fail
  refine wp_world (fun U => SpW w U s.leaf K nk ck V nv cv D nd cd) SpW.init ?_
  clear hz
  rintro U hS
  go_wp2
  go_loopw [5, 6] (fun s5 s6 wr => ∃ i : Nat, i + 1 ≤ nk ∧ s5 = .int .i64 i ∧ s6 = .int .i64 (szV (sizeTo s i)) ∧ (∀ j, 1 ≤ j → j < i → szV (sizeTo s j) < halfN s) ∧ SpW w wr s.leaf K nk ck V nv cv D nd cd)
    (fun s5 _ _ => nk - (intOf s5).toNat)
  case atStart => exact ⟨0, by omega, rfl, rfl, fun j h1 h2 => absurd h2 (by omega), hS⟩
  case round =>
    clear hS
    obtain ⟨i, hi, rfl, rfl, hA, hS⟩ := hrel
    have HA := Lib.hid hA
    clear hA
    have B0c := hS.box.cells
    have bx := szV_bd (sizeTo s i)
    have HX : Hid (szV (sizeTo s (i + 1)) = wrap64 (szV (sizeTo s i) + (eachN s i : Nat))) := by show _ = _; rw [← IntWalk.i64_left, szV_add]; rfl
    have HY : Hid (∀ j, j = i → szV (sizeTo s j) = szV (sizeTo s i)) := fun j h => by rw [h]
    have HE : Hid (∀ {w' : World}, Below w.heap.size w w' → Calls Try.prog 71 #[.agg #[.bool s.leaf, .slice K nk ck, .slice V nv cv, .slice D nd cd], .int .i64 i] w' fun e w'' => e = .returned (.int .i64 (eachN s i : Nat)) ∧ Below w'.heap.size w' w'') := fun hb => each_any s i (HR.out.below hb (Nat.le_refl _)) (by omega)
    have hle := eachN_le HR.out i
    generalize szV (sizeTo s i) = X at *
    generalize eachN s i = ee at *
    by_cases hlt : i + 1 < nk
    · have d1 : decide ((i : Int) < (nk : Int) - 1) = true := decide_eq_true (by omega)
      by_cases h0 : i = 0
      · subst h0
        have E1 := Lib.hid (HE.out hS.below)
        have HS := Lib.hid hS
        clear hS
        go_wp2_with ((with_reducible refine Calls.mono E1.out ?_); rintro e w1 ⟨rfl, hb1⟩)
        go_roundw
        case rel => exact ⟨1, by omega, by go_num, by rw [HX.out], fun j h1 h2 => absurd h2 (by omega), HS.out.under hb1⟩
        case measure => simp [intOf]; omega
      · have T1 := Lib.hid (HSz.out hS.below)
        by_cases hq : X < Z.tdiv 2
        · have HQ := Lib.hid hq
          have HS := Lib.hid hS
          have d2 : decide (X < Z.tdiv 2) = true := decide_eq_true hq
          have hdd : -9223372036854775808 ≤ Z.tdiv 2 ∧ Z.tdiv 2 ≤ 9223372036854775807 := tdiv2_bd bz
          clear hq hS
          go_wp2_with (first
            | ((with_reducible refine Calls.mono T1.out ?_); rintro e w1 ⟨rfl, hb1⟩; have S1 := HS.out.under hb1; have B1c := S1.box.cells; have E1 := Lib.hid (HE.out S1.below))
            | ((with_reducible refine Calls.mono E1.out ?_); rintro e w2 ⟨rfl, hb2⟩; have S2 := S1.under hb2))
          go_roundw
          case rel => exact ⟨i + 1, by omega, by go_num, by rw [HX.out], fun j h1 h2 => by
            by_cases hji : j = i
            · rw [HY.out j hji, HH.out]; exact HQ.out
            · exact HA.out j h1 (by omega), S2⟩
          case measure => simp [intOf]; omega
        · have HI : Hid (isSplit s i) := ⟨by omega, by rw [HR.out.nk_eq]; omega, HA.out, fun _ => by rw [HH.out, HY.out i rfl]; omega⟩
          have d2 : decide (X < Z.tdiv 2) = false := decide_eq_false hq
          have hdd : -9223372036854775808 ≤ Z.tdiv 2 ∧ Z.tdiv 2 ≤ 9223372036854775807 := tdiv2_bd bz
          have HS0 := Lib.hid hS
          clear hq hS
          go_upto_region 8 with ((with_reducible refine Calls.mono T1.out ?_); rintro e w1 ⟨rfl, hb1⟩; have S1 := HS0.out.under hb1)
          refine wp_world (fun U => SpW w U s.leaf K nk ck V nv cv D nd cd) S1 ?_
          clear S1 HS0 hb1 T1 B0c
          rintro W8 hS
          have B0c := hS.box.cells
          have P1 := Lib.hid (part_any s (HR.out.below hS.below.drew (Nat.le_refl _)) 0 i (Nat.zero_le _) (by omega))
          have hmx2 := hmx.out
          have hi6 : i ≤ mostN s := by have := HMz.out.2; omega
          have HI6 := Lib.hid hi6
          clear hi6 B0c
          refine wp_region_last (S := fun w' => w'.cell? ⟨w.heap.size, 0, none⟩ = some (.bool s.leaf) ∧ w'.cell? ⟨w.heap.size, 1, none⟩ = some (.slice K nk ck) ∧ w'.cell? ⟨w.heap.size, 2, none⟩ = some (.slice V nv cv) ∧ w'.cell? ⟨w.heap.size, 3, none⟩ = some (.slice D nd cd)) 15 (by kernel_rfl) rfl (by kernel_rfl) ?_ ?_
          · exact ⟨hS.box.cell 0, hS.box.cell 1, hS.box.cell 2, hS.box.cell 3⟩
          intro hHeld
          simp only [List.take_succ_cons, List.take_zero]
          refine wpAnyH_take (i := 0) (v := ?_) (by simp only [List.getElem?_toArray, List.getElem?_cons_succ, List.getElem?_cons_zero]; rfl) (by kernel_rfl) (by kernel_rfl) (by kernel_rfl) (fun _ _ _ h => h) (Or.inl ⟨by rfl, ?_⟩) hHeld ?_
          rotate_left
          · intro wz hSw; (try dsimp only at hSw); go_simp; try with_reducible rfl
          (try simp only [Act.put, List.setIfInBounds_toArray, List.set_cons_zero, List.set_cons_succ])
          refine wpAnyH_take (i := 1) (v := ?_) (by simp only [List.getElem?_toArray, List.getElem?_cons_succ, List.getElem?_cons_zero]; rfl) (by kernel_rfl) (by kernel_rfl) (by kernel_rfl) (fun _ _ _ h => h) (Or.inl ⟨by rfl, ?_⟩) hHeld ?_
          rotate_left
          · intro wz hSw; (try dsimp only at hSw); go_simp; try with_reducible rfl
          (try simp only [Act.put, List.setIfInBounds_toArray, List.set_cons_zero, List.set_cons_succ])
          refine wpAnyH_take (i := 3) (v := ?_) (by simp only [List.getElem?_toArray, List.getElem?_cons_succ, List.getElem?_cons_zero]; rfl) (by kernel_rfl) (by kernel_rfl) (by kernel_rfl) (fun _ _ _ h => h) (Or.inl ⟨by rfl, ?_⟩) hHeld ?_
          rotate_left
          · intro wz hSw; (try dsimp only at hSw); go_simp; try with_reducible rfl
          (try simp only [Act.put, List.setIfInBounds_toArray, List.set_cons_zero, List.set_cons_succ])
          refine wpAnyH_take (i := 4) (v := ?_) (by simp only [List.getElem?_toArray, List.getElem?_cons_succ, List.getElem?_cons_zero]; rfl) (by kernel_rfl) (by kernel_rfl) (by kernel_rfl) (fun _ _ _ h => h) (Or.inl ⟨by rfl, ?_⟩) hHeld ?_
          rotate_left
          · intro wz hSw; (try dsimp only at hSw); go_simp; try with_reducible rfl
          (try simp only [Act.put, List.setIfInBounds_toArray, List.set_cons_zero, List.set_cons_succ])
          refine wpAnyH_take (i := 5) (v := ?_) (by simp only [List.getElem?_toArray, List.getElem?_cons_succ, List.getElem?_cons_zero]; rfl) (by kernel_rfl) (by kernel_rfl) (by kernel_rfl) (fun _ _ _ h => h) (Or.inl ⟨by rfl, ?_⟩) hHeld ?_
          rotate_left
          · intro wz hSw; (try dsimp only at hSw); go_simp; try with_reducible rfl
          (try simp only [Act.put, List.setIfInBounds_toArray, List.set_cons_zero, List.set_cons_succ])
          refine wpAnyH_take (i := 6) (v := ?_) (by simp only [List.getElem?_toArray, List.getElem?_cons_succ, List.getElem?_cons_zero]; rfl) (by kernel_rfl) (by kernel_rfl) (by kernel_rfl) (fun _ _ _ h => h) (Or.inl ⟨by rfl, ?_⟩) hHeld ?_
          rotate_left
          · intro wz hSw; (try dsimp only at hSw); go_simp; try with_reducible rfl
          (try simp only [Act.put, List.setIfInBounds_toArray, List.set_cons_zero, List.set_cons_succ])
          refine wpAnyH_take (i := 7) (v := ?_) (by simp only [List.getElem?_toArray, List.getElem?_cons_succ, List.getElem?_cons_zero]; rfl) (by kernel_rfl) (by kernel_rfl) (by kernel_rfl) (fun _ _ _ h => h) (Or.inl ⟨by rfl, ?_⟩) hHeld ?_
          rotate_left
          · intro wz hSw; (try dsimp only at hSw); go_simp; try with_reducible rfl
          (try simp only [Act.put, List.setIfInBounds_toArray, List.set_cons_zero, List.set_cons_succ])
          refine wpAnyH_take (i := 8) (v := ?_) (by simp only [List.getElem?_toArray, List.getElem?_cons_succ, List.getElem?_cons_zero]; rfl) (by kernel_rfl) (by kernel_rfl) (by kernel_rfl) (fun _ _ _ h => h) (Or.inl ⟨by rfl, ?_⟩) hHeld ?_
          rotate_left
          · intro wz hSw; (try dsimp only at hSw); go_simp; try with_reducible rfl
          (try simp only [Act.put, List.setIfInBounds_toArray, List.set_cons_zero, List.set_cons_succ])
          refine wpAnyH_take (i := 9) (v := ?_) (by simp only [List.getElem?_toArray, List.getElem?_cons_succ, List.getElem?_cons_zero]; rfl) (by kernel_rfl) (by kernel_rfl) (by kernel_rfl) (fun _ _ _ h => h) (Or.inl ⟨by rfl, ?_⟩) hHeld ?_
          rotate_left
          · intro wz hSw; (try dsimp only at hSw); go_simp; try with_reducible rfl
          (try simp only [Act.put, List.setIfInBounds_toArray, List.set_cons_zero, List.set_cons_succ])
          refine wpAnyH_take (i := 10) (v := ?_) (by simp only [List.getElem?_toArray, List.getElem?_cons_succ, List.getElem?_cons_zero]; rfl) (by kernel_rfl) (by kernel_rfl) (by kernel_rfl) (fun _ _ _ h => h) (Or.inl ⟨by rfl, ?_⟩) hHeld ?_
          rotate_left
          · intro wz hSw; (try dsimp only at hSw); go_simp; try with_reducible rfl
          (try simp only [Act.put, List.setIfInBounds_toArray, List.set_cons_zero, List.set_cons_succ])
          refine wpAnyH_take (i := 11) (v := ?_) (by simp only [List.getElem?_toArray, List.getElem?_cons_succ, List.getElem?_cons_zero]; rfl) (by kernel_rfl) (by kernel_rfl) (by kernel_rfl) (fun _ _ _ h => h) (Or.inl ⟨by rfl, ?_⟩) hHeld ?_
          rotate_left
          · intro wz hSw; (try dsimp only at hSw); go_simp; try with_reducible rfl
          (try simp only [Act.put, List.setIfInBounds_toArray, List.set_cons_zero, List.set_cons_succ])
          refine wpAnyH_take (i := 12) (v := ?_) (by simp only [List.getElem?_toArray, List.getElem?_cons_succ, List.getElem?_cons_zero]; rfl) (by kernel_rfl) (by kernel_rfl) (by kernel_rfl) (fun _ _ _ h => h) (Or.inl ⟨by rfl, ?_⟩) hHeld ?_
          rotate_left
          · intro wz hSw; (try dsimp only at hSw); go_simp; try with_reducible rfl
          (try simp only [Act.put, List.setIfInBounds_toArray, List.set_cons_zero, List.set_cons_succ])
          refine wpAnyH_ready (rs := [2]) (by kernel_rfl) (by simp) ?_
          refine AllReadyH.cons (by simp only [List.getElem?_toArray, List.getElem?_cons_succ, List.getElem?_cons_zero]; rfl) (fun KK hK => ?_) AllReadyH.nil
          go_simp; ((with_reducible refine Calls.mono P1.out ?_); rintro e w5 ⟨A5, m5, c5, A6, m6, c6, A7, m7, c7, rfl, n5, hb5⟩; have S5 := hS.drew.under hb5); go_wp2_with fail
          refine hK.out _ _ ?_ (fun hHeld => ?_)
          · exact ⟨S5.box.cell 0, S5.box.cell 1, S5.box.cell 2, S5.box.cell 3⟩
          clear hK KK
          (try simp only [Act.put, List.setIfInBounds_toArray, List.set_cons_zero, List.set_cons_succ])
          have P2 := Lib.hid (part_any s (HR.out.below S5.below (Nat.le_refl _)) i (mostN s) HI6.out HMz.out.1)
          refine wpAnyH_ready (rs := [13]) (by kernel_rfl) (by simp) ?_
          refine AllReadyH.cons (by simp only [List.getElem?_toArray, List.getElem?_cons_succ, List.getElem?_cons_zero]; rfl) (fun KK hK => ?_) AllReadyH.nil
          go_simp; ((with_reducible refine Calls.mono P2.out ?_); rintro e w6 ⟨E5, p5, q5, E6, p6, q6, E7, p7, q7, rfl, n6, hb6⟩; have S6 := S5.under hb6; have oc := S6.one.cells; have of_ := S6.one.frees; have tc := S6.two.cells; have tf := S6.two.frees); go_wp2_with fail
          refine hK.out _ _ ?_ (fun hHeld => ?_)
          · exact ⟨S6.box.cell 0, S6.box.cell 1, S6.box.cell 2, S6.box.cell 3⟩
          clear hK KK
          (try simp only [Act.put, List.setIfInBounds_toArray, List.set_cons_zero, List.set_cons_succ])
          refine wpAnyH_ready (rs := [14]) (by kernel_rfl) (by simp) ?_
          refine AllReadyH.cons (by simp only [List.getElem?_toArray, List.getElem?_cons_succ, List.getElem?_cons_zero]; rfl) (fun KK hK => ?_) AllReadyH.nil
          go_simp
          refine hK.out _ _ ?_ (fun hHeld => ?_)
          · exact ⟨((((S6.box.far (by simp) _).far (by simp) _).far (by simp) _).far (by simp) _).cell 0, ((((S6.box.far (by simp) _).far (by simp) _).far (by simp) _).far (by simp) _).cell 1, ((((S6.box.far (by simp) _).far (by simp) _).far (by simp) _).far (by simp) _).cell 2, ((((S6.box.far (by simp) _).far (by simp) _).far (by simp) _).far (by simp) _).cell 3⟩
          clear hK KK
          (try simp only [Act.put, List.setIfInBounds_toArray, List.set_cons_zero, List.set_cons_succ])
          refine wpAnyH_done (by kernel_rfl) ?_ _
          simp only [lastQ]
          go_simp
          clear oc of_ tc tf hHeld hmx2
          go_wp2
          have z1 := hS.high
          have z5 := S5.high
          refine bodyPost_ret (results_nn rfl rfl rfl ((((((((S6.one.set_ 0 (.bool s.leaf)).set_ 1 (.slice A5 m5 c5)).set_ 2 (.slice A6 m6 c6)).set_ 3 (.slice A7 m7 c7)).far (by simp) _).far (by simp) _).far (by simp) _).far (by simp) _)
            ((((((((S6.two.far (by simp) _).far (by simp) _).far (by simp) _).far (by simp) _).set_ 0 (.bool s.leaf)).set_ 1 (.slice E5 p5 q5)).set_ 2 (.slice E6 p6 q6)).set_ 3 (.slice E7 p7 q7))) rfl ?_
          exact ⟨partN s 0 i, partN s i (mostN s), _, _, _, _, _, _, _, _, _, _, _, _, _, _, _, _, _, _, rfl, ((n5.below hb6 (Nat.le_refl _)).far8 (by simp; omega) (by simp; omega)).weak (by simp; omega), (n6.far8 (by omega) (by omega)).weak (by omega), .inr ⟨i, HI.out, rfl, rfl⟩,
            (((((((S6.below.setCell (by simp) _).setCell (by simp) _).setCell (by simp) _).setCell (by simp) _).setCell (by simp; omega) _).setCell (by simp; omega) _).setCell (by simp; omega) _).setCell (by simp; omega) _⟩
    · have HI : Hid (isSplit s i) := ⟨by omega, by rw [HR.out.nk_eq]; omega, HA.out, fun h => by rw [HR.out.nk_eq] at h; omega⟩
      have d1 : decide ((i : Int) < (nk : Int) - 1) = false := decide_eq_false (by omega)
      go_upto_region 8 with fail
      refine wp_world (fun U => SpW w U s.leaf K nk ck V nv cv D nd cd) hS ?_
      clear hS B0c
      rintro W8 hS
      have B0c := hS.box.cells
      have P1 := Lib.hid (part_any s (HR.out.below hS.below.drew (Nat.le_refl _)) 0 i (Nat.zero_le _) (by omega))
      have hmx2 := hmx.out
      have hi6 : i ≤ mostN s := by have := HMz.out.2; omega
      have HI6 := Lib.hid hi6
      clear hi6 B0c
      refine wp_region_last (S := fun w' => w'.cell? ⟨w.heap.size, 0, none⟩ = some (.bool s.leaf) ∧ w'.cell? ⟨w.heap.size, 1, none⟩ = some (.slice K nk ck) ∧ w'.cell? ⟨w.heap.size, 2, none⟩ = some (.slice V nv cv) ∧ w'.cell? ⟨w.heap.size, 3, none⟩ = some (.slice D nd cd)) 15 (by kernel_rfl) rfl (by kernel_rfl) ?_ ?_
      · exact ⟨hS.box.cell 0, hS.box.cell 1, hS.box.cell 2, hS.box.cell 3⟩
      intro hHeld
      simp only [List.take_succ_cons, List.take_zero]
      refine wpAnyH_take (i := 0) (v := ?_) (by simp only [List.getElem?_toArray, List.getElem?_cons_succ, List.getElem?_cons_zero]; rfl) (by kernel_rfl) (by kernel_rfl) (by kernel_rfl) (fun _ _ _ h => h) (Or.inl ⟨by rfl, ?_⟩) hHeld ?_
      rotate_left
      · intro wz hSw; (try dsimp only at hSw); go_simp; try with_reducible rfl
      (try simp only [Act.put, List.setIfInBounds_toArray, List.set_cons_zero, List.set_cons_succ])
      refine wpAnyH_take (i := 1) (v := ?_) (by simp only [List.getElem?_toArray, List.getElem?_cons_succ, List.getElem?_cons_zero]; rfl) (by kernel_rfl) (by kernel_rfl) (by kernel_rfl) (fun _ _ _ h => h) (Or.inl ⟨by rfl, ?_⟩) hHeld ?_
      rotate_left
      · intro wz hSw; (try dsimp only at hSw); go_simp; try with_reducible rfl
      (try simp only [Act.put, List.setIfInBounds_toArray, List.set_cons_zero, List.set_cons_succ])
      refine wpAnyH_take (i := 3) (v := ?_) (by simp only [List.getElem?_toArray, List.getElem?_cons_succ, List.getElem?_cons_zero]; rfl) (by kernel_rfl) (by kernel_rfl) (by kernel_rfl) (fun _ _ _ h => h) (Or.inl ⟨by rfl, ?_⟩) hHeld ?_
      rotate_left
      · intro wz hSw; (try dsimp only at hSw); go_simp; try with_reducible rfl
      (try simp only [Act.put, List.setIfInBounds_toArray, List.set_cons_zero, List.set_cons_succ])
      refine wpAnyH_take (i := 4) (v := ?_) (by simp only [List.getElem?_toArray, List.getElem?_cons_succ, List.getElem?_cons_zero]; rfl) (by kernel_rfl) (by kernel_rfl) (by kernel_rfl) (fun _ _ _ h => h) (Or.inl ⟨by rfl, ?_⟩) hHeld ?_
      rotate_left
      · intro wz hSw; (try dsimp only at hSw); go_simp; try with_reducible rfl
      (try simp only [Act.put, List.setIfInBounds_toArray, List.set_cons_zero, List.set_cons_succ])
      refine wpAnyH_take (i := 5) (v := ?_) (by simp only [List.getElem?_toArray, List.getElem?_cons_succ, List.getElem?_cons_zero]; rfl) (by kernel_rfl) (by kernel_rfl) (by kernel_rfl) (fun _ _ _ h => h) (Or.inl ⟨by rfl, ?_⟩) hHeld ?_
      rotate_left
      · intro wz hSw; (try dsimp only at hSw); go_simp; try with_reducible rfl
      (try simp only [Act.put, List.setIfInBounds_toArray, List.set_cons_zero, List.set_cons_succ])
      refine wpAnyH_take (i := 6) (v := ?_) (by simp only [List.getElem?_toArray, List.getElem?_cons_succ, List.getElem?_cons_zero]; rfl) (by kernel_rfl) (by kernel_rfl) (by kernel_rfl) (fun _ _ _ h => h) (Or.inl ⟨by rfl, ?_⟩) hHeld ?_
      rotate_left
      · intro wz hSw; (try dsimp only at hSw); go_simp; try with_reducible rfl
      (try simp only [Act.put, List.setIfInBounds_toArray, List.set_cons_zero, List.set_cons_succ])
      refine wpAnyH_take (i := 7) (v := ?_) (by simp only [List.getElem?_toArray, List.getElem?_cons_succ, List.getElem?_cons_zero]; rfl) (by kernel_rfl) (by kernel_rfl) (by kernel_rfl) (fun _ _ _ h => h) (Or.inl ⟨by rfl, ?_⟩) hHeld ?_
      rotate_left
      · intro wz hSw; (try dsimp only at hSw); go_simp; try with_reducible rfl
      (try simp only [Act.put, List.setIfInBounds_toArray, List.set_cons_zero, List.set_cons_succ])
      refine wpAnyH_take (i := 8) (v := ?_) (by simp only [List.getElem?_toArray, List.getElem?_cons_succ, List.getElem?_cons_zero]; rfl) (by kernel_rfl) (by kernel_rfl) (by kernel_rfl) (fun _ _ _ h => h) (Or.inl ⟨by rfl, ?_⟩) hHeld ?_
      rotate_left
      · intro wz hSw; (try dsimp only at hSw); go_simp; try with_reducible rfl
      (try simp only [Act.put, List.setIfInBounds_toArray, List.set_cons_zero, List.set_cons_succ])
      refine wpAnyH_take (i := 9) (v := ?_) (by simp only [List.getElem?_toArray, List.getElem?_cons_succ, List.getElem?_cons_zero]; rfl) (by kernel_rfl) (by kernel_rfl) (by kernel_rfl) (fun _ _ _ h => h) (Or.inl ⟨by rfl, ?_⟩) hHeld ?_
      rotate_left
      · intro wz hSw; (try dsimp only at hSw); go_simp; try with_reducible rfl
      (try simp only [Act.put, List.setIfInBounds_toArray, List.set_cons_zero, List.set_cons_succ])
      refine wpAnyH_take (i := 10) (v := ?_) (by simp only [List.getElem?_toArray, List.getElem?_cons_succ, List.getElem?_cons_zero]; rfl) (by kernel_rfl) (by kernel_rfl) (by kernel_rfl) (fun _ _ _ h => h) (Or.inl ⟨by rfl, ?_⟩) hHeld ?_
      rotate_left
      · intro wz hSw; (try dsimp only at hSw); go_simp; try with_reducible rfl
      (try simp only [Act.put, List.setIfInBounds_toArray, List.set_cons_zero, List.set_cons_succ])
      refine wpAnyH_take (i := 11) (v := ?_) (by simp only [List.getElem?_toArray, List.getElem?_cons_succ, List.getElem?_cons_zero]; rfl) (by kernel_rfl) (by kernel_rfl) (by kernel_rfl) (fun _ _ _ h => h) (Or.inl ⟨by rfl, ?_⟩) hHeld ?_
      rotate_left
      · intro wz hSw; (try dsimp only at hSw); go_simp; try with_reducible rfl
      (try simp only [Act.put, List.setIfInBounds_toArray, List.set_cons_zero, List.set_cons_succ])
      refine wpAnyH_take (i := 12) (v := ?_) (by simp only [List.getElem?_toArray, List.getElem?_cons_succ, List.getElem?_cons_zero]; rfl) (by kernel_rfl) (by kernel_rfl) (by kernel_rfl) (fun _ _ _ h => h) (Or.inl ⟨by rfl, ?_⟩) hHeld ?_
      rotate_left
      · intro wz hSw; (try dsimp only at hSw); go_simp; try with_reducible rfl
      (try simp only [Act.put, List.setIfInBounds_toArray, List.set_cons_zero, List.set_cons_succ])
      refine wpAnyH_ready (rs := [2]) (by kernel_rfl) (by simp) ?_
      refine AllReadyH.cons (by simp only [List.getElem?_toArray, List.getElem?_cons_succ, List.getElem?_cons_zero]; rfl) (fun KK hK => ?_) AllReadyH.nil
      go_simp; ((with_reducible refine Calls.mono P1.out ?_); rintro e w5 ⟨A5, m5, c5, A6, m6, c6, A7, m7, c7, rfl, n5, hb5⟩; have S5 := hS.drew.under hb5); go_wp2_with fail
      refine hK.out _ _ ?_ (fun hHeld => ?_)
      · exact ⟨S5.box.cell 0, S5.box.cell 1, S5.box.cell 2, S5.box.cell 3⟩
      clear hK KK
      (try simp only [Act.put, List.setIfInBounds_toArray, List.set_cons_zero, List.set_cons_succ])
      have P2 := Lib.hid (part_any s (HR.out.below S5.below (Nat.le_refl _)) i (mostN s) HI6.out HMz.out.1)
      refine wpAnyH_ready (rs := [13]) (by kernel_rfl) (by simp) ?_
      refine AllReadyH.cons (by simp only [List.getElem?_toArray, List.getElem?_cons_succ, List.getElem?_cons_zero]; rfl) (fun KK hK => ?_) AllReadyH.nil
      go_simp; ((with_reducible refine Calls.mono P2.out ?_); rintro e w6 ⟨E5, p5, q5, E6, p6, q6, E7, p7, q7, rfl, n6, hb6⟩; have S6 := S5.under hb6; have oc := S6.one.cells; have of_ := S6.one.frees; have tc := S6.two.cells; have tf := S6.two.frees); go_wp2_with fail
      refine hK.out _ _ ?_ (fun hHeld => ?_)
      · exact ⟨S6.box.cell 0, S6.box.cell 1, S6.box.cell 2, S6.box.cell 3⟩
      clear hK KK
      (try simp only [Act.put, List.setIfInBounds_toArray, List.set_cons_zero, List.set_cons_succ])
      refine wpAnyH_ready (rs := [14]) (by kernel_rfl) (by simp) ?_
      refine AllReadyH.cons (by simp only [List.getElem?_toArray, List.getElem?_cons_succ, List.getElem?_cons_zero]; rfl) (fun KK hK => ?_) AllReadyH.nil
      go_simp
      refine hK.out _ _ ?_ (fun hHeld => ?_)
      · exact ⟨((((S6.box.far (by simp) _).far (by simp) _).far (by simp) _).far (by simp) _).cell 0, ((((S6.box.far (by simp) _).far (by simp) _).far (by simp) _).far (by simp) _).cell 1, ((((S6.box.far (by simp) _).far (by simp) _).far (by simp) _).far (by simp) _).cell 2, ((((S6.box.far (by simp) _).far (by simp) _).far (by simp) _).far (by simp) _).cell 3⟩
      clear hK KK
      (try simp only [Act.put, List.setIfInBounds_toArray, List.set_cons_zero, List.set_cons_succ])
      refine wpAnyH_done (by kernel_rfl) ?_ _
      simp only [lastQ]
      go_simp
      clear oc of_ tc tf hHeld hmx2
      go_wp2
      have z1 := hS.high
      have z5 := S5.high
      refine bodyPost_ret (results_nn rfl rfl rfl ((((((((S6.one.set_ 0 (.bool s.leaf)).set_ 1 (.slice A5 m5 c5)).set_ 2 (.slice A6 m6 c6)).set_ 3 (.slice A7 m7 c7)).far (by simp) _).far (by simp) _).far (by simp) _).far (by simp) _)
        ((((((((S6.two.far (by simp) _).far (by simp) _).far (by simp) _).far (by simp) _).set_ 0 (.bool s.leaf)).set_ 1 (.slice E5 p5 q5)).set_ 2 (.slice E6 p6 q6)).set_ 3 (.slice E7 p7 q7))) rfl ?_
      exact ⟨partN s 0 i, partN s i (mostN s), _, _, _, _, _, _, _, _, _, _, _, _, _, _, _, _, _, _, rfl, ((n5.below hb6 (Nat.le_refl _)).far8 (by simp; omega) (by simp; omega)).weak (by simp; omega), (n6.far8 (by omega) (by omega)).weak (by omega), .inr ⟨i, HI.out, rfl, rfl⟩,
        (((((((S6.below.setCell (by simp) _).setCell (by simp) _).setCell (by simp) _).setCell (by simp) _).setCell (by simp; omega) _).setCell (by simp; omega) _).setCell (by simp; omega) _).setCell (by simp; omega) _⟩

theorem split_any (s : Nd) {w : World} {lo : Nat} {K V D : Option Addr} {nk ck nv cv nd cd : Nat} (h : NdR w lo s K nk ck V nv cv D nd cd) :
    Calls Try.prog 48 #[.agg #[.bool s.leaf, .slice K nk ck, .slice V nv cv, .slice D nd cd]] w (SplitTo w s) := by
  by_cases hf : nk < 2
  · exact split_few s h hf
  · exact split_many s h (by omega)
end Go.Proofs.Ytdakohbfibcjeaa
namespace Go.Proofs.Ytdakohbfibcjeaa

/-- one key of a node, with what goes with it -/
def oneN (s : Nd) (i : Nat) : Nd := ⟨s.leaf, [kAt s i], if s.leaf = true ∧ i < s.vals.length then [vAt s i] else [], if s.leaf = false ∧ i < s.kids.length then [dAt s i] else []⟩
def lensN (s : Nd) : Prop := (s.leaf = true → s.vals.length = s.keys.length ∧ s.kids.length = 0) ∧ (s.leaf = false → s.kids.length = s.keys.length ∧ s.vals.length = 0)
def risesN (s : Nd) : Prop := ∀ i, 0 < i → i < s.keys.length → Op.bytesLess (kAt s (i - 1)).toList (kAt s i).toList = true
def onesN (s : Nd) : Prop := ∀ i, i < s.keys.length → mayN (oneN s i)

theorem one_key {s : Nd} {i : Nat} (h : mayN (oneN s i)) : (kAt s i).size ≤ 24 := (h.2.1 0 (by simp [oneN])).1
theorem one_leaf {s : Nd} {i : Nat} (h : mayN (oneN s i)) (hl : s.leaf = true) : kAt s i ≠ .empty ∧ (i < s.vals.length → (vAt s i).size ≤ 24) := by
  have h1 := h.2.2.1 hl
  refine ⟨h1.1, fun hi => ?_⟩
  have h2 := h1.2.2.2 0
  simp only [oneN, hl, hi, and_self, if_true, List.length_cons, List.length_nil] at h2
  exact h2 (by omega)
theorem one_inner {s : Nd} {i : Nat} (h : mayN (oneN s i)) (hl : s.leaf = false) (hi : i < s.kids.length) : 0 ≤ dAt s i ∧ dAt s i ≤ 65535 := by
  have h1 := h.2.2.2 hl
  have h2 := h1.2.2 0
  simp only [oneN, hl, hi, and_self, if_true, List.length_cons, List.length_nil] at h2
  exact h2 (by omega)
theorem one_each {s : Nd} {i : Nat} (h : mayN (oneN s i)) : eachN s i ≤ 50 := by
  have h1 := one_key h
  unfold eachN
  cases hl : s.leaf with
  | true =>
    simp only [if_true]
    split
    · rename_i hv
      have := (one_leaf h hl).2 hv
      omega
    · omega
  | false =>
    simp only [Bool.false_eq_true, if_false]
    split <;> omega
theorem ones_size {s : Nd} (h : onesN s) (k : Nat) (hk : k ≤ s.keys.length) : sizeTo s k ≤ 1 + 50 * k := by
  induction k with
  | zero => simp [sizeTo]
  | succ k ih =>
    have := ih (by omega)
    have := one_each (h k (by omega))
    simp only [sizeTo]
    omega
theorem szV_small {n : Nat} (h : n ≤ 9223372036854775807) : szV n = n := by
  unfold szV
  rw [IntWalk.i64_in _ (by omega)]
theorem each_part (s : Nd) (a b i : Nat) (h : a + i < b) : eachN (partN s a b) i = eachN s (a + i) := by
  have hv : (i < (partN s a b).vals.length) ↔ (a + i < s.vals.length) := by simp only [partN, List.length_drop, List.length_take]; omega
  have hd : (i < (partN s a b).kids.length) ↔ (a + i < s.kids.length) := by simp only [partN, List.length_drop, List.length_take]; omega
  unfold eachN
  rw [kAt_part s a b i h, vAt_part s a b i h]
  simp only [hv, hd]
  rfl
theorem sizeTo_part (s : Nd) (a b k : Nat) (h : a + k ≤ b) : sizeTo (partN s a b) k + sizeTo s a = sizeTo s (a + k) + 1 := by
  induction k with
  | zero => simp [sizeTo]; omega
  | succ k ih =>
    have := ih (by omega)
    rw [sizeTo, each_part s a b k (by omega), ← Nat.add_assoc, sizeTo]
    omega
theorem may_part {s : Nd} (hl : lensN s) (hr : risesN s) (ho : onesN s) (a b e : Nat) (he : e = min b s.keys.length) (hae : a < e) (hz : sizeTo s e + 1 ≤ 240 + sizeTo s a) : mayN (partN s a b) := by
  have hk : (partN s a b).keys.length = e - a := by simp only [partN, List.length_drop, List.length_take]; omega
  have hsz : sizeN (partN s a b) + sizeTo s a = sizeTo s e + 1 := by
    unfold sizeN
    rw [hk, sizeTo_part s a b (e - a) (by omega), show a + (e - a) = e by omega]
  have hm := sizeTo_le s (show a ≤ e by omega)
  refine ⟨⟨by omega, ?_⟩, fun i hi => ⟨?_, fun h0 => ?_⟩, fun hlf => ?_, fun hlf => ?_⟩
  · rw [szV_small (by omega)]
    omega
  · rw [kAt_part s a b i (by omega)]
    exact one_key (ho (a + i) (by omega))
  · rw [kAt_part s a b i (by omega), kAt_part s a b (i - 1) (by omega), show a + (i - 1) = a + i - 1 by omega]
    exact hr (a + i) (by omega) (by omega)
  · have hlf : s.leaf = true := hlf
    obtain ⟨l1, l2⟩ := hl.1 hlf
    refine ⟨?_, ?_, ?_, fun i hi => ?_⟩
    · rw [kAt_part s a b 0 (by omega)]
      exact (one_leaf (ho (a + 0) (by omega)) hlf).1
    · simp only [partN, List.length_drop, List.length_take]; omega
    · simp only [partN, List.length_drop, List.length_take]; omega
    · simp only [partN, List.length_drop, List.length_take] at hi
      have := vAt_part s a b i (by omega)
      unfold vAt at this
      rw [this]
      exact (one_leaf (ho (a + i) (by omega)) hlf).2 (by omega)
  · have hlf : s.leaf = false := hlf
    obtain ⟨l1, l2⟩ := hl.2 hlf
    refine ⟨?_, ?_, fun i hi => ?_⟩
    · simp only [partN, List.length_drop, List.length_take]; omega
    · simp only [partN, List.length_drop, List.length_take]; omega
    · simp only [partN, List.length_drop, List.length_take] at hi
      have := dAt_part s a b i (by omega)
      unfold dAt at this
      rw [this]
      exact one_inner (ho (a + i) (by omega)) hlf (by omega)

theorem halves_may {s p q : Nd} (hk : s.keys.length ≤ 8796093022208) (h1 : 240 < szV (sizeN s)) (h2 : szV (sizeN s) ≤ 292) (hl : lensN s) (hr : risesN s) (ho : onesN s) (hs : SplitN s p q) : mayN p ∧ mayN q := by
  have hz := ones_size ho s.keys.length (Nat.le_refl _)
  have hsz : sizeN s = sizeTo s s.keys.length := rfl
  rw [szV_small (by omega)] at h1 h2
  have hmost : mostN s = s.keys.length := by
    unfold mostN
    cases hlf : s.leaf with
    | true => have := hl.1 hlf; omega
    | false => have := hl.2 hlf; omega
  have hhalf : halfN s = ((sizeN s / 2 : Nat) : Int) := by
    unfold halfN
    rw [szV_small (by omega), Int.tdiv_eq_ediv_of_nonneg (by omega)]
    rfl
  rcases hs with ⟨hf, rfl, rfl⟩ | ⟨m, ⟨m1, m2, m3, m4⟩, rfl, rfl⟩
  · omega
  · have e1 : ∀ k, k ≤ s.keys.length → szV (sizeTo s k) = (sizeTo s k : Nat) := fun k hk' => szV_small (by have := sizeTo_le s hk'; omega)
    have hm0 : sizeTo s 0 = 1 := rfl
    have hstep : ∀ k, k < s.keys.length → sizeTo s (k + 1) ≤ sizeTo s k + 50 := fun k hk' => by have := one_each (ho k hk'); simp only [sizeTo]; omega
    have hle := sizeTo_le s (Nat.le_of_lt m2)
    have hone : sizeTo s 1 ≤ 51 := by have h0 := hstep 0 (by omega); rw [Nat.zero_add] at h0; omega
    have htop : sizeTo s m ≤ 200 := by
      by_cases hm : m = 1
      · rw [hm]; omega
      · have a1 := m3 (m - 1) (by omega) (by omega)
        rw [e1 _ (by omega), hhalf] at a1
        have a2 := hstep (m - 1) (by omega)
        rw [show m - 1 + 1 = m by omega] at a2
        omega
    have hlow : sizeTo s s.keys.length ≤ sizeTo s m + 180 := by
      by_cases hm : m + 1 < s.keys.length
      · have a1 := m4 hm
        rw [e1 _ (by omega), hhalf] at a1
        omega
      · have a2 := hstep m m2
        rw [show m + 1 = s.keys.length by omega] at a2
        omega
    refine ⟨may_part hl hr ho 0 m m (by omega) (by omega) (by omega), ?_⟩
    rw [hmost]
    exact may_part hl hr ho m s.keys.length s.keys.length (by omega) m2 (by omega)
end Go.Proofs.Ytdakohbfibcjeaa
