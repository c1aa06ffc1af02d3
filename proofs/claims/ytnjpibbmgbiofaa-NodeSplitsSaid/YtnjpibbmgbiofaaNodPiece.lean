/- A part of a list in memory of its own: node.piece. (Printed by gen_nodpiece.py.) Condition: no longer than memory. -/
import Derived.Test.YtnjpibbmgbiofaaNodL
namespace Go.Proofs.Ytnjpibbmgbiofaa
open Go.RowKit
set_option linter.unusedSimpArgs false
set_option linter.unusedVariables false
set_option maxHeartbeats 1000000

theorem ls_cut {w : World} {lo b o n c : Nat} {xs : List Value} (h : Ls w lo (some ⟨b, o, none⟩) n c xs) (i j : Nat) (hij : i ≤ j) (hj : j ≤ n) : Rd w lo (some ⟨b, o + i, none⟩) ((xs.take j).drop i) := by
  obtain ⟨h1, h2, h3, h4⟩ := h
  intro hn
  simp only [List.length_drop, List.length_take] at hn
  obtain ⟨b', o', e, hl, hb, hc⟩ := h4 (by omega)
  injection e with e
  injection e with e1 e2
  subst e1 e2
  refine ⟨b, o + i, rfl, hl, hb, fun k hk => ?_⟩
  simp only [List.length_drop, List.length_take] at hk
  rw [Nat.add_assoc, hc (i + k) (by omega)]
  simp

theorem piece_str_nil {A : Option Addr} {n c lo : Nat} {l : List ByteArray} {w : World} (h : Ls w lo A n c (sl l)) (hn : n ≤ 8796093022208) (a b : Nat) (hab : a ≤ b) (hb : b ≤ 4611686018427387904) (hna : n ≤ a) :
    Calls Try.prog 42 #[.slice A n c, .int .i64 a, .int .i64 b] w fun e w' => ∃ A' m' c', e = .returned (.slice A' m' c') ∧ Own w' w.heap.size 9 1 A' m' c' (sl []) ∧ Below w.heap.size w w' := by
  have hc1 := h.2.1
  have hc2 := h.2.2.1
  have hl : l.length = n := by have := h.1; rwa [length_sl] at this
  rcases Nat.lt_or_eq_of_le hna with h1 | h1
  · have h2 : n < b := by omega
    have HB := Lib.hid hb
    rcases Nat.eq_zero_or_pos n with h0 | h0
    · subst h0
      clear h hl hb
      go_enter Try.func42, Try.ntmps42
      go_upto_region 99 with (at_builtin; refine wpList_app rfl (.const (.slice none 0 0)) (.tmp 18) 22 rfl 9 1 Try.underlying22 info9 rfl (by omega) rfl (Own.nil_ w w.heap.size 9 1) rfl (show Rd w 0 _ (sl []) from Rd.nil_) (by simp) (sl_oneCell _) (by omega) (by omega) (Nat.le_refl _) ?_; intro K1 ck1 w1 ho1 hg1 _; rw [Nat.zero_add, List.nil_append] at ho1; rw [Nat.zero_add])
      go_wp2
      go_ret
      exact ⟨_, _, _, rfl, ho1, (Below.refl _ _).grown hg1 (Nat.le_refl _) (by simp)⟩
    · obtain ⟨b0, o0, rfl, _, _⟩ := h.at_ h0
      clear h hl hb
      by_cases hcn : c = n
      · subst hcn
        go_enter Try.func42, Try.ntmps42
        go_upto_region 99 with (at_builtin; refine wpList_app rfl (.const (.slice none 0 0)) (.tmp 18) 22 rfl 9 1 Try.underlying22 info9 rfl (by omega) rfl (Own.nil_ w w.heap.size 9 1) rfl (show Rd w 0 _ (sl []) from Rd.nil_) (by simp) (sl_oneCell _) (by omega) (by omega) (Nat.le_refl _) ?_; intro K1 ck1 w1 ho1 hg1 _; rw [Nat.zero_add, List.nil_append] at ho1; rw [Nat.zero_add])
        go_wp2
        go_ret
        exact ⟨_, _, _, rfl, ho1, (Below.refl _ _).grown hg1 (Nat.le_refl _) (by simp)⟩
      · skip
        go_enter Try.func42, Try.ntmps42
        go_upto_region 99 with (at_builtin; refine wpList_app rfl (.const (.slice none 0 0)) (.tmp 18) 22 rfl 9 1 Try.underlying22 info9 rfl (by omega) rfl (Own.nil_ w w.heap.size 9 1) rfl (show Rd w 0 _ (sl []) from Rd.nil_) (by simp) (sl_oneCell _) (by omega) (by omega) (Nat.le_refl _) ?_; intro K1 ck1 w1 ho1 hg1 _; rw [Nat.zero_add, List.nil_append] at ho1; rw [Nat.zero_add])
        go_wp2
        go_ret
        exact ⟨_, _, _, rfl, ho1, (Below.refl _ _).grown hg1 (Nat.le_refl _) (by simp)⟩
  · subst h1
    rcases Nat.lt_or_eq_of_le hab with h2 | h2
    · have HB := Lib.hid hb
      rcases Nat.eq_zero_or_pos n with h0 | h0
      · subst h0
        clear h hl hb
        go_enter Try.func42, Try.ntmps42
        go_upto_region 99 with (at_builtin; refine wpList_app rfl (.const (.slice none 0 0)) (.tmp 18) 22 rfl 9 1 Try.underlying22 info9 rfl (by omega) rfl (Own.nil_ w w.heap.size 9 1) rfl (show Rd w 0 _ (sl []) from Rd.nil_) (by simp) (sl_oneCell _) (by omega) (by omega) (Nat.le_refl _) ?_; intro K1 ck1 w1 ho1 hg1 _; rw [Nat.zero_add, List.nil_append] at ho1; rw [Nat.zero_add])
        go_wp2
        go_ret
        exact ⟨_, _, _, rfl, ho1, (Below.refl _ _).grown hg1 (Nat.le_refl _) (by simp)⟩
      · obtain ⟨b0, o0, rfl, _, _⟩ := h.at_ h0
        clear h hl hb
        by_cases hcn : c = n
        · subst hcn
          go_enter Try.func42, Try.ntmps42
          go_upto_region 99 with (at_builtin; refine wpList_app rfl (.const (.slice none 0 0)) (.tmp 18) 22 rfl 9 1 Try.underlying22 info9 rfl (by omega) rfl (Own.nil_ w w.heap.size 9 1) rfl (show Rd w 0 _ (sl []) from Rd.nil_) (by simp) (sl_oneCell _) (by omega) (by omega) (Nat.le_refl _) ?_; intro K1 ck1 w1 ho1 hg1 _; rw [Nat.zero_add, List.nil_append] at ho1; rw [Nat.zero_add])
          go_wp2
          go_ret
          exact ⟨_, _, _, rfl, ho1, (Below.refl _ _).grown hg1 (Nat.le_refl _) (by simp)⟩
        · skip
          go_enter Try.func42, Try.ntmps42
          go_upto_region 99 with (at_builtin; refine wpList_app rfl (.const (.slice none 0 0)) (.tmp 18) 22 rfl 9 1 Try.underlying22 info9 rfl (by omega) rfl (Own.nil_ w w.heap.size 9 1) rfl (show Rd w 0 _ (sl []) from Rd.nil_) (by simp) (sl_oneCell _) (by omega) (by omega) (Nat.le_refl _) ?_; intro K1 ck1 w1 ho1 hg1 _; rw [Nat.zero_add, List.nil_append] at ho1; rw [Nat.zero_add])
          go_wp2
          go_ret
          exact ⟨_, _, _, rfl, ho1, (Below.refl _ _).grown hg1 (Nat.le_refl _) (by simp)⟩
    · subst h2
      have HB := Lib.hid hb
      rcases Nat.eq_zero_or_pos n with h0 | h0
      · subst h0
        clear h hl hb
        go_enter Try.func42, Try.ntmps42
        go_upto_region 99 with (at_builtin; refine wpList_app rfl (.const (.slice none 0 0)) (.tmp 18) 22 rfl 9 1 Try.underlying22 info9 rfl (by omega) rfl (Own.nil_ w w.heap.size 9 1) rfl (show Rd w 0 _ (sl []) from Rd.nil_) (by simp) (sl_oneCell _) (by omega) (by omega) (Nat.le_refl _) ?_; intro K1 ck1 w1 ho1 hg1 _; rw [Nat.zero_add, List.nil_append] at ho1; rw [Nat.zero_add])
        go_wp2
        go_ret
        exact ⟨_, _, _, rfl, ho1, (Below.refl _ _).grown hg1 (Nat.le_refl _) (by simp)⟩
      · obtain ⟨b0, o0, rfl, _, _⟩ := h.at_ h0
        clear h hl hb
        by_cases hcn : c = n
        · subst hcn
          go_enter Try.func42, Try.ntmps42
          go_upto_region 99 with (at_builtin; refine wpList_app rfl (.const (.slice none 0 0)) (.tmp 18) 22 rfl 9 1 Try.underlying22 info9 rfl (by omega) rfl (Own.nil_ w w.heap.size 9 1) rfl (show Rd w 0 _ (sl []) from Rd.nil_) (by simp) (sl_oneCell _) (by omega) (by omega) (Nat.le_refl _) ?_; intro K1 ck1 w1 ho1 hg1 _; rw [Nat.zero_add, List.nil_append] at ho1; rw [Nat.zero_add])
          go_wp2
          go_ret
          exact ⟨_, _, _, rfl, ho1, (Below.refl _ _).grown hg1 (Nat.le_refl _) (by simp)⟩
        · skip
          go_enter Try.func42, Try.ntmps42
          go_upto_region 99 with (at_builtin; refine wpList_app rfl (.const (.slice none 0 0)) (.tmp 18) 22 rfl 9 1 Try.underlying22 info9 rfl (by omega) rfl (Own.nil_ w w.heap.size 9 1) rfl (show Rd w 0 _ (sl []) from Rd.nil_) (by simp) (sl_oneCell _) (by omega) (by omega) (Nat.le_refl _) ?_; intro K1 ck1 w1 ho1 hg1 _; rw [Nat.zero_add, List.nil_append] at ho1; rw [Nat.zero_add])
          go_wp2
          go_ret
          exact ⟨_, _, _, rfl, ho1, (Below.refl _ _).grown hg1 (Nat.le_refl _) (by simp)⟩

theorem piece_str {A : Option Addr} {n c lo : Nat} {l : List ByteArray} {w : World} (h : Ls w lo A n c (sl l)) (hn : n ≤ 8796093022208) (a b : Nat) (hab : a ≤ b) (hb : b ≤ 4611686018427387904) :
    Calls Try.prog 42 #[.slice A n c, .int .i64 a, .int .i64 b] w fun e w' => ∃ A' m' c', e = .returned (.slice A' m' c') ∧ Own w' w.heap.size 9 1 A' m' c' (sl ((l.take b).drop a)) ∧ Below w.heap.size w w' := by
  have hc1 := h.2.1
  have hc2 := h.2.2.1
  have hl : l.length = n := by have := h.1; rwa [length_sl] at this
  by_cases hna : n ≤ a
  · have he : (l.take b).drop a = [] := by rw [List.drop_eq_nil_iff, List.length_take]; omega
    rw [he]
    exact piece_str_nil h hn a b hab hb hna
  · obtain ⟨b0, o0, rfl, _, _⟩ := h.at_ (by omega)
    have hca : ¬ c = a := by omega
    have han : a < n := by omega
    have hd := Lib.hid (ls_cut h a (min b n) (by omega) (by omega))
    have he : Hid (((sl l).take (min b n)).drop a = sl ((l.take b).drop a)) := by
      show _ = _
      rw [sl, sl, List.map_drop, List.map_take]
      congr 1
      rw [List.take_eq_take_iff]
      simp
      omega
    have hlen : Hid ((sl ((l.take b).drop a)).length = min b n - a) := by show _ = _; rw [length_sl, List.length_drop, List.length_take]; omega
    rw [he.out] at hd
    clear h hl he hna
    rcases Nat.lt_trichotomy n b with h2 | h2 | h2
    · have hlen2 : Hid ((sl ((l.take b).drop a)).length = n - a) := by show _ = _; rw [hlen.out]; omega
      clear hlen
      go_enter Try.func42, Try.ntmps42
      go_upto_region 99 with (at_builtin; refine wpList_app rfl (.const (.slice none 0 0)) (.tmp 18) 22 rfl 9 1 Try.underlying22 info9 rfl (by omega) rfl (Own.nil_ w w.heap.size 9 1) rfl hd.out (by rw [hlen2.out]; omega) (sl_oneCell _) (by omega) (by omega) (Nat.le_refl _) ?_; intro K1 ck1 w1 ho1 hg1 _; rw [Nat.zero_add, List.nil_append] at ho1; rw [Nat.zero_add])
      go_wp2
      go_ret
      exact ⟨_, _, _, rfl, ho1, (Below.refl _ _).grown hg1 (Nat.le_refl _) (by simp)⟩
    · have hlen2 : Hid ((sl ((l.take b).drop a)).length = n - a) := by show _ = _; rw [hlen.out]; omega
      clear hlen
      subst h2
      go_enter Try.func42, Try.ntmps42
      go_upto_region 99 with (at_builtin; refine wpList_app rfl (.const (.slice none 0 0)) (.tmp 18) 22 rfl 9 1 Try.underlying22 info9 rfl (by omega) rfl (Own.nil_ w w.heap.size 9 1) rfl hd.out (by rw [hlen2.out]; omega) (sl_oneCell _) (by omega) (by omega) (Nat.le_refl _) ?_; intro K1 ck1 w1 ho1 hg1 _; rw [Nat.zero_add, List.nil_append] at ho1; rw [Nat.zero_add])
      go_wp2
      go_ret
      exact ⟨_, _, _, rfl, ho1, (Below.refl _ _).grown hg1 (Nat.le_refl _) (by simp)⟩
    · have hlen2 : Hid ((sl ((l.take b).drop a)).length = b - a) := by show _ = _; rw [hlen.out]; omega
      clear hlen
      go_enter Try.func42, Try.ntmps42
      go_upto_region 99 with (at_builtin; refine wpList_app rfl (.const (.slice none 0 0)) (.tmp 18) 22 rfl 9 1 Try.underlying22 info9 rfl (by omega) rfl (Own.nil_ w w.heap.size 9 1) rfl hd.out (by rw [hlen2.out]; omega) (sl_oneCell _) (by omega) (by omega) (Nat.le_refl _) ?_; intro K1 ck1 w1 ho1 hg1 _; rw [Nat.zero_add, List.nil_append] at ho1; rw [Nat.zero_add])
      go_wp2
      go_ret
      exact ⟨_, _, _, rfl, ho1, (Below.refl _ _).grown hg1 (Nat.le_refl _) (by simp)⟩

theorem piece_int_nil {A : Option Addr} {n c lo : Nat} {l : List Int} {w : World} (h : Ls w lo A n c (il l)) (hn : n ≤ 17592186044416) (a b : Nat) (hab : a ≤ b) (hb : b ≤ 4611686018427387904) (hna : n ≤ a) :
    Calls Try.prog 43 #[.slice A n c, .int .i64 a, .int .i64 b] w fun e w' => ∃ A' m' c', e = .returned (.slice A' m' c') ∧ Own w' w.heap.size 3 1 A' m' c' (il []) ∧ Below w.heap.size w w' := by
  have hc1 := h.2.1
  have hc2 := h.2.2.1
  have hl : l.length = n := by have := h.1; rwa [length_il] at this
  rcases Nat.lt_or_eq_of_le hna with h1 | h1
  · have h2 : n < b := by omega
    have HB := Lib.hid hb
    rcases Nat.eq_zero_or_pos n with h0 | h0
    · subst h0
      clear h hl hb
      go_enter Try.func43, Try.ntmps43
      go_upto_region 99 with (at_builtin; refine wpList_app rfl (.const (.slice none 0 0)) (.tmp 18) 23 rfl 3 1 Try.underlying23 info3 rfl (by omega) rfl (Own.nil_ w w.heap.size 3 1) rfl (show Rd w 0 _ (il []) from Rd.nil_) (by simp) (il_oneCell _) (by omega) (by omega) (Nat.le_refl _) ?_; intro K1 ck1 w1 ho1 hg1 _; rw [Nat.zero_add, List.nil_append] at ho1; rw [Nat.zero_add])
      go_wp2
      go_ret
      exact ⟨_, _, _, rfl, ho1, (Below.refl _ _).grown hg1 (Nat.le_refl _) (by simp)⟩
    · obtain ⟨b0, o0, rfl, _, _⟩ := h.at_ h0
      clear h hl hb
      by_cases hcn : c = n
      · subst hcn
        go_enter Try.func43, Try.ntmps43
        go_upto_region 99 with (at_builtin; refine wpList_app rfl (.const (.slice none 0 0)) (.tmp 18) 23 rfl 3 1 Try.underlying23 info3 rfl (by omega) rfl (Own.nil_ w w.heap.size 3 1) rfl (show Rd w 0 _ (il []) from Rd.nil_) (by simp) (il_oneCell _) (by omega) (by omega) (Nat.le_refl _) ?_; intro K1 ck1 w1 ho1 hg1 _; rw [Nat.zero_add, List.nil_append] at ho1; rw [Nat.zero_add])
        go_wp2
        go_ret
        exact ⟨_, _, _, rfl, ho1, (Below.refl _ _).grown hg1 (Nat.le_refl _) (by simp)⟩
      · skip
        go_enter Try.func43, Try.ntmps43
        go_upto_region 99 with (at_builtin; refine wpList_app rfl (.const (.slice none 0 0)) (.tmp 18) 23 rfl 3 1 Try.underlying23 info3 rfl (by omega) rfl (Own.nil_ w w.heap.size 3 1) rfl (show Rd w 0 _ (il []) from Rd.nil_) (by simp) (il_oneCell _) (by omega) (by omega) (Nat.le_refl _) ?_; intro K1 ck1 w1 ho1 hg1 _; rw [Nat.zero_add, List.nil_append] at ho1; rw [Nat.zero_add])
        go_wp2
        go_ret
        exact ⟨_, _, _, rfl, ho1, (Below.refl _ _).grown hg1 (Nat.le_refl _) (by simp)⟩
  · subst h1
    rcases Nat.lt_or_eq_of_le hab with h2 | h2
    · have HB := Lib.hid hb
      rcases Nat.eq_zero_or_pos n with h0 | h0
      · subst h0
        clear h hl hb
        go_enter Try.func43, Try.ntmps43
        go_upto_region 99 with (at_builtin; refine wpList_app rfl (.const (.slice none 0 0)) (.tmp 18) 23 rfl 3 1 Try.underlying23 info3 rfl (by omega) rfl (Own.nil_ w w.heap.size 3 1) rfl (show Rd w 0 _ (il []) from Rd.nil_) (by simp) (il_oneCell _) (by omega) (by omega) (Nat.le_refl _) ?_; intro K1 ck1 w1 ho1 hg1 _; rw [Nat.zero_add, List.nil_append] at ho1; rw [Nat.zero_add])
        go_wp2
        go_ret
        exact ⟨_, _, _, rfl, ho1, (Below.refl _ _).grown hg1 (Nat.le_refl _) (by simp)⟩
      · obtain ⟨b0, o0, rfl, _, _⟩ := h.at_ h0
        clear h hl hb
        by_cases hcn : c = n
        · subst hcn
          go_enter Try.func43, Try.ntmps43
          go_upto_region 99 with (at_builtin; refine wpList_app rfl (.const (.slice none 0 0)) (.tmp 18) 23 rfl 3 1 Try.underlying23 info3 rfl (by omega) rfl (Own.nil_ w w.heap.size 3 1) rfl (show Rd w 0 _ (il []) from Rd.nil_) (by simp) (il_oneCell _) (by omega) (by omega) (Nat.le_refl _) ?_; intro K1 ck1 w1 ho1 hg1 _; rw [Nat.zero_add, List.nil_append] at ho1; rw [Nat.zero_add])
          go_wp2
          go_ret
          exact ⟨_, _, _, rfl, ho1, (Below.refl _ _).grown hg1 (Nat.le_refl _) (by simp)⟩
        · skip
          go_enter Try.func43, Try.ntmps43
          go_upto_region 99 with (at_builtin; refine wpList_app rfl (.const (.slice none 0 0)) (.tmp 18) 23 rfl 3 1 Try.underlying23 info3 rfl (by omega) rfl (Own.nil_ w w.heap.size 3 1) rfl (show Rd w 0 _ (il []) from Rd.nil_) (by simp) (il_oneCell _) (by omega) (by omega) (Nat.le_refl _) ?_; intro K1 ck1 w1 ho1 hg1 _; rw [Nat.zero_add, List.nil_append] at ho1; rw [Nat.zero_add])
          go_wp2
          go_ret
          exact ⟨_, _, _, rfl, ho1, (Below.refl _ _).grown hg1 (Nat.le_refl _) (by simp)⟩
    · subst h2
      have HB := Lib.hid hb
      rcases Nat.eq_zero_or_pos n with h0 | h0
      · subst h0
        clear h hl hb
        go_enter Try.func43, Try.ntmps43
        go_upto_region 99 with (at_builtin; refine wpList_app rfl (.const (.slice none 0 0)) (.tmp 18) 23 rfl 3 1 Try.underlying23 info3 rfl (by omega) rfl (Own.nil_ w w.heap.size 3 1) rfl (show Rd w 0 _ (il []) from Rd.nil_) (by simp) (il_oneCell _) (by omega) (by omega) (Nat.le_refl _) ?_; intro K1 ck1 w1 ho1 hg1 _; rw [Nat.zero_add, List.nil_append] at ho1; rw [Nat.zero_add])
        go_wp2
        go_ret
        exact ⟨_, _, _, rfl, ho1, (Below.refl _ _).grown hg1 (Nat.le_refl _) (by simp)⟩
      · obtain ⟨b0, o0, rfl, _, _⟩ := h.at_ h0
        clear h hl hb
        by_cases hcn : c = n
        · subst hcn
          go_enter Try.func43, Try.ntmps43
          go_upto_region 99 with (at_builtin; refine wpList_app rfl (.const (.slice none 0 0)) (.tmp 18) 23 rfl 3 1 Try.underlying23 info3 rfl (by omega) rfl (Own.nil_ w w.heap.size 3 1) rfl (show Rd w 0 _ (il []) from Rd.nil_) (by simp) (il_oneCell _) (by omega) (by omega) (Nat.le_refl _) ?_; intro K1 ck1 w1 ho1 hg1 _; rw [Nat.zero_add, List.nil_append] at ho1; rw [Nat.zero_add])
          go_wp2
          go_ret
          exact ⟨_, _, _, rfl, ho1, (Below.refl _ _).grown hg1 (Nat.le_refl _) (by simp)⟩
        · skip
          go_enter Try.func43, Try.ntmps43
          go_upto_region 99 with (at_builtin; refine wpList_app rfl (.const (.slice none 0 0)) (.tmp 18) 23 rfl 3 1 Try.underlying23 info3 rfl (by omega) rfl (Own.nil_ w w.heap.size 3 1) rfl (show Rd w 0 _ (il []) from Rd.nil_) (by simp) (il_oneCell _) (by omega) (by omega) (Nat.le_refl _) ?_; intro K1 ck1 w1 ho1 hg1 _; rw [Nat.zero_add, List.nil_append] at ho1; rw [Nat.zero_add])
          go_wp2
          go_ret
          exact ⟨_, _, _, rfl, ho1, (Below.refl _ _).grown hg1 (Nat.le_refl _) (by simp)⟩

theorem piece_int {A : Option Addr} {n c lo : Nat} {l : List Int} {w : World} (h : Ls w lo A n c (il l)) (hn : n ≤ 17592186044416) (a b : Nat) (hab : a ≤ b) (hb : b ≤ 4611686018427387904) :
    Calls Try.prog 43 #[.slice A n c, .int .i64 a, .int .i64 b] w fun e w' => ∃ A' m' c', e = .returned (.slice A' m' c') ∧ Own w' w.heap.size 3 1 A' m' c' (il ((l.take b).drop a)) ∧ Below w.heap.size w w' := by
  have hc1 := h.2.1
  have hc2 := h.2.2.1
  have hl : l.length = n := by have := h.1; rwa [length_il] at this
  by_cases hna : n ≤ a
  · have he : (l.take b).drop a = [] := by rw [List.drop_eq_nil_iff, List.length_take]; omega
    rw [he]
    exact piece_int_nil h hn a b hab hb hna
  · obtain ⟨b0, o0, rfl, _, _⟩ := h.at_ (by omega)
    have hca : ¬ c = a := by omega
    have han : a < n := by omega
    have hd := Lib.hid (ls_cut h a (min b n) (by omega) (by omega))
    have he : Hid (((il l).take (min b n)).drop a = il ((l.take b).drop a)) := by
      show _ = _
      rw [il, il, List.map_drop, List.map_take]
      congr 1
      rw [List.take_eq_take_iff]
      simp
      omega
    have hlen : Hid ((il ((l.take b).drop a)).length = min b n - a) := by show _ = _; rw [length_il, List.length_drop, List.length_take]; omega
    rw [he.out] at hd
    clear h hl he hna
    rcases Nat.lt_trichotomy n b with h2 | h2 | h2
    · have hlen2 : Hid ((il ((l.take b).drop a)).length = n - a) := by show _ = _; rw [hlen.out]; omega
      clear hlen
      go_enter Try.func43, Try.ntmps43
      go_upto_region 99 with (at_builtin; refine wpList_app rfl (.const (.slice none 0 0)) (.tmp 18) 23 rfl 3 1 Try.underlying23 info3 rfl (by omega) rfl (Own.nil_ w w.heap.size 3 1) rfl hd.out (by rw [hlen2.out]; omega) (il_oneCell _) (by omega) (by omega) (Nat.le_refl _) ?_; intro K1 ck1 w1 ho1 hg1 _; rw [Nat.zero_add, List.nil_append] at ho1; rw [Nat.zero_add])
      go_wp2
      go_ret
      exact ⟨_, _, _, rfl, ho1, (Below.refl _ _).grown hg1 (Nat.le_refl _) (by simp)⟩
    · have hlen2 : Hid ((il ((l.take b).drop a)).length = n - a) := by show _ = _; rw [hlen.out]; omega
      clear hlen
      subst h2
      go_enter Try.func43, Try.ntmps43
      go_upto_region 99 with (at_builtin; refine wpList_app rfl (.const (.slice none 0 0)) (.tmp 18) 23 rfl 3 1 Try.underlying23 info3 rfl (by omega) rfl (Own.nil_ w w.heap.size 3 1) rfl hd.out (by rw [hlen2.out]; omega) (il_oneCell _) (by omega) (by omega) (Nat.le_refl _) ?_; intro K1 ck1 w1 ho1 hg1 _; rw [Nat.zero_add, List.nil_append] at ho1; rw [Nat.zero_add])
      go_wp2
      go_ret
      exact ⟨_, _, _, rfl, ho1, (Below.refl _ _).grown hg1 (Nat.le_refl _) (by simp)⟩
    · have hlen2 : Hid ((il ((l.take b).drop a)).length = b - a) := by show _ = _; rw [hlen.out]; omega
      clear hlen
      go_enter Try.func43, Try.ntmps43
      go_upto_region 99 with (at_builtin; refine wpList_app rfl (.const (.slice none 0 0)) (.tmp 18) 23 rfl 3 1 Try.underlying23 info3 rfl (by omega) rfl (Own.nil_ w w.heap.size 3 1) rfl hd.out (by rw [hlen2.out]; omega) (il_oneCell _) (by omega) (by omega) (Nat.le_refl _) ?_; intro K1 ck1 w1 ho1 hg1 _; rw [Nat.zero_add, List.nil_append] at ho1; rw [Nat.zero_add])
      go_wp2
      go_ret
      exact ⟨_, _, _, rfl, ho1, (Below.refl _ _).grown hg1 (Nat.le_refl _) (by simp)⟩
end Go.Proofs.Ytnjpibbmgbiofaa
