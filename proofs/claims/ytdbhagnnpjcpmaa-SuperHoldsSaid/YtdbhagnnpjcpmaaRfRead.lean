/- The reference's disk: Read, Dirty, Cuts. No condition. -/
import Derived.Test.YtdbhagnnpjcpmaaRfBase
import Derived.Test.YtdbhagnnpjcpmaaLibL
import Derived.Test.YtdbhagnnpjcpmaaDkRots
namespace Go.Proofs.Ytdbhagnnpjcpmaa
open Go.RowKit
set_option linter.unusedSimpArgs false
set_option linter.unusedVariables false

theorem size102 : (Try.prog.info? 92).map (·.size) = some 2 := by kernel_rfl
theorem two_one (A B : Option Addr) (a b c d : Nat) : ∀ u ∈ [Value.slice A a b, Value.slice B c d], u.oneCell' = true := by
  intro u hu
  simp at hu
  rcases hu with rfl | rfl <;> rfl
/-- a version's slice -/
theorem Rk.verAt {w : World} {base : Nat} {r : Rw} {s : Dsk} (h : Rk w base r s) {k q : Nat} (hk : k < s.n) (hq : q < (s.vers k).length) :
    ∃ b A c, (r.v k).vA = some ⟨b, 0, none⟩ ∧ w.cell? ⟨b, q, none⟩ = some (.slice A 256 c) ∧ Own w base 5 1 A 256 c (bvs ((s.vers k).getD q [])) := by
  obtain ⟨ho, hs⟩ := h.vers k hk
  have hl := all2_len hs
  obtain ⟨b, hA, _, _, hc, _⟩ := ho.cell (k := q) (by omega)
  obtain ⟨A, n, c, e, hown⟩ := all2_get hs (k := q) (by omega) hq
  have hx : (s.vers k).getD q [] = (s.vers k)[q] := by rw [List.getD_eq_getElem?_getD, List.getElem?_eq_getElem hq]; rfl
  have hn : n = 256 := by
    have h1 := hown.len1
    rw [length_bvs, (h.len k hk).2 _ (List.getElem_mem _)] at h1
    exact h1.symm
  subst hn
  exact ⟨b, A, c, hA, by rw [hc, e], by rw [hx]; exact hown⟩

set_option maxRecDepth 100000 in
set_option maxHeartbeats 4000000 in
theorem rread_ok {w : World} {base : Nat} {r : Rw} {s : Dsk} (h : Rk w base r s) {k : Nat} (hk : k < s.n) :
    Calls Try.prog 58 #[.pointer (some ⟨r.g, 0, none⟩), .int .i64 k] w fun e w' => ∃ A c, e = .returned (.tuple #[.slice A 256 c, .int .i64 0]) ∧ Own w' w.heap.size 5 1 A 256 c (bvs (hasD s k)) ∧ Below w.heap.size w w' := by
  have bc := h.blk.cells
  obtain ⟨b, hA, hrg⟩ := h.range hk
  have hz := zero102
  have hkn : (k : Int) < (s.n : Int) := by omega
  have hkl : k * 2 + 2 ≤ s.n * 2 := by omega
  have hsm := h.small
  rw [hA] at bc
  have HN : Hid (Blk (w.alloc (.cells #[.slice none 0 0, .slice none 0 0] 92)) w.heap.size 92 [.slice none 0 0, .slice none 0 0]) := Lib.hid (Blk.new w _ [.slice none 0 0, .slice none 0 0])
  have HR := Lib.hid hrg
  have H := Lib.hid h
  clear h hA hrg
  go_enter Try.func58, Try.ntmps58
  go_upto_region 4 with (first
    | (((with_reducible refine wpList_load_mid (op := ⟨some 26, _, _, _, _, _⟩) ?_ 92 (.tmp 25) ?_ b (k * 2) ?_ [.slice (r.v k).lA 256 (r.v k).lc, .slice (r.v k).vA (s.vers k).length (r.v k).vc] _ ?_ Try.underlying92 ?_ ?_ ?_); rfl; rfl; (first | rfl | (go_simp; rfl)); exact HR.out; rfl; (rw [size102]; rfl)))
    | (((with_reducible refine row_put (o := ⟨none, _, _, _, _, _⟩) ?_ ?_ 92 (.tmp 6) (.tmp 26) ?_ w.heap.size ?_ [.slice (r.v k).lA 256 (r.v k).lc, .slice (r.v k).vA (s.vers k).length (r.v k).vc] ?_ 92 [.slice none 0 0, .slice none 0 0] ?_ ?_ ?_ ?_ ?_); rfl; rfl; rfl; rfl; rfl; exact HN.out; (rw [size102]; rfl); rfl; exact two_one _ _ _ _ _ _; (intro w9 X9 g9))))
  have hb9 : Below w.heap.size w w9 := ((Below.refl _ _).alloc (Nat.le_refl _) _).grown g9 (by simp) (by intro k hk; cases hk; exact Nat.le_refl _)
  obtain ⟨gx, hgx⟩ : ∃ gx, gx = w.heap.size := ⟨_, rfl⟩
  have X9b := X9.out
  rw [← hgx] at X9b
  rw [← hgx]
  have c0 := X9b.cell 0
  have c1 := X9b.cell 1
  simp only [List.getElem?_cons_zero, List.getElem?_cons_succ] at c0 c1
  have h9 := H.out.below hb9 (Nat.le_refl _)
  have HB9 := Lib.hid hb9
  have H9 := Lib.hid h9
  have hz9 := hb9.size
  have HGx := Lib.hid hgx
  clear X9 X9b hb9 h9 HN HR g9 bc hz hgx
  rcases Nat.eq_zero_or_pos (s.vers k).length with h0 | h0
  · have hl := H9.out.lies k hk
    have he := hasD_none h0
    rw [← he] at hl
    have HO := Lib.hid (own_bs hl)
    have hlen := hl.len1
    have HLn := Lib.hid hlen
    rw [h0] at c1
    clear hl he h0 hlen
    go_wp2_with (at_builtin; refine wpList_app rfl (.tmp 41) (.tmp 42) 39 rfl 5 1 Try.underlying39 info5 rfl (by omega) rfl (Own.nil_ _ w9.heap.size 5 1) rfl HO.out.2.2.2 (by rw [HLn.out]) (bvs_oneCell _) (by omega) (by omega) (Nat.le_refl _) ?_; intro A1 c1 w1 ho1 hg1 _; rw [Nat.zero_add, List.nil_append] at ho1; rw [Nat.zero_add])
    go_ret2
    refine ⟨A1, c1, rfl, ho1.weak hz9, ?_⟩
    have := below_own HB9.out (Own.nil_ _ w9.heap.size 5 1) hg1 hz9 hz9
    exact this
  · obtain ⟨q, hq⟩ : ∃ q, (s.vers k).length = q + 1 := ⟨(s.vers k).length - 1, by omega⟩
    obtain ⟨bv_, Ax, cx, hvA, hvc, hvo⟩ := H9.out.verAt hk (q := q) (by omega)
    have hcap := (H9.out.vers k hk).1.cap
    have he : (s.vers k).getD q [] = hasD s k := by
      unfold hasD
      rw [List.getLast?_eq_getElem?, hq, List.getD_eq_getElem?_getD, Nat.add_sub_cancel, List.getElem?_eq_getElem (by omega)]
      rfl
    rw [he] at hvo
    rw [hvA, hq] at c1
    rw [hq] at hcap
    have HO := Lib.hid (own_bs hvo)
    have hlen := hvo.len1
    have HLn := Lib.hid hlen
    have eq1 : IntKind.i64.wrap (((q + 1 : Nat) : Int) - 1) = (q : Int) := by rw [IntWalk.i64_in _ (by omega)]; omega
    have eq2 : ((q + 1 : Nat) : Int) - 1 = (q : Int) := by omega
    clear hvo he hq h0 hvA hlen
    go_wp2_with (at_builtin; refine wpList_app rfl (.tmp 41) (.tmp 42) 39 rfl 5 1 Try.underlying39 info5 rfl (by omega) rfl (Own.nil_ _ w9.heap.size 5 1) rfl HO.out.2.2.2 (by rw [HLn.out]) (bvs_oneCell _) (by omega) (by omega) (Nat.le_refl _) ?_; intro A1 c1 w1 ho1 hg1 _; rw [Nat.zero_add, List.nil_append] at ho1; rw [Nat.zero_add])
    go_ret2
    exact ⟨A1, c1, rfl, ho1.weak hz9, below_own HB9.out (Own.nil_ _ w9.heap.size 5 1) hg1 hz9 hz9⟩

set_option maxHeartbeats 1000000 in
theorem rread_far {w : World} {base : Nat} {r : Rw} {s : Dsk} (h : Rk w base r s) {k : Int} (hk : k < 0 ∨ (s.n : Int) ≤ k) :
    Calls Try.prog 58 #[.pointer (some ⟨r.g, 0, none⟩), .int .i64 k] w fun e w' => e = .returned (.tuple #[.slice none 0 0, .int .i64 2]) ∧ w' = w := by
  have bc := h.blk.cells
  clear h
  by_cases h0 : k < 0
  · go_enter Try.func58, Try.ntmps58
    go_wp2
    go_ret2
    exact ⟨rfl, rfl⟩
  · have h1 : (s.n : Int) ≤ k := by omega
    go_enter Try.func58, Try.ntmps58
    go_wp2
    go_ret2
    exact ⟨rfl, rfl⟩

set_option maxRecDepth 100000 in
set_option maxHeartbeats 4000000 in
theorem rdirty_any {w : World} {base : Nat} {r : Rw} {s : Dsk} (h : Rk w base r s) :
    Calls Try.prog 46 #[.pointer (some ⟨r.g, 0, none⟩)] w fun e w' => ∃ A c, e = .returned (.slice A (dirtyL s).length c) ∧ Own w' w.heap.size 3 1 A (dirtyL s).length c (iv (dirtyL s)) ∧ Below w.heap.size w w' := by
  have H := Lib.hid h
  have hsm := h.small
  clear h
  go_enter Try.func46, Try.ntmps46
  go_wp2
  go_loopw [3, 4] (fun s3 s4 wr => ∃ (i : Nat) (A : Option Addr) (c : Nat) (l : List Nat), i ≤ s.n ∧ s4 = .int .i64 i ∧ s3 = .slice A l.length c ∧ l = (List.range i).filter (fun k => !(s.vers k).isEmpty) ∧ Own wr w.heap.size 3 1 A l.length c (iv l) ∧ Below w.heap.size w wr) (fun _ s4 _ => s.n - (intOf s4).toNat)
  case atStart => exact ⟨0, none, 0, [], by omega, rfl, rfl, rfl, Own.nil_ _ _ _ _, Below.refl _ _⟩
  case round =>
    obtain ⟨i, A, c, l, hi, rfl, rfl, hl, ho, hb⟩ := hrel
    have hR := H.out.below hb (Nat.le_refl _)
    have bc := hR.blk.cells
    have hll : l.length ≤ 4096 := by
      rw [hl]
      have h1 := List.length_filter_le (fun k => !(s.vers k).isEmpty) (List.range i)
      rw [List.length_range] at h1
      omega
    have HL := Lib.hid hl
    have HO := Lib.hid ho
    have HB := Lib.hid hb
    have hzb := hb.size
    clear hl ho hb
    by_cases hlt : i < s.n
    · obtain ⟨b, hA, _, c1, _, _⟩ := hR.cell hlt
      rw [hA] at bc
      have hin : (i : Int) < (s.n : Int) := by omega
      have hstep : (List.range (i + 1)).filter (fun k => !(s.vers k).isEmpty) = l ++ (if (s.vers i).length = 0 then [] else [i]) := by
        rw [List.range_succ, List.filter_append, ← HL.out]
        congr 1
        cases hv : s.vers i <;> simp [hv]
      have HSt := Lib.hid hstep
      clear hA hR hstep
      rcases Nat.eq_zero_or_pos (s.vers i).length with h0 | h0
      · rw [h0] at HSt
        rw [h0] at c1
        have HS2 : Hid (l = (List.range (i + 1)).filter (fun k => !(s.vers k).isEmpty)) := Lib.hid (by rw [HSt.out]; simp)
        clear h0 HSt
        go_wp2
        go_roundw
        case rel => exact ⟨i + 1, A, c, l, by omega, by norm_cast, rfl, HS2.out, HO.out, HB.out⟩
        case measure => simp only [intOf]; omega
      · have HS2 : Hid (l ++ [i] = (List.range (i + 1)).filter (fun k => !(s.vers k).isEmpty)) := Lib.hid (by rw [HSt.out, if_neg (by omega)])
        have h0i : (0 : Int) < ((s.vers i).length : Int) := by omega
        obtain ⟨V, hV⟩ : ∃ V, V = (s.vers i).length := ⟨_, rfl⟩
        rw [← hV] at h0 h0i c1
        clear HSt hV
        go_wp2_with (at_builtin; refine wpList_app rfl (.tmp 24) (.tmp 26) 33 rfl 3 1 Try.underlying33 info3v rfl (by omega) rfl (HO.out.alloc _) rfl (rd_one _ _ rfl) rfl (one_int _ _) (by omega) (by omega) (by simp; omega) ?_; intro A5 c5 w5 ho5 hg5 _)
        rw [iv_snoc] at ho5
        have hb5 := below_own (HB.out.alloc hzb _) (HO.out.alloc (.cells #[.int .i64 (i : Int)] 3)) hg5 (Nat.le_refl _) (by simp; omega)
        have hl1 : l.length + 1 = (l ++ [i]).length := by simp
        rw [hl1] at ho5
        have HO5 := Lib.hid ho5
        have HB5 := Lib.hid hb5
        have HL1 := Lib.hid hl1
        clear ho5 hb5 hg5 hl1 hzb HO HB
        go_roundw
        case rel => exact ⟨i + 1, A5, c5, l ++ [i], by omega, by norm_cast, by rw [HL1.out], HS2.out, HO5.out, HB5.out⟩
        case measure => simp only [intOf]; omega
    · obtain rfl : i = s.n := by omega
      have HD : Hid (dirtyL s = l) := Lib.hid HL.out.symm
      clear hR
      go_wp2
      go_ret
      exact ⟨A, c, by rw [HD.out]; rfl, by rw [HD.out]; exact HO.out, HB.out⟩

/-- the reference's count of writes that are left -/
def rcutD (s : Dsk) (n : Int) : Dsk := { s with cut := true, left := if s.cut = true ∧ s.left < n then s.left else n }
theorem Rk.reblk {w w' : World} {base : Nat} {r : Rw} {s : Dsk} (h : Rk w base r s) (K : Kept (fun b => b = r.g) w w') {ct : Bool} {lf : Int} (hl : -9223372036854775808 ≤ lf ∧ lf ≤ 9223372036854775807)
    (hb : Blk w' r.g 89 [.slice r.A s.n r.c, .bool ct, .int .i64 lf]) : Rch w w' base r r s.n { s with cut := ct, left := lf } := by
  refine ⟨⟨hb, own_kept h.row K (fun b hb e => ?_), fun k hk => own_kept (h.lies k hk) K (fun b hb e => ?_), fun k hk => ⟨own_kept (h.vers k hk).1 K (fun b hb e => ?_), slo_kept (h.vers k hk).2 K (fun A n c l b ho hb e => ?_)⟩, h.apart, h.len, h.small, hl, h.gb⟩, rfl, rfl, K.mono (fun b _ e => .inl e), fun b hb => .inl hb⟩
  · subst e; exact blk_own_ne h.blk h.row (by decide) hb
  · subst e; exact blk_own_ne h.blk (h.lies k hk) (by decide) hb
  · subst e; exact blk_own_ne h.blk (h.vers k hk).1 (by decide) hb
  · subst e; exact blk_own_ne h.blk ho (by decide) hb
theorem Rk.setCut {w : World} {base : Nat} {r : Rw} {s : Dsk} (h : Rk w base r s) {l : Int} (hl : -9223372036854775808 ≤ l ∧ l ≤ 9223372036854775807) :
    Rch w ((w.setCell ⟨r.g, 1, none⟩ (.bool true)).setCell ⟨r.g, 2, none⟩ (.int .i64 l)) base r r s.n { s with cut := true, left := l } := by
  have K : Kept (fun b => b = r.g) w ((w.setCell ⟨r.g, 1, none⟩ (.bool true)).setCell ⟨r.g, 2, none⟩ (.int .i64 l)) := ⟨rfl, rfl, rfl, by simp, fun b _ hn => (Below.heap_setCell _ _ _ b hn).trans (Below.heap_setCell w _ _ b hn)⟩
  exact h.reblk K hl ((h.blk.set_ 1 (.bool true)).set_ 2 (.int .i64 l))
end Go.Proofs.Ytdbhagnnpjcpmaa
