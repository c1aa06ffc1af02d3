/- Texts out of bytes: node's taker. Condition: at most 255 bytes at a time. -/
import Derived.Test.YtnjpibbmgbiofaaPlainG
import Derived.Test.YtnjpibbmgbiofaaOwnB
import Derived.Laws.OwnMore
import Derived.Deep.OwnRows
namespace Go.Proofs.Ytnjpibbmgbiofaa
open Go.RowKit

theorem gr_set {w w' : World} {g : Nat} (h : w.grownBy w' (some g)) (i : Nat) (v : Value) : w.grownBy (w'.setCell ⟨g, i, none⟩ v) (some g) :=
  ⟨h.os, h.tape, h.output, by simpa using h.size, fun k hk hne => (Below.heap_setCell w' ⟨g, i, none⟩ v k (fun e => hne (by rw [e]))).trans (h.block k hk hne)⟩
theorem gr_alloc {w w' : World} {r : Option Nat} (h : w.grownBy w' r) (o : Obj) : w.grownBy (w'.alloc o) r := h.trans (World.grownBy_alloc w' o r)
theorem gr_drew {w w' : World} {r : Option Nat} (h : w.grownBy w' r) : w.grownBy w'.drew r := ⟨h.os, h.tape, h.output, h.size, h.block⟩
theorem bs_zero {w : World} {lo : Nat} {A : Option Addr} {c : Nat} (hc : c ≤ 9223372036854775807) : Bs w lo A 0 c [] := ⟨rfl, Nat.zero_le _, hc, fun h => absurd h (by simp)⟩
theorem bs_made (w : World) (n : Nat) (hn : n ≤ 9223372036854775807) : Bs (w.alloc (.cells (madeCells #[.int .u8 0] n) 5)) 0 (some ⟨w.heap.size, 0, none⟩) n n (List.replicate n 0) := by
  have hl : (madeCells #[Value.int .u8 0] n) = (List.replicate n (Value.int .u8 0)).toArray := by
    apply Array.toList_inj.1
    rw [toList_madeCells_one]
  rw [hl]
  have hb : Blk (w.alloc (.cells (List.replicate n (Value.int .u8 0)).toArray 5)) w.heap.size 5 (List.replicate n (Value.int .u8 0)) := Blk.new w 5 _
  refine ⟨by simp, Nat.le_refl _, hn, ?_⟩
  have := hb.rd0 (Nat.zero_le w.heap.size)
  have e : bvs (List.replicate n (0 : UInt8)) = List.replicate n (Value.int .u8 0) := by
    simp only [bvs, List.map_replicate]
    rfl
  rw [e]
  exact this.weak (Nat.zero_le _)

/-- what a taker gives, and what it is left with -/
def TkP (w0 w : World) (gt : Nat) (out r' : List UInt8) (bad' : Bool) (e : Ending) (w' : World) : Prop :=
  ∃ O co R' c', e = .returned (.slice O out.length co) ∧ Bs w' 0 O out.length co out ∧ Blk w' gt 63 [.slice R' r'.length c', .bool bad'] ∧ Bs w0 0 R' r'.length c' r' ∧ w.grownBy w' (some gt) ∧ (0 < out.length → ∀ g, ablk O = some g → g < w0.heap.size ∨ w.heap.size ≤ g)

theorem make_u8 (w : World) (n : Nat) (hn : n ≤ 255) : (Instr.makeSlice 32 (.int .i64 (n : Int)) (.int .i64 (n : Int))).run Try.prog w = .ok (.slice (some ⟨w.heap.size, 0, none⟩) n n) (w.alloc (.cells (madeCells #[.int .u8 0] n) 5)) :=
  run_make_row' 32 5 (.int .u8 0) 1 Try.underlying32 info5 rfl .i64 .i64 n (by omega) (by omega) w

set_option maxHeartbeats 1000000 in
theorem take_bad {w0 w : World} {gt n : Nat} {R : Option Addr} {m c : Nat} {bad : Bool} {r : List UInt8} (hT : Blk w gt 63 [.slice R m c, .bool bad]) (h0 : Bs w0 0 R m c r) (hn : n ≤ 255) (hb : tkBad r bad n = true) :
    Calls Try.prog 32 #[.pointer (some ⟨gt, 0, none⟩), .int .i64 n] w (TkP w0 w gt (tkOut r bad n) (tkRest r bad n) (tkBad r bad n)) := by
  have HO : Hid (tkOut r bad n = List.replicate n 0) := by show _ = _; unfold tkOut; rw [if_pos hb]
  have HRe : Hid (tkRest r bad n = r) := by show _ = _; unfold tkRest; rw [if_pos hb]
  have hd : bad = false → (m : Int) < n := fun hf => by
    unfold tkBad at hb
    rw [hf] at hb
    simp at hb
    have := h0.1
    omega
  have HB0 := Lib.hid h0
  have HL := Lib.hid h0.1
  have HT := Lib.hid hT
  have HBd := Lib.hid hb
  have hk := make_u8 (w.setCell ⟨gt, 1, none⟩ (.bool true)) n hn
  have tc := hT.cells
  have tf := hT.frees
  clear h0 hT hb
  cases bad with
  | true =>
    clear hd
    go_enter Try.func32, Try.ntmps32
    go_wp2
    go_ret
    rw [HO.out, HRe.out, HBd.out]
    refine ⟨_, n, R, c, by simp; rfl, by have h9 := bs_made (w.setCell ⟨gt, 1, none⟩ (.bool true)) n (by omega); simpa using h9, ?_, by rw [HL.out]; exact HB0.out, ?_⟩
    · rw [HL.out]
      exact (HT.out.set_ 1 (.bool true)).alloc _
    · refine ⟨gr_alloc (gr_set (World.grownBy.refl _ _) _ _) _, fun _ g hg => .inr ?_⟩
      simp at hg
      omega
  | false =>
    have hd' := hd rfl
    have hd2 : decide ((m : Int) < n) = true := decide_eq_true hd'
    clear hd
    go_enter Try.func32, Try.ntmps32
    go_wp2
    go_ret
    rw [HO.out, HRe.out, HBd.out]
    refine ⟨_, n, R, c, by simp; rfl, by have h9 := bs_made (w.setCell ⟨gt, 1, none⟩ (.bool true)) n (by omega); simpa using h9, ?_, by rw [HL.out]; exact HB0.out, ?_⟩
    · rw [HL.out]
      exact (HT.out.set_ 1 (.bool true)).alloc _
    · refine ⟨gr_alloc (gr_set (World.grownBy.refl _ _) _ _) _, fun _ g hg => .inr ?_⟩
      simp at hg
      omega

theorem bs_drop {w : World} {lo b o m c n : Nat} {r : List UInt8} (h : Bs w lo (some ⟨b, o, none⟩) m c r) (hn : n ≤ m) : Bs w lo (some ⟨b, o + n, none⟩) (m - n) (c - n) (r.drop n) := by
  have h1 := h.cut n m hn (Nat.le_refl _)
  have hl := h.1
  rwa [List.take_of_length_le (by simp; omega)] at h1

set_option maxHeartbeats 1000000 in
theorem take_good {w0 w : World} {gt n : Nat} {R : Option Addr} {m c : Nat} {r : List UInt8} (hT : Blk w gt 63 [.slice R m c, .bool false]) (h0 : Bs w0 0 R m c r) (hB : Below w0.heap.size w0 w) (hg : w0.heap.size ≤ gt) (hn : n ≤ 255) (hb : tkBad r false n = false) :
    Calls Try.prog 32 #[.pointer (some ⟨gt, 0, none⟩), .int .i64 n] w (TkP w0 w gt (tkOut r false n) (tkRest r false n) (tkBad r false n)) := by
  have HO : Hid (tkOut r false n = r.take n) := by show _ = _; unfold tkOut; rw [hb]; rfl
  have HRe : Hid (tkRest r false n = r.drop n) := by show _ = _; unfold tkRest; rw [hb]; rfl
  have HBd := Lib.hid hb
  have hnm : n ≤ m := by
    unfold tkBad at hb
    simp at hb
    have := h0.1
    omega
  have HB0 := Lib.hid h0
  have HL := Lib.hid h0.1
  have HT := Lib.hid hT
  have hc1 := h0.2.1
  have hc2 := h0.2.2.1
  have tc := hT.cells
  have tf := hT.frees
  have hd2 : decide ((m : Int) < n) = false := decide_eq_false (by omega)
  have hBw : Below w0.heap.size w0 ((w.setCell ⟨gt, 1, none⟩ (.bool false))) := hB.setCell (by simpa using hg) _
  clear hT hb h0
  rcases Nat.eq_zero_or_pos m with hm | hm
  · subst hm
    obtain rfl : n = 0 := by omega
    have hr : r = [] := List.eq_nil_of_length_eq_zero HL.out
    subst hr
    go_enter Try.func32, Try.ntmps32
    go_wp2
    go_ret
    rw [HO.out, HRe.out, HBd.out]
    refine ⟨_, _, _, _, rfl, bs_zero hc2, ((HT.out.set_ 1 (.bool false)).set_ 0 _), bs_zero (by omega), gr_set (gr_set (World.grownBy.refl _ _) _ _) _ _, fun h => absurd h (by simp)⟩
  · obtain ⟨b, o, rfl, _, hbw⟩ := HB0.out.at_ hm
    by_cases hcn : c = n
    · have hmn : m = n := by omega
      subst hmn
      subst hcn
      go_enter Try.func32, Try.ntmps32
      go_wp2
      go_ret
      rw [HO.out, HRe.out, HBd.out]
      have e1 : r.take c = r := List.take_of_length_le (by rw [HL.out]; exact Nat.le_refl _)
      have e2 : r.drop c = [] := List.drop_of_length_le (by rw [HL.out]; exact Nat.le_refl _)
      rw [e1, e2]
      refine ⟨_, c, _, _, by rw [HL.out]; rfl, ?_, ((HT.out.set_ 1 (.bool false)).set_ 0 _), bs_zero (by omega), gr_set (gr_set (World.grownBy.refl _ _) _ _) _ _, fun _ g hg => .inl (by simp at hg; omega)⟩
      rw [HL.out]
      exact HB0.out.below (hBw.setCell (by simpa using hg) _) (Nat.le_refl _)
    · go_enter Try.func32, Try.ntmps32
      go_wp2
      go_ret
      rw [HO.out, HRe.out, HBd.out]
      have hl1 : (r.take n).length = n := by rw [List.length_take, HL.out]; omega
      have hl2 : (r.drop n).length = m - n := by rw [List.length_drop, HL.out]
      refine ⟨some ⟨b, o, none⟩, c, some ⟨b, o + n, none⟩, c - n, by rw [hl1]; rfl, ?_, ?_, by rw [hl2]; exact bs_drop HB0.out hnm, gr_set (gr_set (World.grownBy.refl _ _) _ _) _ _, fun _ g hg => .inl (by simp at hg; omega)⟩
      · rw [hl1]
        exact (HB0.out.below (hBw.setCell (by simpa using hg) _) (Nat.le_refl _)).take n hnm
      · rw [hl2]
        exact ((HT.out.set_ 1 (.bool false)).set_ 0 _)

theorem take_any {w0 w : World} {gt n : Nat} {R : Option Addr} {m c : Nat} {bad : Bool} {r : List UInt8} (hT : Blk w gt 63 [.slice R m c, .bool bad]) (h0 : Bs w0 0 R m c r) (hB : Below w0.heap.size w0 w) (hg : w0.heap.size ≤ gt) (hn : n ≤ 255) :
    Calls Try.prog 32 #[.pointer (some ⟨gt, 0, none⟩), .int .i64 n] w (TkP w0 w gt (tkOut r bad n) (tkRest r bad n) (tkBad r bad n)) := by
  cases hb : tkBad r bad n with
  | true => have := take_bad hT h0 hn hb
            rwa [hb] at this
  | false =>
    cases bad with
    | true => cases hb
    | false => have := take_good hT h0 hB hg hn hb
               rwa [hb] at this

theorem length_tkOut (r : List UInt8) (bad : Bool) (n : Nat) : (tkOut r bad n).length = n := by
  unfold tkOut
  cases hb : tkBad r bad n with
  | true => simp
  | false =>
    simp only [Bool.false_eq_true, if_false, List.length_take]
    unfold tkBad at hb
    simp at hb
    omega
theorem below_gr {w0 w w' : World} {gt : Nat} (hB : Below w0.heap.size w0 w) (hg : w0.heap.size ≤ gt) (h : w.grownBy w' (some gt)) : Below w0.heap.size w0 w' :=
  hB.grown h hB.size (fun k hk => by cases hk; exact hg)

/-- what a taker's text is, and what it is left with -/
def TxP (w0 w : World) (gt : Nat) (s : ByteArray) (r' : List UInt8) (bad' : Bool) (e : Ending) (w' : World) : Prop :=
  ∃ R' c', e = .returned (.string s) ∧ Blk w' gt 63 [.slice R' r'.length c', .bool bad'] ∧ Bs w0 0 R' r'.length c' r' ∧ w.grownBy w' (some gt)

set_option maxHeartbeats 1000000 in
theorem text_any {w0 w : World} {gt : Nat} {R : Option Addr} {m c : Nat} {bad : Bool} {r : List UInt8} (hT : Blk w gt 63 [.slice R m c, .bool bad]) (h0 : Bs w0 0 R m c r) (hB : Below w0.heap.size w0 w) (hg : w0.heap.size ≤ gt) :
    Calls Try.prog 33 #[.pointer (some ⟨gt, 0, none⟩)] w (TxP w0 w gt (strOf (txOut r bad)) (txRest r bad) (txBad r bad)) := by
  have T1 := Lib.hid (take_any (n := 1) hT h0 hB hg (by omega))
  have HB := Lib.hid hB
  have hN : txN r bad < 256 := UInt8.toNat_lt _
  have HN : Hid (((tkOut r bad 1).getD 0 0).toNat = txN r bad) := rfl
  have HE1 : Hid (tkOut (tkRest r bad 1) (tkBad r bad 1) (txN r bad) = txOut r bad) := rfl
  have HE2 : Hid (tkRest (tkRest r bad 1) (tkBad r bad 1) (txN r bad) = txRest r bad) := rfl
  have HE3 : Hid (tkBad (tkRest r bad 1) (tkBad r bad 1) (txN r bad) = txBad r bad) := rfl
  clear hT h0 hB
  generalize txN r bad = N at *
  go_enter Try.func33, Try.ntmps33
  go_upto_region 1 with fail
  go_wp2_with (first
    | ((with_reducible refine Calls.mono T1.out ?_); rintro e w1 ⟨O, co, R1, c1, rfl, hO, hT1, h1, hg1, -⟩; rw [length_tkOut] at hO ⊢; obtain ⟨b, o, rfl, _, _⟩ := hO.at_ (by omega); have cd := hO.cell 0 (by omega); rw [HN.out, Nat.add_zero] at cd; have hO1 := hO.2.1; have hO2 := hO.2.2.1; have T2 := Lib.hid (take_any (n := N) hT1 h1 (below_gr HB.out hg hg1) hg (by omega)); have HG1 := Lib.hid hg1; clear hO hT1 h1 hg1)
    | ((with_reducible refine Calls.mono T2.out ?_); rintro e w2 ⟨O2, co2, R2, c2, rfl, hO2', hT2, h2, hg2, -⟩; have kc := conv_bs (P := Try.prog) 32 5 9 Try.underlying32 Try.underlying5 Try.underlying9 hO2'))
  go_ret
  rw [HE1.out, HE2.out, HE3.out] at *
  exact ⟨R2, c2, rfl, hT2, h2, HG1.out.trans hg2⟩
end Go.Proofs.Ytnjpibbmgbiofaa
