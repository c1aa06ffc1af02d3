/- The statement CacheLast: its walk. Condition: fewer than 2^38 deeds. -/
import Derived.Test.YtjndopmjlbhajaaCaCo
import Derived.Test.YtjndopmjlbhajaaCaRo
namespace Go.Proofs.Ytjndopmjlbhajaa
open Go.RowKit Go.Maps
set_option linter.unusedSimpArgs false
set_option linter.unusedVariables false

/-- a block as the law has it: put last -/
structure Lt where
  k : Nat
  A : Option Addr
  c : Nat
  b : List UInt8
def lcs (L : Nat → Lt) : List Value := [.int .i64 (L 0).k, .slice (L 0).A (L 0).b.length (L 0).c, .int .i64 (L 1).k, .slice (L 1).A (L 1).b.length (L 1).c, .int .i64 (L 2).k, .slice (L 2).A (L 2).b.length (L 2).c, .int .i64 (L 3).k, .slice (L 3).A (L 3).b.length (L 3).c, .int .i64 (L 4).k, .slice (L 4).A (L 4).b.length (L 4).c, .int .i64 (L 5).k, .slice (L 5).A (L 5).b.length (L 5).c, .int .i64 (L 6).k, .slice (L 6).A (L 6).b.length (L 6).c, .int .i64 (L 7).k, .slice (L 7).A (L 7).b.length (L 7).c, .int .i64 (L 8).k, .slice (L 8).A (L 8).b.length (L 8).c, .int .i64 (L 9).k, .slice (L 9).A (L 9).b.length (L 9).c]
def lnil : Lt := ⟨0, none, 0, []⟩
def lup (L : Nat → Lt) (n : Nat) (x : Lt) : Nat → Lt := fun j => if j = n then x else L j
theorem lcs_len (L : Nat → Lt) : (lcs L).length = 20 := rfl
theorem lcs_get (L : Nat → Lt) : ∀ n, n < 10 → (lcs L)[n * 2]? = some (.int .i64 (L n).k) ∧ (lcs L)[n * 2 + 1]? = some (.slice (L n).A (L n).b.length (L n).c)
  | 0, _ => ⟨rfl, rfl⟩ | 1, _ => ⟨rfl, rfl⟩ | 2, _ => ⟨rfl, rfl⟩ | 3, _ => ⟨rfl, rfl⟩ | 4, _ => ⟨rfl, rfl⟩
  | 5, _ => ⟨rfl, rfl⟩ | 6, _ => ⟨rfl, rfl⟩ | 7, _ => ⟨rfl, rfl⟩ | 8, _ => ⟨rfl, rfl⟩ | 9, _ => ⟨rfl, rfl⟩
  | n + 10, h => absurd h (by omega)
theorem lcs_set (L : Nat → Lt) (x : Lt) : ∀ n, n < 10 → ((lcs L).set (n * 2) (.int .i64 x.k)).set (n * 2 + 1) (.slice x.A x.b.length x.c) = lcs (lup L n x)
  | 0, _ => rfl | 1, _ => rfl | 2, _ => rfl | 3, _ => rfl | 4, _ => rfl
  | 5, _ => rfl | 6, _ => rfl | 7, _ => rfl | 8, _ => rfl | 9, _ => rfl
  | n + 10, h => absurd h (by omega)
theorem zeroL (w : World) : (zeroValue 34).run Try.prog w = .ok (.agg (lcs fun _ => lnil).toArray) w := by kernel_rfl
theorem there_blk {w : World} {g : Nat} {t : TypeId} {cs : List Value} (h : Blk w g t cs) {o n : Nat} (hn : o + n ≤ cs.length) : w.there g o n := fun j hj =>
  ⟨by rw [h.cell, List.getElem?_eq_getElem (by omega)]; rfl, h.frozen _⟩
theorem range_blk {w : World} {g : Nat} {t : TypeId} {cs : List Value} (h : Blk w g t cs) {o : Nat} {a b : Value} (h1 : cs[o]? = some a) (h2 : cs[o + 1]? = some b) : w.rangeAt g o [a, b] := fun j v hv => by
  rw [h.cell]
  match j, hv with
  | 0, hv => rw [← hv]; exact h1
  | 1, hv => rw [← hv]; exact h2
/-- what the law has of a block is what is read -/
def LOk (w : World) (L : Nat → Lt) (t : Dsk) (s : Ca) (j : Nat) : Prop :=
  Bs w 0 (L j).A (L j).b.length (L j).c (L j).b ∧ cont t s (50 + j) = (if (L j).k = 0 then (6, 0, []) else (0, (L j).k, (L j).b))
/-- what a round holds -/
def XS (w wr : World) (base kg g9 i : Nat) : Prop := ∃ (d : Dw) (k : Cw) (t : Dsk) (s : Ca) (L : Nat → Lt), CD wr base d k t s ∧ t.n = 60 ∧ CaOk t.n s ∧ (∀ j, (t.vers j).length ≤ 60 * i) ∧ t.cut = false ∧ Cons t s ∧ k.g = kg ∧ ¬ footC d k g9 ∧ base ≤ g9 ∧ Blk wr g9 34 (lcs L) ∧ (∀ j, j < 10 → LOk w L t s j) ∧ Below base w wr
theorem XS.below {w wr W : World} {base kg g9 i B : Nat} (h : XS w wr base kg g9 i) (h0 : base ≤ wr.heap.size) (hb : Below B wr W) (hB : wr.heap.size ≤ B) : XS w W base kg g9 i := by
  obtain ⟨d, k, t, s, L, hC, htn, hO, hv, hct, hcn, hkg, hnf, hg9, hbl, hlo, hBl⟩ := h
  exact ⟨d, k, t, s, L, hC.below hb hB, htn, hO, hv, hct, hcn, hkg, hnf, hg9, hbl.below hb (Nat.lt_of_lt_of_le hbl.lt hB), hlo, hBl.trans (hb.mono (Nat.le_trans h0 hB))⟩
theorem LOk.same {w : World} {L : Nat → Lt} {t t' : Dsk} {s s' : Ca} {j : Nat} (h : LOk w L t s j) (e : ∀ m, cont t' s' m = cont t s m) : LOk w L t' s' j := ⟨h.1, (e _).trans h.2⟩

set_option maxRecDepth 100000 in
set_option maxHeartbeats 8000000 in
theorem last_any {A : Option Addr} {n c : Nat} {f : Nat → Dc} {rm : Int} {w : World} (hr : -9223372036854775808 ≤ rm ∧ rm ≤ 9223372036854775807) (hd : Dcs w A n f) (hn : n ≤ 1048576) :
    Calls Try.prog 3 #[.int .i64 rm, .slice A n c] w fun e w' => e = .returned (.bool true) ∧ Below w.heap.size w w' := by
  have D0 := dnew_ok 60 (by omega) w
  push_cast at D0
  have D := Lib.hid D0
  have HDs := Lib.hid hd
  have hzd := zeroDc
  have hzl := zeroL
  have hzb := zeroBk
  have R0 := fun W => pick13_any rm hr (n := 12) (by omega) (by omega) W
  have hpl := pickN_lt rm (n := 12) (by omega)
  obtain ⟨rk, hrk⟩ : ∃ z, z = pickN rm 12 := ⟨_, rfl⟩
  rw [← hrk] at R0 hpl
  push_cast at R0
  have R := Lib.hid R0
  clear D0 hd R0 hrk
  go_enter Try.func3, Try.ntmps3
  go_upto_region 4 with ((with_reducible refine Calls.mono D.out ?_); rintro e w1 ⟨d, rfl, hd1, hb1⟩)
  have N0 := cnew_ok hd1 hb1.size (room := 1 + rk) (by omega) (by omega)
  push_cast at N0
  have N := Lib.hid N0
  have HB1 := Lib.hid hb1
  clear N0 hd1 hb1 D
  go_upto_region 7 with (first | ((with_reducible refine Calls.mono (R.out _) ?_); rintro e wp ⟨rfl, rfl⟩) | ((with_reducible refine Calls.mono N.out ?_); rintro e w2 ⟨k, rfl, hcd2, hb2⟩))
  obtain ⟨kg, hkg⟩ : ∃ z, z = k.g := ⟨_, rfl⟩
  rw [← hkg]
  go_upto_region 8 with fail
  obtain ⟨gl, hgl⟩ : ∃ z, z = w2.heap.size := ⟨_, rfl⟩
  rw [← hgl]
  have hb3 : Below w2.heap.size w2 (w2.alloc (.cells (lcs fun _ => lnil).toArray 34)) := (Below.refl _ _).alloc (Nat.le_refl _) _
  refine wp_world (fun V => XS w V w.heap.size kg gl 0) ⟨d, k, _, _, fun _ => lnil, hcd2.below hb3 (Nat.le_refl _), rfl, new_ok ⟨by omega, by omega⟩, fun j => Nat.le_refl _, rfl, cons_new, hkg.symm, fun y => by (have := (hcd2.foot_base _ y).2; omega), by (have := hb2.size; have := HB1.out.size; omega), Blk.new_at hgl, fun j _ => ⟨Bs.nil_ _ _, cont_new⟩, (HB1.out.trans (hb2.mono HB1.out.size)).trans (hb3.mono (Nat.le_trans HB1.out.size hb2.size))⟩ ?_
  clear hcd2 hb2 N HB1 hkg R hb3 hgl
  intro w4 hI
  have HI := Lib.hid hI
  clear hI
  go_wp2
  go_loopw [10] (fun s9 wr => ∃ i : Nat, i ≤ n ∧ s9 = .int .i64 i ∧ XS w wr w.heap.size kg gl i) (fun s9 _ => n - (intOf s9).toNat)
  case atStart => exact ⟨0, by omega, rfl, HI.out⟩
  case round =>
    clear HI
    obtain ⟨i, hi, rfl, d, k, t, s, L, hC, htn, hO, hv, hct, hcn, hkg, hnf0, hgl, hbl9, hlo, hB⟩ := hrel
    have HC := Lib.hid hC
    have HO := Lib.hid hO
    have HTn := Lib.hid htn
    have HV := Lib.hid hv
    have HCt := Lib.hid hct
    have HCn := Lib.hid hcn
    have HKg := Lib.hid hkg
    have HF0 := Lib.hid hnf0
    have HG9 := Lib.hid hgl
    have HBl := Lib.hid hbl9
    have HLo := Lib.hid hlo
    have HB := Lib.hid hB
    clear hC hO htn hv hct hcn hkg hnf0 hgl hbl9 hlo hB
    by_cases hlt : i < n
    · obtain ⟨b, o, rfl, _, hbl, hrg⟩ := rd_elem (k := 5) HDs.out.rd (fun _ _ => rfl) (by omega) hlt
      have hok := HDs.out.ok i hlt
      have hrw := range_kept hrg (HB.out.block b hbl)
      obtain ⟨x, hx⟩ : ∃ x, x = f i := ⟨_, rfl⟩
      rw [← hx] at hrw hok
      have HRg := Lib.hid hrw
      have HOk := Lib.hid hok
      clear hrg hok hrw hx
      have HN : Hid (Blk (wr.alloc (.cells #[.int .i64 0, .int .i64 0, .int .i64 0, .slice none 0 0, .slice none 0 0] 37)) wr.heap.size 37 [.int .i64 0, .int .i64 0, .int .i64 0, .slice none 0 0, .slice none 0 0]) := Lib.hid (Blk.new wr _ [.int .i64 0, .int .i64 0, .int .i64 0, .slice none 0 0, .slice none 0 0])
      go_upto_region 12 with (first
        | (((with_reducible refine wpList_load_mid (op := ⟨some 49, _, _, _, _, _⟩) ?_ 37 (.tmp 48) ?_ b (o + i * 5) ?_ (dcc x) _ ?_ Try.underlying37 ?_ ?_ ?_); rfl; rfl; (first | rfl | (go_simp; rfl)); exact HRg.out; rfl; (rw [sizeDc]; rfl)))
        | (((with_reducible refine row_put (o := ⟨none, _, _, _, _, _⟩) ?_ ?_ 37 (.tmp 11) (.tmp 49) ?_ wr.heap.size ?_ (dcc x) ?_ 37 [.int .i64 0, .int .i64 0, .int .i64 0, .slice none 0 0, .slice none 0 0] ?_ ?_ ?_ ?_ ?_); rfl; rfl; rfl; rfl; rfl; exact HN.out; (rw [sizeDc]; rfl); rfl; (intro u hu; simp [dcc] at hu; rcases hu with rfl | rfl | rfl | rfl | rfl <;> rfl); (intro w9 X9 g9))))
      have hb9 : Below wr.heap.size wr w9 := ((Below.refl _ _).alloc (Nat.le_refl _) _).grown g9 (by simp) (by intro k hk; cases hk; exact Nat.le_refl _)
      obtain ⟨g8, hg8⟩ : ∃ g, g = wr.heap.size := ⟨_, rfl⟩
      have X9b := X9.out
      rw [← hg8] at X9b
      rw [← hg8]
      have hnf : ¬ footC d k g8 := fun y => by have := (HC.out.foot_base _ y).2; omega
      have HC9 := Lib.hid (HC.out.below hb9 (Nat.le_refl _))
      have HB9 := Lib.hid (HB.out.trans (hb9.mono HB.out.size))
      have hnf9 : gl ≠ g8 := fun e => by have := HBl.out.lt; omega
      have HBl9 := Lib.hid (HBl.out.below hb9 HBl.out.lt)
      have N0 := pick13_any x.N HOk.out.n (n := 10) (by omega) (by omega) w9
      have hnl := pickN_lt x.N (n := 10) (by omega)
      obtain ⟨nn, hnn⟩ : ∃ z, z = pickN x.N 10 := ⟨_, rfl⟩
      rw [← hnn] at N0 hnl
      push_cast at N0
      have HPn := Lib.hid N0
      have P0 := pick13_any x.K HOk.out.k (n := 3) (by omega) (by omega) w9
      have hkl := pickN_lt x.K (n := 3) (by omega)
      obtain ⟨kd, hkd⟩ : ∃ kd, kd = pickN x.K 3 := ⟨_, rfl⟩
      rw [← hkd] at P0 hkl
      push_cast at P0
      have HPk := Lib.hid P0
      have xc0 := X9b.cell 0
      have xc1 := X9b.cell 1
      have xc2 := X9b.cell 2
      have xc3 := X9b.cell 3
      simp only [dcc, List.getElem?_cons_zero, List.getElem?_cons_succ] at xc0 xc1 xc2 xc3
      have hbd : Bs w9 0 x.bA x.b.length x.bc x.b := (HOk.out.b.below HB9.out (Nat.le_refl _))
      have hoff : 0 < x.b.length → ∀ b, ablk x.bA = some b → ¬ hardC d k b := fun hm b e y => by
        obtain ⟨b', o', e2, _, h4⟩ := HOk.out.b.at_ hm
        rw [e2] at e; injection e with e; have e : b' = b := e
        have := (HC.out.foot_base b (hard_foot y)).1
        omega
      have Q0 := put_any_c HC9.out (HO.out) (z := ((50 + nn : Nat) : Int)) (kd := x.kd) (by omega) hbd hoff
      have F0 := flush_any_c HC9.out HO.out (fun j _ => by have := HV.out j; omega)
      rw [HKg.out] at Q0 F0
      have hpc := put_cont (t := t) (s := s) (n := 50 + nn) HO.out HCn.out (by omega) (by rw [HTn.out]; omega) (kd := x.kd) (l := x.b)
      have hpo := put_ca_ok (t := t) (s := s) (z := ((50 + nn : Nat) : Int)) (kd := x.kd) (l := x.b) HO.out
      obtain ⟨r, hr⟩ : ∃ r, r = putR t s ((50 + nn : Nat) : Int) x.kd x.b := ⟨_, rfl⟩
      rw [← hr] at Q0 hpc hpo
      have HPc := Lib.hid hpc
      have HPo := Lib.hid hpo
      push_cast at Q0
      clear hpc hpo hr
      have HX9 := Lib.hid X9b
      have HN8 := Lib.hid hnf
      have F := Lib.hid F0
      have Q := Lib.hid Q0
      clear hkd P0 X9 X9b g9 hb9 hbd hoff Q0 F0 N0 hnn HC HB HBl HRg HN hg8 hnf
      go_upto_block 2 with (first | ((with_reducible refine Calls.mono HPn.out ?_); rintro e wb ⟨rfl, rfl⟩) | ((with_reducible refine Calls.mono HPk.out ?_); rintro e wa ⟨rfl, rfl⟩))
      clear HPk HPn
      have HKl := Lib.hid hkl
      clear hkl hnf9
      go_cut [55] (fun _ wx => XS w wx w.heap.size kg gl (i + 1))
      case first =>
        have hkl := HKl.out
        obtain hkd | hkd | hkd : (kd : Int) = 0 ∨ (kd : Int) = 1 ∨ (kd : Int) = 2 := by omega
        all_goals rw [hkd]
        all_goals clear hkd hkl
        · go_wp2
          go_meet
          exact ⟨d, k, t, s, L, HC9.out, HTn.out, HO.out, fun j => by (have := HV.out j; omega), HCt.out, HCn.out, HKg.out, HF0.out, HG9.out, HBl9.out, HLo.out, HB9.out⟩
        · by_cases hm : mayB ((50 + nn : Nat) : Int) x.kd x.b.length
          · have Q1 := Q.out.mono (R' := fun e w3 => e = .returned (.int .i64 0) ∧ ∃ k3, CCh w9 w3 w.heap.size d d k k3 t r.2) fun e w3 ⟨h1, h2⟩ => ⟨by rw [h1, HPc.out.1, if_pos hm]; rfl, h2⟩
            have Q2 := Lib.hid Q1
            have HM := Lib.hid hm
            clear Q1 hm Q
            go_wp2_with (first
              | ((with_reducible refine Calls.mono Q2.out ?_); rintro e w3 ⟨rfl, k3, hc3⟩
                 have X3 := hc3.K.blk HX9.out (fun y => HN8.out (hard_foot y))
                 have L3 := hc3.K.blk HBl9.out (fun y => HF0.out (hard_foot y))
                 have xd2 := X3.cell 2
                 have xd3 := X3.cell 3
                 simp only [dcc, List.getElem?_cons_zero, List.getElem?_cons_succ] at xd2 xd3
                 have l0 := L3.cell (nn * 2)
                 have l1 := L3.cell (nn * 2 + 1)
                 have lf := L3.frees
                 rw [(lcs_get L nn hnl).1] at l0
                 rw [(lcs_get L nn hnl).2] at l1
                 have HL3 := Lib.hid L3
                 have HC3 := Lib.hid hc3
                 clear X3 L3 hc3))
            go_meet
            have hm := HM.out
            have hk : x.kd = ((x.kd.toNat : Nat) : Int) := by unfold mayB at hm; omega
            have hL : Blk ((w3.setCell ⟨gl, nn * 2, none⟩ (.int .i64 x.kd)).setCell ⟨gl, nn * 2 + 1, none⟩ (.slice x.bA x.b.length x.bc)) gl 34 (lcs (lup L nn ⟨x.kd.toNat, x.bA, x.bc, x.b⟩)) := by
              rw [← lcs_set L ⟨x.kd.toNat, x.bA, x.bc, x.b⟩ nn hnl, show (Lt.mk x.kd.toNat x.bA x.bc x.b).k = x.kd.toNat from rfl, ← hk]
              exact (HL3.out.set_ (nn * 2) _).set_ (nn * 2 + 1) _
            have haw := HC3.out.away HF0.out HBl9.out.lt
            have hK : ∀ (i : Nat) (v : Value) (W : World), CD W w.heap.size d k3 t r.2 → CD (W.setCell ⟨gl, i, none⟩ v) w.heap.size d k3 t r.2 := fun i v W hc => hc.kept (kept_set W gl i v) (fun b hb e => haw (by rw [← e]; exact hb))
            refine ⟨d, k3, t, r.2, _, hK _ _ _ (hK _ _ _ HC3.out.cd), HTn.out, HPo.out, fun j => by (have := HV.out j; omega), HCt.out, HPc.out.2.2, HC3.out.gk.trans HKg.out, haw, HG9.out, hL, fun j hj => ?_, ((HB9.out.trans (HC3.out.bel HC9.out)).setCell HG9.out _).setCell HG9.out _⟩
            by_cases e : j = nn
            · subst e
              refine ⟨?_, ?_⟩
              · rw [show lup L j ⟨x.kd.toNat, x.bA, x.bc, x.b⟩ j = ⟨x.kd.toNat, x.bA, x.bc, x.b⟩ from if_pos rfl]; exact HOk.out.b
              · rw [show lup L j ⟨x.kd.toNat, x.bA, x.bc, x.b⟩ j = ⟨x.kd.toNat, x.bA, x.bc, x.b⟩ from if_pos rfl, HPc.out.2.1, if_pos ⟨rfl, hm⟩, if_neg (by unfold mayB at hm; show ¬ x.kd.toNat = 0; omega)]
            · have e2 : lup L nn ⟨x.kd.toNat, x.bA, x.bc, x.b⟩ j = L j := if_neg e
              have h2 := HLo.out j hj
              refine ⟨by rw [e2]; exact h2.1, ?_⟩
              rw [e2, HPc.out.2.1, if_neg (fun y => e (by omega))]
              exact h2.2
          · have Q1 := Q.out.mono (R' := fun e w3 => e = .returned (.int .i64 1) ∧ ∃ k3, CCh w9 w3 w.heap.size d d k k3 t r.2) fun e w3 ⟨h1, h2⟩ => ⟨by rw [h1, HPc.out.1, if_neg hm]; rfl, h2⟩
            have Q2 := Lib.hid Q1
            have HM := Lib.hid hm
            clear Q1 hm Q
            go_wp2_with ((with_reducible refine Calls.mono Q2.out ?_); rintro e w3 ⟨rfl, k3, hc3⟩)
            go_meet
            refine ⟨d, k3, t, r.2, L, hc3.cd, HTn.out, HPo.out, fun j => by (have := HV.out j; omega), HCt.out, HPc.out.2.2, hc3.gk.trans HKg.out, hc3.away HF0.out HBl9.out.lt, HG9.out, hc3.K.blk HBl9.out (fun y => HF0.out (hard_foot y)), fun j hj => (HLo.out j hj).same fun m => ?_, HB9.out.trans (hc3.bel HC9.out)⟩
            rw [HPc.out.2.1 m, if_neg (fun y => HM.out y.2)]
        · go_wp2_with ((with_reducible refine Calls.mono F.out ?_); rintro e w3 ⟨rfl, d3, k3, hc3⟩)
          go_meet
          have hfo := flushC_ok HO.out
          have hfc := flush_cont HO.out (by rw [HTn.out]; omega) HCn.out HCt.out
          refine ⟨d3, k3, _, _, L, hc3.cd, hfo.2.1.trans HTn.out, by rw [hfo.2.1]; exact hfo.1, fun j => ?_, hfc.1, hfc.2.2, hc3.gk.trans HKg.out, hc3.away HF0.out HBl9.out.lt, HG9.out, hc3.K.blk HBl9.out (fun y => HF0.out (hard_foot y)), fun j hj => (HLo.out j hj).same hfc.2.1, HB9.out.trans (hc3.bel HC9.out)⟩
          have h1 := flushTo_len t s (dirtyN t.n s) j (dirtyN t.n s).length
          have h2 : (dirtyN t.n s).length ≤ 60 := Nat.le_trans (List.length_filter_le _ _) (by rw [List.length_range, HTn.out]; exact Nat.le_refl _)
          have h3 := HV.out j
          show ((flushTo t s (dirtyN t.n s) (dirtyN t.n s).length).1.vers j).length ≤ _
          omega
      case rest =>
        obtain ⟨d4, k4, t4, s4, L4, hC, htn, hO, hv, hct, hcn, hkg, hnf4, hg9, hbl4, hlo, hB⟩ := hcut
        have G0 := get_any_c hC hO (z := ((50 + nn : Nat) : Int))
        have hgc := get_cont hO hcn (n := 50 + nn) (by omega) (by rw [htn]; omega)
        have hgo := get_c_ok hO ((50 + nn : Nat) : Int)
        obtain ⟨⟨cd, y, s5⟩, hr⟩ : ∃ r, r = getC t4 s4 ((50 + nn : Nat) : Int) := ⟨_, rfl⟩
        rw [← hr] at G0 hgc hgo
        rw [hkg] at G0
        push_cast at G0
        have hL := hlo nn hnl
        have G := Lib.hid G0
        have HC4 := Lib.hid hC
        have HGc := Lib.hid hgc
        have HGo := Lib.hid hgo
        have HL := Lib.hid hL
        have HR4 := Lib.hid (show t4.n = 60 ∧ (∀ j, (t4.vers j).length ≤ 60 * (i + 1)) ∧ t4.cut = false ∧ k4.g = kg ∧ ¬ footC d4 k4 gl ∧ w.heap.size ≤ gl ∧ (∀ j, j < 10 → LOk w L4 t4 s4 j) from ⟨htn, hv, hct, hkg, hnf4, hg9, hlo⟩)
        have HB4 := Lib.hid hB
        have HBl4 := Lib.hid hbl4
        clear G0 hgc hgo hr hL hC hO htn hv hct hcn hkg hnf4 hg9 hbl4 hlo hB HO HTn HV HCt HCn HKg HF0 HG9 HBl9 HLo HC9 HB9 xc0 xc1 xc2 xc3 Q F HX9 HN8 HPc HPo HKl r
        go_upto_region 22 with ((with_reducible refine Calls.mono G.out ?_); rintro e w3 hG; obtain ⟨k3, A3, c3, rfl, hc3, ho3, hf3⟩ := hG; have HC3 := Lib.hid hc3; have HO3 := Lib.hid ho3; clear hc3 ho3 hf3)
        obtain ⟨g13, h13⟩ : ∃ z, z = w3.heap.size := ⟨_, rfl⟩
        rw [← h13]
        have hba : Below w3.heap.size w3 (w3.alloc (.cells #[.int .i64 (y.k : Int), .slice A3 y.b.length c3] 33)) := (Below.refl _ _).alloc (Nat.le_refl _) _
        have hr4 := HR4.out
        have hbw := HB4.out.trans (HC3.out.bel HC4.out)
        have hl3 := HC3.out.K.blk HBl4.out (fun y => hr4.2.2.2.2.1 (hard_foot y))
        refine wp_world (fun V => Blk V g13 33 [.int .i64 (y.k : Int), .slice A3 y.b.length c3] ∧ Blk V gl 34 (lcs L4) ∧ Bs V 0 A3 y.b.length c3 y.b ∧ Below w.heap.size w V ∧ XS w V w.heap.size kg gl (i + 1)) ⟨Blk.new_at h13, hl3.below hba hl3.lt, ((own_bs HO3.out).weak (Nat.zero_le _)).below hba (Nat.le_refl _), hbw.trans (hba.mono hbw.size), d4, k3, t4, s5, L4, HC3.out.cd.below hba (Nat.le_refl _), hr4.1, HGo.out, hr4.2.1, hr4.2.2.1, HGc.out.2.2.2.2, HC3.out.gk.trans hr4.2.2.2.1, HC3.out.away hr4.2.2.2.2.1 HBl4.out.lt, hr4.2.2.2.2.2.1, hl3.below hba hl3.lt, fun j hj => (hr4.2.2.2.2.2.2 j hj).same HGc.out.2.2.2.1, hbw.trans (hba.mono hbw.size)⟩ ?_
        clear hba hr4 hbw hl3 HO3 HC3 HC4 HBl4 HB4 HR4 HGo G h13
        rintro V ⟨v1, v2, v3, v4, v5⟩
        have S0 := bsame_any (w := V.drew) (y.k : Int) ((L4 nn).k : Int) v3.drew ((HL.out.1.below v4 (Nat.le_refl _)).drew)
        obtain ⟨sm, hsm⟩ : ∃ z, z = decide ((y.k : Int) = ((L4 nn).k : Int) ∧ y.b = (L4 nn).b) := ⟨_, rfl⟩
        rw [← hsm] at S0
        have hs : ((L4 nn).k = 0 ∧ (cd : Int) = 6) ∨ (0 < (L4 nn).k ∧ (cd : Int) = 0 ∧ sm = true) := by
          have hg := HGc.out
          have h2 := HL.out.2
          by_cases h0 : (L4 nn).k = 0
          · rw [if_pos h0] at h2
            rw [h2] at hg
            exact .inl ⟨h0, by have : cd = 6 := hg.1; rw [this]; rfl⟩
          · rw [if_neg h0] at h2
            rw [h2] at hg
            have hcd : cd = 0 := hg.1
            have hy : y = ⟨(L4 nn).k, (L4 nn).b⟩ := hg.2.1 rfl
            refine .inr ⟨by omega, by rw [hcd]; rfl, ?_⟩
            rw [hsm, hy]
            exact decide_eq_true ⟨rfl, rfl⟩
        have SM := Lib.hid S0
        have HS := Lib.hid hs
        have c1 : V.drew.cell? ⟨g13, 0, none⟩ = some (.int .i64 (y.k : Int)) := v1.cell 0
        have c2 : V.drew.cell? ⟨g13, 1, none⟩ = some (.slice A3 y.b.length c3) := v1.cell 1
        have c3_ : V.drew.cell? ⟨gl, nn * 2, none⟩ = some (.int .i64 ((L4 nn).k : Int)) := (v2.cell _).trans (lcs_get L4 nn hnl).1
        have c4 : V.drew.cell? ⟨gl, nn * 2 + 1, none⟩ = some (.slice (L4 nn).A (L4 nn).b.length (L4 nn).c) := (v2.cell _).trans (lcs_get L4 nn hnl).2
        have V1 := Lib.hid v1
        have V2 := Lib.hid v2
        have V4 := Lib.hid v4
        have V5 := Lib.hid v5
        clear S0 hs hsm v1 v2 v3 v4 v5 HGc HL
        obtain ⟨l, hl⟩ : ∃ l, l = L4 nn := ⟨_, rfl⟩
        have HG := Lib.hid (lcs_get L4 nn hnl)
        rw [← hl] at SM HS c3_ c4 HG
        clear hl
        have hnI : (nn : Int) < 10 := by omega
        have HVs := Lib.hid V4.out.size
        go_region_held3 (fun w' => w'.cell? ⟨g13, 0, none⟩ = some (.int .i64 (y.k : Int)) ∧ w'.cell? ⟨g13, 1, none⟩ = some (.slice A3 y.b.length c3) ∧ w'.cell? ⟨gl, nn * 2, none⟩ = some (.int .i64 (l.k : Int)) ∧ w'.cell? ⟨gl, nn * 2 + 1, none⟩ = some (.slice l.A l.b.length l.c))
          (first | go_keep | (exact K5.out))
          (first
            | ((with_reducible refine Calls.mono SM.out ?_); rintro e w5 ⟨rfl, hb5⟩
               have B1 := V1.out.drew.below hb5 V1.out.lt
               have B2 := V2.out.drew.below hb5 V2.out.lt
               have K5 : Hid (w5.cell? ⟨g13, 0, none⟩ = some (.int .i64 (y.k : Int)) ∧ w5.cell? ⟨g13, 1, none⟩ = some (.slice A3 y.b.length c3) ∧ w5.cell? ⟨gl, nn * 2, none⟩ = some (.int .i64 (l.k : Int)) ∧ w5.cell? ⟨gl, nn * 2 + 1, none⟩ = some (.slice l.A l.b.length l.c)) := ⟨B1.cell 0, B1.cell 1, (B2.cell _).trans HG.out.1, (B2.cell _).trans HG.out.2⟩
               clear B1 B2))
        have HJ : Hid (∀ W, Below w5.heap.size w5 W → XS w W w.heap.size kg gl (i + 1)) := Lib.hid fun W hb => (V5.out.below HVs.out ⟨hb5.os, hb5.tape, hb5.output, hb5.size, hb5.block⟩ (Nat.le_refl _)).below (Nat.le_trans HVs.out hb5.size) hb (Nat.le_refl _)
        obtain ⟨k1, k2, k3', k4'⟩ := K5.out
        rename_i hH
        clear hH K5 SM V1 V2 V4 V5 hb5 HVs HG c1 c2 c3_ c4 k1 k2 k4'
        rcases HS.out with ⟨h1, h2⟩ | ⟨h1, h2, h3⟩
        · have e0 : (l.k : Int) = 0 := by omega
          rw [e0] at k3'
          rw [h2]
          clear h1 h2 HS e0
          go_wp2
          go_roundw
          case rel => exact ⟨i + 1, by omega, by norm_cast, HJ.out _ (Below.refl _ _)⟩
          case measure => simp only [intOf]; omega
        · have hk : ((l.k : Int) == 0) = false := by rw [beq_eq_false_iff_ne]; omega
          rw [h2, h3]
          clear h2 h3 HS
          go_wp2
          go_roundw
          case rel => exact ⟨i + 1, by omega, by norm_cast, HJ.out _ (Below.refl _ _)⟩
          case measure => simp only [intOf]; omega
    · obtain rfl : i = n := by omega
      have LV := Lib.hid (lives13_any wr)
      clear hlt hzd hzl hzb
      go_wp2_with ((with_reducible refine Calls.mono LV.out ?_); rintro e w3 ⟨rfl, hb3⟩)
      go_ret
      exact ⟨rfl, HB.out.trans (hb3.mono HB.out.size)⟩
end Go.Proofs.Ytjndopmjlbhajaa

