/- The statement CacheRoom: its walk. Condition: fewer than 2^38 deeds. -/
import Derived.Test.YtjndopmjlbhajaaCaQ
namespace Go.Proofs.Ytjndopmjlbhajaa
open Go.RowKit Go.Maps
set_option linter.unusedSimpArgs false
set_option linter.unusedVariables false

/-- what a round holds -/
def RS (w wr : World) (base kg room i : Nat) : Prop := ∃ (d : Dw) (k : Cw) (t : Dsk) (s : Ca), CD wr base d k t s ∧ t.n = 60 ∧ CaOk t.n s ∧ (∀ j, (t.vers j).length ≤ 60 * i) ∧ s.room = room ∧ k.g = kg ∧ Below base w wr
theorem get_room {t : Dsk} {s : Ca} (h : CaOk t.n s) (z : Int) : (getC t s z).2.2.room = s.room := by
  have e : ∀ s2 : Ca, ∀ m, AskOk t.n s2 m → (askedC s2 m).room = s2.room := fun s2 m ha => (asked_same ha).2
  unfold getC
  by_cases hz : 50 ≤ z ∧ z < (t.n : Int)
  · rw [if_pos hz]
    cases hb : s.blocks z.toNat with
    | some x =>
      show (if s.dirty z.toNat then s else askedC s z.toNat).room = _
      cases hd : s.dirty z.toNat with
      | true => rfl
      | false => exact e _ _ (h.ask (by rw [hb]; rfl) hd)
    | none =>
      by_cases hr : (readB t z.toNat).1 = 0
      · simp only [hr, if_true]
        obtain ⟨h1, h2⟩ := ask_new h hb (by omega) (by omega) (x := ⟨(readB t z.toNat).2.1, (readB t z.toNat).2.2⟩) (readB_ok hr)
        rw [h2]
        exact e _ _ h1
      · simp only [hr, if_false]
  · rw [if_neg hz]
theorem put_room {t : Dsk} {s : Ca} {z kd : Int} {l : List UInt8} : (putR t s z kd l).2.room = s.room := by
  unfold putR
  split
  · split <;> rfl
  · rfl
set_option maxRecDepth 100000 in
set_option maxHeartbeats 8000000 in
theorem room_any {A : Option Addr} {n c : Nat} {f : Nat → Dc} {rm : Int} {w : World} (hr : -9223372036854775808 ≤ rm ∧ rm ≤ 9223372036854775807) (hd : Dcs w A n f) (hn : n ≤ 1048576) :
    Calls Try.prog 6 #[.int .i64 rm, .slice A n c] w fun e w' => e = .returned (.bool true) ∧ Below w.heap.size w w' := by
  have D0 := dnew_ok 60 (by omega) w
  push_cast at D0
  have D := Lib.hid D0
  have HDs := Lib.hid hd
  have hzd := zeroDc
  have R0 := fun W => pick13_any rm hr (n := 6) (by omega) (by omega) W
  have hpl := pickN_lt rm (n := 6) (by omega)
  obtain ⟨rk, hrk⟩ : ∃ z, z = pickN rm 6 := ⟨_, rfl⟩
  rw [← hrk] at R0 hpl
  push_cast at R0
  have R := Lib.hid R0
  clear D0 hd R0 hrk
  go_enter Try.func6, Try.ntmps6
  go_upto_region 4 with ((with_reducible refine Calls.mono D.out ?_); rintro e w1 ⟨d, rfl, hd1, hb1⟩)
  have N0 := cnew_ok hd1 hb1.size (room := 1 + rk) (by omega) (by omega)
  push_cast at N0
  have N := Lib.hid N0
  have HB1 := Lib.hid hb1
  clear N0 hd1 hb1 D
  go_upto_region 8 with (first | ((with_reducible refine Calls.mono (R.out _) ?_); rintro e wp ⟨rfl, rfl⟩) | ((with_reducible refine Calls.mono N.out ?_); rintro e w2 ⟨k, rfl, hcd2, hb2⟩))
  obtain ⟨kg, hkg⟩ : ∃ z, z = k.g := ⟨_, rfl⟩
  rw [← hkg]
  have HI : Hid (RS w w2 w.heap.size kg (1 + rk) 0) := Lib.hid ⟨d, k, _, _, hcd2, rfl, new_ok ⟨by omega, by omega⟩, fun j => Nat.le_refl _, rfl, hkg.symm, HB1.out.trans (hb2.mono HB1.out.size)⟩
  clear hcd2 hb2 N HB1 hkg R
  obtain ⟨room, hroom⟩ : ∃ z, z = 1 + rk := ⟨_, rfl⟩
  have hri : (1 : Int) + (rk : Int) = (room : Int) := by omega
  rw [← hroom] at HI
  rw [hri]
  clear hri hroom
  go_wp2
  go_loopw [9] (fun s9 wr => ∃ i : Nat, i ≤ n ∧ s9 = .int .i64 i ∧ RS w wr w.heap.size kg room i) (fun s9 _ => n - (intOf s9).toNat)
  case atStart => exact ⟨0, by omega, rfl, HI.out⟩
  case round =>
    clear HI
    obtain ⟨i, hi, rfl, d, k, t, s, hC, htn, hO, hv, hrm, hkg, hB⟩ := hrel
    have HC := Lib.hid hC
    have HO := Lib.hid hO
    have HTn := Lib.hid htn
    have HV := Lib.hid hv
    have HRm := Lib.hid hrm
    have HKg := Lib.hid hkg
    have HB := Lib.hid hB
    clear hC hO htn hv hrm hkg hB
    by_cases hlt : i < n
    · obtain ⟨b, o, rfl, _, hbl, hrg⟩ := rd_elem (k := 5) HDs.out.rd (fun _ _ => rfl) (by omega) hlt
      have hok := HDs.out.ok i hlt
      have hrw := range_kept hrg (HB.out.block b hbl)
      obtain ⟨x, hx⟩ : ∃ x, x = f i := ⟨_, rfl⟩
      rw [← hx] at hrw hok
      have HRg := Lib.hid hrw
      have HOk := Lib.hid hok
      clear hrg hok hrw hx
      have HN : Hid (Blk (wr.alloc (.cells #[.int .i64 0, .int .i64 0, .int .i64 0, .slice none 0 0, .slice none 0 0] 37)) wr.heap.size 37 [.int .i64 0, .int .i64 0, .int .i64 0, .slice none 0 0, .slice none 0 0]) := Lib.hid (Blk.new wr _ [.int .i64 0, .int .i64 0, .int .i64 0, .slice none 0 0, .slice none 0 0])
      go_upto_region 12 with (first
        | (((with_reducible refine wpList_load_mid (op := ⟨some 45, _, _, _, _, _⟩) ?_ 37 (.tmp 44) ?_ b (o + i * 5) ?_ (dcc x) _ ?_ Try.underlying37 ?_ ?_ ?_); rfl; rfl; (first | rfl | (go_simp; rfl)); exact HRg.out; rfl; (rw [sizeDc]; rfl)))
        | (((with_reducible refine row_put (o := ⟨none, _, _, _, _, _⟩) ?_ ?_ 37 (.tmp 10) (.tmp 45) ?_ wr.heap.size ?_ (dcc x) ?_ 37 [.int .i64 0, .int .i64 0, .int .i64 0, .slice none 0 0, .slice none 0 0] ?_ ?_ ?_ ?_ ?_); rfl; rfl; rfl; rfl; rfl; exact HN.out; (rw [sizeDc]; rfl); rfl; (intro u hu; simp [dcc] at hu; rcases hu with rfl | rfl | rfl | rfl | rfl <;> rfl); (intro w9 X9 g9))))
      have hb9 : Below wr.heap.size wr w9 := ((Below.refl _ _).alloc (Nat.le_refl _) _).grown g9 (by simp) (by intro k hk; cases hk; exact Nat.le_refl _)
      obtain ⟨g8, hg8⟩ : ∃ g, g = wr.heap.size := ⟨_, rfl⟩
      have X9b := X9.out
      rw [← hg8] at X9b
      rw [← hg8]
      have hnf : ¬ footC d k g8 := fun y => by have := (HC.out.foot_base _ y).2; omega
      have HC9 := Lib.hid (HC.out.below hb9 (Nat.le_refl _))
      have HB9 := Lib.hid (HB.out.trans (hb9.mono HB.out.size))
      have P0 := pick13_any x.K HOk.out.k (n := 3) (by omega) (by omega) w9
      have hkl := pickN_lt x.K (n := 3) (by omega)
      obtain ⟨kd, hkd⟩ : ∃ kd, kd = pickN x.K 3 := ⟨_, rfl⟩
      rw [← hkd] at P0 hkl
      push_cast at P0
      have HPk := Lib.hid P0
      have xc0 := X9b.cell 0
      have xc1 := X9b.cell 1
      have xc2 := X9b.cell 2
      have xc3 := X9b.cell 3
      simp only [dcc, List.getElem?_cons_zero, List.getElem?_cons_succ] at xc0 xc1 xc2 xc3
      have hbd : Bs w9 0 x.bA x.b.length x.bc x.b := (HOk.out.b.below HB9.out (Nat.le_refl _))
      have hoff : 0 < x.b.length → ∀ b, ablk x.bA = some b → ¬ hardC d k b := fun hm b e y => by
        obtain ⟨b', o', e2, _, h4⟩ := HOk.out.b.at_ hm
        rw [e2] at e; injection e with e; have e : b' = b := e
        have := (HC.out.foot_base b (hard_foot y)).1
        omega
      have G0 := get_any_c HC9.out (HO.out) (z := x.N)
      have Q0 := put_any_c HC9.out (HO.out) (z := x.N) (kd := x.kd) HOk.out.n hbd hoff
      have F0 := flush_any_c HC9.out HO.out (fun j _ => by have := HV.out j; omega)
      rw [HKg.out] at G0 Q0 F0
      have F := Lib.hid F0
      have G := Lib.hid G0
      have Q := Lib.hid Q0
      clear hkd P0 X9 X9b g9 hb9 hbd hoff G0 Q0 F0 HC HB HRg HN hg8 hnf
      go_upto_block 2 with ((with_reducible refine Calls.mono HPk.out ?_); rintro e wa ⟨rfl, rfl⟩)
      clear HPk
      go_cut [48] (fun _ wx => RS w wx w.heap.size kg room (i + 1))
      case first =>
        obtain hkd | hkd | hkd : (kd : Int) = 0 ∨ (kd : Int) = 1 ∨ (kd : Int) = 2 := by omega
        all_goals rw [hkd]
        all_goals clear hkd hkl
        · go_wp2_with ((with_reducible refine Calls.mono G.out ?_); rintro e w3 hG; obtain ⟨k3, A3, c3, rfl, hc3, ho3, hf3⟩ := hG)
          go_meet
          exact ⟨d, k3, t, _, hc3.cd, HTn.out, get_c_ok HO.out x.N, fun j => by have := HV.out j; omega, (get_room HO.out x.N).trans HRm.out, hc3.gk.trans HKg.out, HB9.out.trans (hc3.bel HC9.out)⟩
        · go_wp2_with ((with_reducible refine Calls.mono Q.out ?_); rintro e w3 hQ; obtain ⟨rfl, k3, hc3⟩ := hQ)
          go_meet
          exact ⟨d, k3, t, _, hc3.cd, HTn.out, put_ca_ok HO.out, fun j => by have := HV.out j; omega, put_room.trans HRm.out, hc3.gk.trans HKg.out, HB9.out.trans (hc3.bel HC9.out)⟩
        · go_wp2_with ((with_reducible refine Calls.mono F.out ?_); rintro e w3 ⟨rfl, d3, k3, hc3⟩)
          go_meet
          have hfo := flushC_ok HO.out
          have hfr : (flushC t s).2.room = s.room := (flushTo_ok HO.out _ (Nat.le_refl _)).2.2.2
          refine ⟨d3, k3, _, _, hc3.cd, hfo.2.1.trans HTn.out, by rw [hfo.2.1]; exact hfo.1, fun j => ?_, hfr.trans HRm.out, hc3.gk.trans HKg.out, HB9.out.trans (hc3.bel HC9.out)⟩
          have h1 := flushTo_len t s (dirtyN t.n s) j (dirtyN t.n s).length
          have h2 : (dirtyN t.n s).length ≤ 60 := Nat.le_trans (List.length_filter_le _ _) (by rw [List.length_range, HTn.out]; exact Nat.le_refl _)
          have h3 := HV.out j
          show ((flushTo t s (dirtyN t.n s) (dirtyN t.n s).length).1.vers j).length ≤ _
          omega
      case rest =>
        obtain ⟨d4, k4, t4, s4, hC, htn, hO, hv, hrm, hkg, hB⟩ := hcut
        have L0 := clean_any hC (by have := hO.len; have := hO.room; omega)
        rw [hkg] at L0
        have L := Lib.hid L0
        have hle : s4.order.length ≤ room := by rw [← hrm]; exact hO.len
        have hleI : ¬ (room : Int) < (s4.order.length : Int) := by omega
        have hleN : decide (room < s4.order.length) = false := decide_eq_false (by omega)
        have HJ : Hid (∀ W, Below wc.heap.size wc W → RS w W w.heap.size kg room (i + 1)) := Lib.hid fun W hb => ⟨d4, k4, t4, s4, hC.below hb (Nat.le_refl _), htn, hO, hv, hrm, hkg, hB.trans (hb.mono hB.size)⟩
        clear L0 hC htn hO hv hrm hkg hB HO HTn HV HRm HKg HC9 HB9 xc0 xc1 xc2 xc3 G Q F hkl hle
        go_wp2_with ((with_reducible refine Calls.mono L.out ?_); rintro e w6 ⟨A6, c6, rfl, ho6, hb6⟩)
        go_roundw
        case rel => exact ⟨i + 1, by omega, by norm_cast, HJ.out _ hb6⟩
        case measure => simp only [intOf]; omega
    · obtain rfl : i = n := by omega
      have LV := Lib.hid (lives13_any wr)
      clear hlt hzd
      go_wp2_with ((with_reducible refine Calls.mono LV.out ?_); rintro e w3 ⟨rfl, hb3⟩)
      go_ret
      exact ⟨rfl, HB.out.trans (hb3.mono HB.out.size)⟩
end Go.Proofs.Ytjndopmjlbhajaa
