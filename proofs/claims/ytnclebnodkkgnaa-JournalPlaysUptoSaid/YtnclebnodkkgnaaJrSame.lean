/- kistref11.Same, kistlaw11.pick. No condition. -/
import Derived.Test.YtnclebnodkkgnaaJrM
import Derived.Test.YtnclebnodkkgnaaLibL
namespace Go.Proofs.Ytnclebnodkkgnaa
open Go.RowKit

theorem take_next {α : Type} [BEq α] {l m : List α} {i : Nat} (h1 : i < l.length) (h2 : i < m.length) (h : l.take i = m.take i) (he : l[i] = m[i]) : l.take (i + 1) = m.take (i + 1) := by
  rw [List.take_succ_eq_append_getElem h1, List.take_succ_eq_append_getElem h2, h, he]

set_option maxRecDepth 100000 in
set_option maxHeartbeats 2000000 in
theorem same11_any {w : World} {A1 A2 : Option Addr} {n1 n2 c1 c2 lo1 lo2 k1 k2 : Nat} {vs1 vs2 : List Value} {ls1 ls2 : List (List UInt8)} (r1 : Rd w k1 A1 vs1) (s1 : Sl w lo1 vs1 ls1) (l1 : vs1.length = n1) (r2 : Rd w k2 A2 vs2) (s2 : Sl w lo2 vs2 ls2) (l2 : vs2.length = n2)
    (m1 : n1 ≤ 4611686018427387904) :
    Calls Try.prog 23 #[.slice A1 n1 c1, .slice A2 n2 c2] w fun e w' => e = .returned (.bool (decide (ls1 = ls2))) ∧ ∃ n, w' = w.drewN n := by
  have L1 := (all2_len s1).symm.trans l1
  have L2 := (all2_len s2).symm.trans l2
  by_cases hn : n1 = n2
  · subst hn
    have HR1 := Lib.hid r1
    have HR2 := Lib.hid r2
    have HS1 := Lib.hid s1
    have HS2 := Lib.hid s2
    have HL1 := Lib.hid L1
    have HL2 := Lib.hid L2
    have Hl1 := Lib.hid l1
    have Hl2 := Lib.hid l2
    clear r1 r2 s1 s2 L1 L2 l1 l2
    go_enter Try.func23, Try.ntmps23
    go_wp2
    go_loopw [5, 6] (fun s5 _ wr => ∃ (i q : Nat), i ≤ n1 ∧ s5 = .int .i64 i ∧ ls1.take i = ls2.take i ∧ wr = w.drewN q) (fun s5 _ _ => n1 - (intOf s5).toNat)
    case atStart => exact ⟨0, 0, by omega, rfl, by simp, rfl⟩
    case round =>
      obtain ⟨i, q, hi, rfl, ht, hq⟩ := hrel
      have HT := Lib.hid ht
      have HQ := Lib.hid hq
      clear ht hq
      by_cases hlt : i < n1
      · obtain ⟨b1, o1, rfl, _, _, hc1⟩ := HR1.out (by rw [Hl1.out]; omega)
        obtain ⟨b2, o2, rfl, _, _, hc2⟩ := HR2.out (by rw [Hl2.out]; omega)
        obtain ⟨B1, k1, d1, e1, h1⟩ := all2_get HS1.out (by rw [Hl1.out]; exact hlt) (by rw [HL1.out]; exact hlt)
        obtain ⟨B2, k2, d2, e2, h2⟩ := all2_get HS2.out (by rw [Hl2.out]; exact hlt) (by rw [HL2.out]; exact hlt)
        have x1 := hc1 i (by rw [Hl1.out]; exact hlt)
        have x2 := hc2 i (by rw [Hl2.out]; exact hlt)
        rw [e1] at x1
        rw [e2] at x2
        have h1q : Bs wr lo1 B1 k1 d1 (ls1[i]'(by rw [HL1.out]; exact hlt)) := by rw [HQ.out]; exact h1
        have h2q : Bs wr lo2 B2 k2 d2 (ls2[i]'(by rw [HL2.out]; exact hlt)) := by rw [HQ.out]; exact h2
        have y1 : wr.cell? ⟨b1, o1 + i, none⟩ = some (.slice B1 k1 d1) := by rw [HQ.out]; exact x1
        have y2 : wr.cell? ⟨b2, o2 + i, none⟩ = some (.slice B2 k2 d2) := by rw [HQ.out]; exact x2
        have hqs : ∀ n : Nat, Calls Try.prog 26 #[.slice B1 k1 d1, .slice B2 k2 d2] (wr.drewN n) fun e w'' => e = .returned (.bool (decide (ls1[i]'(by rw [HL1.out]; exact hlt) = ls2[i]'(by rw [HL2.out]; exact hlt)))) ∧ ∃ m, w'' = wr.drewN m := fun n =>
          (same_any (h1q.drewN n) (h2q.drewN n)).mono fun e w' ⟨he, m, hm⟩ => ⟨he, n + m, by rw [hm, World.drewN_drewN]⟩
        have HQS := Lib.hid hqs
        clear hc1 hc2 e1 e2 h1 h2 x1 x2 h1q h2q hqs
        by_cases he : ls1[i]'(by rw [HL1.out]; exact hlt) = ls2[i]'(by rw [HL2.out]; exact hlt)
        · have hd := decide_eq_true he
          rw [hd] at HQS
          have hT2 := take_next (by rw [HL1.out]; exact hlt) (by rw [HL2.out]; exact hlt) HT.out he
          have HT2 := Lib.hid hT2
          clear hd he hT2
          go_wp2
          go_quiet ((go_at_call 26; exact HQS.out _))
          go_wp2
          go_roundw
          case rel => exact ⟨i + 1, q + nq, by omega, by norm_cast, HT2.out, by rw [HQ.out, World.drewN_drewN]⟩
          case measure => simp only [intOf]; omega
        · have hd := decide_eq_false he
          rw [hd] at HQS
          have hne : ¬ ls1 = ls2 := by rintro rfl; exact he rfl
          have HNE := Lib.hid (decide_eq_false hne)
          clear hd he hne
          go_wp2
          go_quiet ((go_at_call 26; exact HQS.out _))
          go_wp2
          go_ret
          exact ⟨by rw [HNE.out]; rfl, q + nq, by rw [HQ.out, World.drewN_drewN]⟩
      · obtain rfl : i = n1 := by omega
        have hT := HT.out
        rw [List.take_of_length_le (by rw [HL1.out]; omega), List.take_of_length_le (by rw [HL2.out]; omega)] at hT
        have HE := Lib.hid (decide_eq_true hT)
        clear hT
        go_wp2
        go_ret
        exact ⟨by rw [HE.out]; rfl, q, HQ.out⟩
  · have hne : ¬ ls1 = ls2 := by rintro rfl; omega
    have HNE := Lib.hid (decide_eq_false hne)
    have hd : ((n1 : Int) != (n2 : Int)) = true := by rw [bne_iff_ne]; omega
    clear hne L1 L2 r1 r2 s1 s2
    go_enter Try.func23, Try.ntmps23
    go_wp2
    go_ret
    exact ⟨by rw [HNE.out]; rfl, 0, rfl⟩

set_option maxRecDepth 4000 in
theorem pick_any (c : Int) (hc : -9223372036854775808 ≤ c ∧ c ≤ 9223372036854775807) {n : Nat} (hn : 0 < n) (hn2 : n ≤ 9223372036854775807) (w : World) :
    Calls Try.prog 20 #[.int .i64 c, .int .i64 n] w fun e w' => e = .returned (.int .i64 (pickN c n)) ∧ w = w' := by
  by_cases h : c < 0
  · obtain ⟨k, hk⟩ : ∃ k : Nat, c = -(k : Int) - 1 := ⟨(-(c + 1)).toNat, by omega⟩
    have hp : pickN c n = k % n := by unfold pickN; rw [if_pos h]; congr 1; omega
    have HP := Lib.hid hp
    have e1 : IntKind.i64.wrap (c + 1) = -(k : Int) := by rw [IntWalk.i64_in _ (by omega)]; omega
    have e2 : IntKind.i64.wrap (-(-(k : Int))) = (k : Int) := by rw [IntWalk.i64_in _ (by omega)]; omega
    have e2b : wrap64 (k : Int) = (k : Int) := by unfold wrap64; omega
    have e3 : Int.tmod (k : Int) (n : Int) = ((k % n : Nat) : Int) := rfl
    have e4 : ¬ (n : Int) = 0 := by omega
    clear hp hk
    go_enter Try.func20, Try.ntmps20
    go_wp2
    go_ret
    exact ⟨by rw [HP.out]; rfl, rfl⟩
  · obtain ⟨k, rfl⟩ : ∃ k : Nat, c = (k : Int) := ⟨c.toNat, by omega⟩
    have hp : pickN (k : Int) n = k % n := by unfold pickN; rw [if_neg h]; congr 1
    have HP := Lib.hid hp
    have e3 : Int.tmod (k : Int) (n : Int) = ((k % n : Nat) : Int) := rfl
    have e4 : ¬ (n : Int) = 0 := by omega
    clear hp
    go_enter Try.func20, Try.ntmps20
    go_wp2
    go_ret
    exact ⟨by rw [HP.out]; rfl, rfl⟩
end Go.Proofs.Ytnclebnodkkgnaa
