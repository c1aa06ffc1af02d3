/- The references' Same, over bytes that lie in memory. -/
import Derived.Test.YtjndopmjlbhajaaOwn
import Derived.Test.YtjndopmjlbhajaaProg
namespace Go.Proofs.Ytjndopmjlbhajaa
open Go.RowKit

theorem info5 : (Try.prog.info? 5).map (fun i => (i.zero, i.size, i.bytes)) = some (some (.int .u8 0), 1, 1) := by kernel_rfl
theorem size5 : (Try.prog.info? 5).map (·.size) = some 1 := by kernel_rfl

theorem own_bs {w : World} {base : Nat} {e : TypeId} {A : Option Addr} {n c : Nat} {l : List UInt8} (h : Own w base e 1 A n c (bvs l)) : Bs w base A n c l :=
  ⟨by simpa using h.len1, h.cap.1, h.cap.2, h.rd⟩

theorem conv_bs {P : Program} (src e dst : TypeId) (hs : P.underlying src = some (.slice e)) (he : P.underlying e = some (.int .u8)) (hd : P.underlying dst = some .string)
    {w : World} {lo : Nat} {A : Option Addr} {m c : Nat} {l : List UInt8} (h : Bs w lo A m c l) : (convert src dst (.slice A m c)).run P w = .ok (.string ⟨l.toArray⟩) w := by
  obtain ⟨rfl, _, _, hr⟩ := h
  rcases Nat.eq_zero_or_pos l.length with h0 | h0
  · obtain rfl := List.eq_nil_of_length_eq_zero h0
    rw [run_convert_bytes_string w src dst e _ _ c hs he hd]
    cases A <;> simp [Conv.bytesToString, loadCells]
    all_goals rfl
  · obtain ⟨b, o, rfl, _, _, hc⟩ := hr (by simpa using h0)
    refine run_convert_bytes_back w src dst e ⟨b, o, none⟩ c l hs he hd fun j hj => ?_
    rw [Addr.add_lit, hc j (by simpa using hj), bvs_get]

theorem list_beq (a b : List UInt8) : (a == b) = decide (a = b) := by rw [Bool.eq_iff_iff]; simp

theorem rd_none {w : World} {lo : Nat} {xs : List Value} (h : Rd w lo none xs) : xs = [] := by
  rcases Nat.eq_zero_or_pos xs.length with h0 | h0
  · exact List.eq_nil_of_length_eq_zero h0
  · obtain ⟨_, _, h, _⟩ := h h0
    cases h

set_option maxHeartbeats 400000 in
theorem same_any {A1 A2 : Option Addr} {m1 m2 c1 c2 : Nat} {l1 l2 : List UInt8} {lo1 lo2 : Nat} {w : World} (h1 : Bs w lo1 A1 m1 c1 l1) (h2 : Bs w lo2 A2 m2 c2 l2) :
    Calls Try.prog 33 #[.slice A1 m1 c1, .slice A2 m2 c2] w fun e w' => e = .returned (.bool (decide (l1 = l2))) ∧ ∃ n, w' = w.drewN n := by
  obtain ⟨rfl, hc1, hc2, h1⟩ := h1
  obtain ⟨rfl, hd1, hd2, h2⟩ := h2
  by_cases hl : l1.length = l2.length
  · go_enter Try.func33, Try.ntmps33
    go_wp2
    go_loopw [4, 5] (fun r i wr => ∃ k : Nat, k ≤ l2.length ∧ i = .int .i64 k ∧ r = .bool false ∧ l1.take k = l2.take k ∧ ∃ n, wr = w.drewN n) (fun _ i _ => l2.length - (intOf i).toNat)
    case atStart => exact ⟨0, Nat.zero_le _, rfl, rfl, by simp, 0, rfl⟩
    case round =>
      obtain ⟨k, hk, rfl, rfl, ht, n, rfl⟩ := hrel
      have HT := Lib.hid ht
      have HL := Lib.hid hl
      clear ht hl
      by_cases hlt : k < l2.length
      · have hlt1 : k < l1.length := by have := HL.out; omega
        obtain ⟨b1, o1, rfl, _, _, hc1⟩ := h1.byte hlt1
        obtain ⟨b2, o2, rfl, _, _, hc2⟩ := h2.byte hlt
        clear h1 h2
        go_wp2
        go_quiet (fail)
        go_wp2
        · go_ret
          have hne : ¬ l1 = l2 := by
            rintro rfl
            have := show ((l1[k].toNat : Int) != (l1[k].toNat : Int)) = true by assumption
            simp at this
          exact ⟨by simp [hne], n + nq, by rw [World.drewN_drewN]⟩
        · go_roundw
          case rel =>
            refine ⟨k + 1, by omega, by go_num, rfl, ?_, _, rfl⟩
            have := show ((l1[k].toNat : Int) != (l2[k].toNat : Int)) = false by assumption
            simp only [bne_eq_false_iff_eq] at this
            rw [List.take_succ_eq_append_getElem hlt1, List.take_succ_eq_append_getElem hlt, HT.out]
            congr 2
            exact UInt8.toNat.inj (by omega)
          case measure => simp [intOf]; omega
      · have hlt1 : ¬ k < l1.length := by have := HL.out; omega
        go_wp2
        go_ret
        refine ⟨?_, n, rfl⟩
        have := HT.out
        rw [List.take_of_length_le (by have := HL.out; omega), List.take_of_length_le (by omega)] at this
        simp [this]
  · have hd : ((l1.length : Int) != (l2.length : Int)) = true := by rw [bne_iff_ne]; omega
    have hne : ¬ l1 = l2 := fun h => hl (by rw [h])
    go_enter Try.func33, Try.ntmps33
    go_wp2
    go_ret
    exact ⟨by simp [hne], 0, rfl⟩
end Go.Proofs.Ytjndopmjlbhajaa
