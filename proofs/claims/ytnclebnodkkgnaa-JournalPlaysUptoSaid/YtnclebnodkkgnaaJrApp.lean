/- A record is appended: journal.Append. Conditions: fewer than 2^39 versions of a sector; the data lie outside the disk and the journal. -/
import Derived.Test.YtnclebnodkkgnaaJrA
namespace Go.Proofs.Ytnclebnodkkgnaa
open Go.RowKit
set_option linter.unusedSimpArgs false
set_option linter.unusedVariables false

set_option maxHeartbeats 1000000 in
theorem append_no {w : World} {base j : Nat} {d : Dw} {s : Dsk} {G used many : Nat} (h : Jn w base j d s G used many) (hu : used ≤ 48) {A : Option Addr} {n c : Nat} (hn : n ≤ 4611686018427387904) (hp : 48 - used < pcsN n) :
    Calls Try.prog 17 #[.pointer (some ⟨j, 0, none⟩), .slice A n c] w fun e w' => e = .returned (.int .i64 11) ∧ w' = w := by
  have C1 := Lib.hid (pieces_any hn w)
  have C2 := Lib.hid (room_any h hu)
  have hRm : 48 - used < pcsN n := hp
  obtain ⟨R, hR⟩ : ∃ R, R = 48 - used := ⟨_, rfl⟩
  obtain ⟨M, hM⟩ : ∃ M, M = pcsN n := ⟨_, rfl⟩
  rw [← hR, ← hM] at hRm
  rw [← hM] at C1
  rw [← hR] at C2
  clear h hp hR hM hu hn
  go_enter Try.func17, Try.ntmps17
  go_wp2_with (first | ((with_reducible refine Calls.mono C1.out ?_); rintro e w1 ⟨rfl, rfl⟩) | ((with_reducible refine Calls.mono C2.out ?_); rintro e w1 ⟨rfl, rfl⟩))
  go_ret
  exact ⟨rfl, rfl⟩

set_option maxRecDepth 100000 in
set_option maxHeartbeats 4000000 in
theorem append_ok {w : World} {base j : Nat} {d : Dw} {s : Dsk} {G used many : Nat} (h : Jn w base j d s G used many) (hs : 50 ≤ s.n) (hG : 1 ≤ G ∧ G ≤ 4294967295) (hN : many + 1 ≤ 4294967295)
    (hv : ∀ k, k < s.n → (s.vers k).length < 549755813887) {lo : Nat} {A : Option Addr} {n c : Nat} {l : List UInt8} (hd : Bs w lo A n c l) (hA : 0 < n → ∀ b, ablk A = some b → ¬ d.foot b ∧ b ≠ j) (hn : n ≤ 4611686018427387904) (hp : used + pcsN n ≤ 48) :
    Calls Try.prog 17 #[.pointer (some ⟨j, 0, none⟩), .slice A n c] w fun e w' => e = .returned (.int .i64 0) ∧
      ∃ d', Ap w w' base j d d' (laidTo s G (many + 1) (pcsN n) (2 + used) l (pcsN n)) G (used + pcsN n) (many + 1) := by
  have C1 := Lib.hid (pieces_any hn w)
  have C2 := Lib.hid (room_any h (by omega))
  obtain ⟨R, hR⟩ : ∃ R, R = 48 - used := ⟨_, rfl⟩
  obtain ⟨m, hM⟩ : ∃ m, m = pcsN n := ⟨_, rfl⟩
  have hm1 : 1 ≤ m ∧ n ≤ 232 * m ∧ 232 * m ≤ n + 463 ∧ (1 < m → 232 * m < n + 232) := by rw [hM]; unfold pcsN; omega
  rw [← hM] at C1 hp ⊢
  rw [← hR] at C2
  have hRm : ¬ R < m := by omega
  have HV := Lib.hid hv
  have HH := Lib.hid h
  have HD := Lib.hid hd
  have HA := Lib.hid hA
  have bc := h.blk.cells
  have bf := h.blk.frees
  have hc1 := hd.2.1
  have hc2 := hd.2.2.1
  clear hv h hd hA hM hR
  go_enter Try.func17, Try.ntmps17
  go_upto_region 5 with (first | ((with_reducible refine Calls.mono C1.out ?_); rintro e w1 ⟨rfl, rfl⟩) | ((with_reducible refine Calls.mono C2.out ?_); rintro e w1 ⟨rfl, rfl⟩))
  refine wp_world (fun U => Ap w1 U base j d d s G used (many + 1)) (by have h := (Ap.init HH.out).setMany (many + 1); push_cast at h; exact h) ?_
  obtain ⟨N, hNN⟩ : ∃ N, N = many + 1 := ⟨_, rfl⟩
  rw [← hNN] at hN ⊢
  have HNN := Lib.hid hNN
  clear hNN bc bf HH C1 C2
  rintro U hU
  have HU := Lib.hid hU
  clear hU
  go_wp2
  go_loopw [6, 7, 8, 9, 25] (fun _ _ _ _ s25 wr => ∃ (i : Nat) (d1 : Dw), i ≤ m ∧ s25 = .int .i64 i ∧ Ap w1 wr base j d d1 (laidTo s G N m (2 + used) l i) G used N) (fun _ _ _ _ s25 _ => m - (intOf s25).toNat)
  case atStart => exact ⟨0, d, by omega, rfl, HU.out⟩
  case round =>
    clear HU
    obtain ⟨i, d1, hi, rfl, hp1⟩ := hrel
    have HP1 := Lib.hid hp1
    clear hp1
    by_cases hlt : i < m
    · obtain ⟨F, hF⟩ : ∃ F, F = 232 * i := ⟨_, rfl⟩
      have eF : IntKind.i64.wrap ((i : Int) * 232) = (F : Int) := by rw [IntWalk.i64_in _ (by omega)]; omega
      have hFn : F ≤ n := by omega
      have eB : (n < F + 232 ∧ n - F ≤ 232) ∨ F + 232 ≤ n := by omega
      have HF := Lib.hid hF
      clear hm1 hF
      go_upto_region 9 with fail
      go_cut [8, 30, 31, 32, 33, 34] (fun s8 _ _ _ _ _ wx => ∃ E : Nat, s8 = .int .i64 E ∧ E = min (F + 232) n ∧ wx = wr)
      case first =>
        go_wp2
        all_goals go_meet
        · exact ⟨n, rfl, by omega, rfl⟩
        · exact ⟨F + 232, by push_cast; rfl, by omega, rfl⟩
      case rest =>
        obtain ⟨E, rfl, hE, rfl⟩ := hcut
        have hE1 : F ≤ E ∧ E ≤ n ∧ E - F ≤ 232 := by omega
        have hPc : Hid (pcAt l i = (l.drop F).take (E - F)) := by
          show _ = _
          have hl := HD.out.1
          unfold pcAt
          rw [← HF.out]
          rcases Nat.lt_or_ge n (F + 232) with h1 | h1
          · rw [List.take_of_length_le (by simp; omega), List.take_of_length_le (by simp; omega)]
          · rw [show E - F = 232 by omega]
        obtain ⟨h1, h2, h3⟩ := hE1
        have hsl := fun (w : World) => run_part (w := w) (A := A) (m := n) (c := c) F E h1 (by omega)
        have hP := HP1.out.below (Below.refl wc.heap.size wc).drew (Nat.le_refl _)
        have hb := (HD.out.kept hP.K (fun hn b e => fun hh => by obtain ⟨x, y⟩ := HA.out hn b e; rcases hh with hh | hh; exact x hh; exact y hh)).part F E h1 h2
        rw [← hPc.out] at hb
        have C1 := Lib.hid (piece_any G N i m hb h3 hG.2 hN (by omega) (by omega))
        have hk : 2 + used + i < (laidTo s G N m (2 + used) l i).n := by rw [laidTo_n]; omega
        have hv5 : ((laidTo s G N m (2 + used) l i).vers (2 + used + i)).length < 549755813887 := by rw [laidTo_far _ _ _ _ _ _ _ (.inr (Nat.le_refl _))]; exact HV.out _ (by omega)
        have K0 : Hid (wc.drew.cell? ⟨j, 0, none⟩ = some (.pointer (some ⟨d1.g, 0, none⟩)) ∧ wc.drew.cell? ⟨j, 1, none⟩ = some (.int .i64 G) ∧ wc.drew.cell? ⟨j, 2, none⟩ = some (.int .i64 used) ∧ wc.drew.cell? ⟨j, 3, none⟩ = some (.int .i64 N))   := Lib.hid ⟨hP.jn.blk.cell 0, hP.jn.blk.cell 1, hP.jn.blk.cell 2, hP.jn.blk.cell 3⟩
        have HPD := Lib.hid hP
        have HK := Lib.hid hk
        have HV5 := Lib.hid hv5
        have hjl := hP.jn.blk.lt
        clear hE hb hP hk hv5
        go_upto_region 10 with fail
        have EK : Hid (IntKind.i64.wrap (2 + (used : Int)) = 2 + (used : Int) ∧ IntKind.i64.wrap (2 + (used : Int) + (i : Int)) = 2 + (used : Int) + (i : Int)) := Lib.hid ⟨IntWalk.i64_in _ (by omega), IntWalk.i64_in _ (by omega)⟩
        go_region_held3 (fun w' => w'.cell? ⟨j, 0, none⟩ = some (.pointer (some ⟨d1.g, 0, none⟩)) ∧ w'.cell? ⟨j, 1, none⟩ = some (.int .i64 G) ∧ w'.cell? ⟨j, 2, none⟩ = some (.int .i64 used) ∧ w'.cell? ⟨j, 3, none⟩ = some (.int .i64 N))
          (first | (exact K6.out) | (exact K5.out) | (exact K0.out) | go_keep)
          (first
            | ((with_reducible refine Calls.mono C1.out ?_); rintro e w5 ⟨A5, c5, rfl, ho5, hb5⟩; obtain ⟨g5, rfl, hg5, hl5⟩ := ho5.head (by omega); have hP5 := HPD.out.below hb5 (Nat.le_refl _); have K5 : Hid (w5.cell? ⟨j, 0, none⟩ = some (.pointer (some ⟨d1.g, 0, none⟩)) ∧ w5.cell? ⟨j, 1, none⟩ = some (.int .i64 G) ∧ w5.cell? ⟨j, 2, none⟩ = some (.int .i64 used) ∧ w5.cell? ⟨j, 3, none⟩ = some (.int .i64 N)) := Lib.hid ⟨hP5.jn.blk.cell 0, hP5.jn.blk.cell 1, hP5.jn.blk.cell 2, hP5.jn.blk.cell 3⟩; have C2a := dwrite_ok hP5.jn.dk HK.out HV5.out (own_bs ho5) (fun e => by have := (HPD.out.jn.dk.foot_base _ e).2; omega); push_cast at C2a; have C2 := Lib.hid C2a; have HP5 := Lib.hid hP5; clear C2a ho5 hb5 hP5)
            | (rw [EK.out.1, EK.out.2]; (with_reducible refine Calls.mono C2.out ?_); rintro e w6 ⟨rfl, d6, hD6, hg6, hK6, hf6⟩; have hP6 := HP5.out.write hD6 hg6 hK6 hf6; have K6 : Hid (w6.cell? ⟨j, 0, none⟩ = some (.pointer (some ⟨d1.g, 0, none⟩)) ∧ w6.cell? ⟨j, 1, none⟩ = some (.int .i64 G) ∧ w6.cell? ⟨j, 2, none⟩ = some (.int .i64 used) ∧ w6.cell? ⟨j, 3, none⟩ = some (.int .i64 N)) := Lib.hid ⟨by rw [← hg6]; exact hP6.jn.blk.cell 0, hP6.jn.blk.cell 1, hP6.jn.blk.cell 2, hP6.jn.blk.cell 3⟩; have HP6 := Lib.hid hP6; clear hP6 hD6 hg6 hK6 hf6))
        all_goals
          clear C1 C2 K0 K5 K6 HP1 HP5 HPD hsl EK hjl HV5 HK hPc
          go_wp2
          go_roundw
          case rel => exact ⟨i + 1, d6, by omega, by norm_cast, HP6.out⟩
          case measure => simp only [intOf]; omega
    · obtain rfl : i = m := by omega
      have bc := HP1.out.jn.blk.cells
      have bf := HP1.out.jn.blk.frees
      go_wp2
      go_ret
      refine ⟨rfl, d1, ?_⟩
      have h := HP1.out.setUsed (used + i)
      push_cast at h
      rw [← HNN.out]
      exact h
end Go.Proofs.Ytnclebnodkkgnaa
