/- The statements of layer 13: kistlaw13.pick, numbers; what Flush leaves on the disk. No condition. -/
import Derived.Test.YtjndopmjlbhajaaCaL
import Derived.Test.YtjndopmjlbhajaaFactsC
import Derived.Deep.CutBlock
namespace Go.Proofs.Ytjndopmjlbhajaa
open Go.RowKit Go.Maps
set_option linter.unusedSimpArgs false
set_option linter.unusedVariables false

theorem sizeDc : (Try.prog.info? 37).map (·.size) = some 5 := by kernel_rfl
theorem zeroDc (w : World) : (zeroValue 37).run Try.prog w = .ok (.agg #[.int .i64 0, .int .i64 0, .int .i64 0, .slice none 0 0, .slice none 0 0]) w := by kernel_rfl
theorem pick13_any (c : Int) (hc : -9223372036854775808 ≤ c ∧ c ≤ 9223372036854775807) {n : Nat} (hn : 0 < n) (hn2 : n ≤ 9223372036854775807) (w : World) :
    Calls Try.prog 10 #[.int .i64 c, .int .i64 n] w fun e w' => e = .returned (.int .i64 (pickN c n)) ∧ w = w' := by
  by_cases h : c < 0
  · obtain ⟨k, hk⟩ : ∃ k : Nat, c = -(k : Int) - 1 := ⟨(-(c + 1)).toNat, by omega⟩
    have hp : pickN c n = k % n := by unfold pickN; rw [if_pos h]; congr 1; omega
    have HP := Lib.hid hp
    have e1 : IntKind.i64.wrap (c + 1) = -(k : Int) := by rw [IntWalk.i64_in _ (by omega)]; omega
    have e2 : IntKind.i64.wrap (-(-(k : Int))) = (k : Int) := by rw [IntWalk.i64_in _ (by omega)]; omega
    have e2b : wrap64 (k : Int) = (k : Int) := by unfold wrap64; omega
    have e3 : Int.tmod (k : Int) (n : Int) = ((k % n : Nat) : Int) := rfl
    have e4 : ¬ (n : Int) = 0 := by omega
    clear hp hk
    go_enter Try.func10, Try.ntmps10
    go_wp2
    go_ret
    exact ⟨by rw [HP.out]; rfl, rfl⟩
  · obtain ⟨k, rfl⟩ : ∃ k : Nat, c = (k : Int) := ⟨c.toNat, by omega⟩
    have hp : pickN (k : Int) n = k % n := by unfold pickN; rw [if_neg h]; congr 1
    have HP := Lib.hid hp
    have e3 : Int.tmod (k : Int) (n : Int) = ((k % n : Nat) : Int) := rfl
    have e4 : ¬ (n : Int) = 0 := by omega
    clear hp
    go_enter Try.func10, Try.ntmps10
    go_wp2
    go_ret
    exact ⟨by rw [HP.out]; rfl, rfl⟩
set_option maxRecDepth 100000 in
set_option maxHeartbeats 4000000 in
theorem numbers13_any {w : World} {A1 A2 : Option Addr} {m c1 c2 lo1 lo2 : Nat} {l : List Nat} (h1 : Own w lo1 3 1 A1 m c1 (iv l)) (h2 : Own w lo2 3 1 A2 m c2 (iv l)) (hl : l.length = m) (hm : m ≤ 4611686018427387904) :
    Calls Try.prog 20 #[.slice A1 m c1, .slice A2 m c2] w fun e w' => e = .returned (.bool true) ∧ ∃ q, w' = w.drewN q := by
  have H1 := Lib.hid h1
  have H2 := Lib.hid h2
  have HL := Lib.hid hl
  clear h1 h2 hl
  go_enter Try.func20, Try.ntmps20
  go_wp2
  go_loopw [5] (fun s5 wr => ∃ i q : Nat, i ≤ m ∧ s5 = .int .i64 i ∧ wr = w.drewN q) (fun s5 _ => m - (intOf s5).toNat)
  case atStart => exact ⟨0, 0, by omega, rfl, rfl⟩
  case round =>
    obtain ⟨i, q, hi, rfl, hw⟩ := hrel
    by_cases hlt : i < m
    · obtain ⟨b1, rfl, hb1, hc1⟩ := own_iv (H1.out.drewN q) (by rw [HL.out]; exact hlt)
      obtain ⟨b2, rfl, hb2, hc2⟩ := own_iv (H2.out.drewN q) (by rw [HL.out]; exact hlt)
      rw [← hw] at hc1 hc2
      have hiI : (i : Int) < (m : Int) := by omega
      have HW := Lib.hid hw
      clear hw hb1 hb2
      go_wp2
      go_quiet (fail)
      go_wp2
      go_roundw
      case rel => exact ⟨i + 1, q + nq, by omega, by norm_cast, by rw [HW.out, World.drewN_drewN]⟩
      case measure => simp only [intOf]; omega
    · obtain rfl : i = m := by omega
      clear hlt
      go_wp2
      go_ret
      exact ⟨rfl, q, by first | rfl | exact hw⟩
/-- a disk whose sectors have a version just where they are among the first i of L -/
theorem flushTo_vers {t : Dsk} (hc : t.cut = false) (hv : ∀ m, t.vers m = []) (s : Ca) (L : List Nat) : ∀ i, i ≤ L.length → (flushTo t s L i).1.cut = false ∧ ∀ m, (flushTo t s L i).1.vers m ≠ [] ↔ ∃ j, j < i ∧ L.getD j 0 = m
  | 0, _ => ⟨hc, fun m => ⟨fun h => absurd (hv m) h, fun ⟨j, hj, _⟩ => absurd hj (Nat.not_lt_zero _)⟩⟩
  | i + 1, hi => by
    obtain ⟨h1, h2⟩ := flushTo_vers hc hv s L i (by omega)
    rw [flushTo]
    show (writeD _ _ _).cut = false ∧ ∀ m, (writeD _ _ _).vers m ≠ [] ↔ _
    rw [write_new h1]
    refine ⟨h1, fun m => ?_⟩
    show (if m = L.getD i 0 then _ else _ : List (List UInt8)) ≠ [] ↔ _
    by_cases e : m = L.getD i 0
    · rw [if_pos e]
      exact ⟨fun _ => ⟨i, by omega, e.symm⟩, fun _ => by simp⟩
    · rw [if_neg e, h2 m]
      constructor
      · rintro ⟨j, hj, e2⟩; exact ⟨j, by omega, e2⟩
      · rintro ⟨j, hj, e2⟩
        refine ⟨j, ?_, e2⟩
        have : j ≠ i := fun e3 => e (by rw [← e2, e3])
        omega
theorem flush_dirty {t : Dsk} (hc : t.cut = false) (hv : ∀ m, t.vers m = []) (s : Ca) : dirtyL (flushC t s).1 = dirtyN t.n s := by
  have h := (flushTo_vers hc hv s (dirtyN t.n s) _ (Nat.le_refl _)).2
  unfold dirtyL
  rw [show (flushC t s).1.n = t.n from flushTo_n _ _ _ _]
  unfold dirtyN
  refine List.filter_congr fun m hm => ?_
  have hm' := List.mem_range.1 hm
  have h2 := h m
  unfold flushC
  cases hd : s.dirty m with
  | true =>
    have : ((flushTo t s (dirtyN t.n s) (dirtyN t.n s).length).1.vers m) ≠ [] := by
      refine h2.2 ?_
      obtain ⟨j, hj, e⟩ := List.getElem_of_mem (mem_dirtyN.2 ⟨hm', hd⟩)
      exact ⟨j, hj, by rw [List.getD_eq_getElem?_getD, List.getElem?_eq_getElem hj]; exact e⟩
    simpa using this
  | false =>
    have : ((flushTo t s (dirtyN t.n s) (dirtyN t.n s).length).1.vers m) = [] := by
      cases e : ((flushTo t s (dirtyN t.n s) (dirtyN t.n s).length).1.vers m) with
      | nil => rfl
      | cons a l =>
        obtain ⟨j, hj, e2⟩ := h2.1 (by rw [e]; simp)
        have := (dirtyN_get hj).2
        rw [e2, hd] at this
        cases this
    simp [this]
theorem flush_clean {t : Dsk} {s : Ca} (h : CaOk t.n s) : dirtyN t.n (flushC t s).2 = [] := dirtyN_none fun m hm => by
  rcases (flushC_ok h).2.2 m with e | e
  · exact e
  · omega
end Go.Proofs.Ytjndopmjlbhajaa
