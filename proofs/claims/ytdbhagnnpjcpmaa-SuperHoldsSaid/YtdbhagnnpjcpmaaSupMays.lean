/- Which superblocks may be: super.May, kistref10.May. -/
import Derived.Test.YtdbhagnnpjcpmaaSupM
import Derived.Deep.DeepCutAuto
namespace Go.Proofs.Ytdbhagnnpjcpmaa
open Go.RowKit

theorem within_yes (a b c : Int) (h : b ≤ a ∧ a ≤ c) (w : World) : Calls Try.prog 78 #[.int .i64 a, .int .i64 b, .int .i64 c] w fun e w' => e = .returned (.bool true) ∧ w = w' := by
  obtain ⟨h1, h2⟩ := h
  go_enter Try.func78, Try.ntmps78
  go_wp2
  go_ret
  exact ⟨rfl, rfl⟩
theorem within_no (a b c : Int) (h : ¬ (b ≤ a ∧ a ≤ c)) (w : World) : Calls Try.prog 78 #[.int .i64 a, .int .i64 b, .int .i64 c] w fun e w' => e = .returned (.bool false) ∧ w = w' := by
  by_cases h1 : b ≤ a
  · have h2 : ¬ a ≤ c := by omega
    clear h
    go_enter Try.func78, Try.ntmps78
    go_wp2
    go_ret
    exact ⟨rfl, rfl⟩
  · have h2 : a < b := by omega
    clear h h1
    go_enter Try.func78, Try.ntmps78
    go_wp2
    go_ret
    exact ⟨rfl, rfl⟩

theorem sup_no {s : Sup} (h : ¬ headOk s) : decide (supOk s) = false := decide_eq_false fun h2 => h h2.1

set_option maxHeartbeats 1000000 in
theorem may_head (gen sec next : Int) {A : Option Addr} {n c : Nat} {w : World} (h : ¬ ((1 ≤ gen ∧ gen ≤ 4294967295) ∧ (1 ≤ next ∧ next ≤ 4294967295) ∧ (128 ≤ sec ∧ sec ≤ 4096) ∧ n ≤ 8)) :
    Calls Try.prog 47 #[.agg #[.int .i64 gen, .int .i64 sec, .int .i64 next, .slice A n c]] w fun e w' => e = .returned (.bool false) ∧ Below w.heap.size w w' := by
  by_cases h1 : 1 ≤ gen ∧ gen ≤ 4294967295
  · by_cases h2 : 1 ≤ next ∧ next ≤ 4294967295
    · by_cases h3 : 128 ≤ sec ∧ sec ≤ 4096
      · have h4 : 8 < n := by omega
        have W1 := Lib.hid (within_yes _ _ _ h1)
        have W2 := Lib.hid (within_yes _ _ _ h2)
        have W3 := Lib.hid (within_yes _ _ _ h3)
        clear h h1 h2 h3
        go_enter Try.func47, Try.ntmps47
        go_wp2_with (go_at_call 78; first | ((with_reducible refine (W1.out _).mono ?_); rintro e w9 ⟨rfl, rfl⟩) | ((with_reducible refine (W2.out _).mono ?_); rintro e w9 ⟨rfl, rfl⟩) | ((with_reducible refine (W3.out _).mono ?_); rintro e w9 ⟨rfl, rfl⟩))
        go_ret
        exact ⟨rfl, (Below.refl _ _).alloc (Nat.le_refl _) _⟩
      · have W1 := Lib.hid (within_yes _ _ _ h1)
        have W2 := Lib.hid (within_yes _ _ _ h2)
        have W3 := Lib.hid (within_no _ _ _ h3)
        clear h h1 h2 h3
        go_enter Try.func47, Try.ntmps47
        go_wp2_with (go_at_call 78; first | ((with_reducible refine (W1.out _).mono ?_); rintro e w9 ⟨rfl, rfl⟩) | ((with_reducible refine (W2.out _).mono ?_); rintro e w9 ⟨rfl, rfl⟩) | ((with_reducible refine (W3.out _).mono ?_); rintro e w9 ⟨rfl, rfl⟩))
        go_ret
        exact ⟨rfl, (Below.refl _ _).alloc (Nat.le_refl _) _⟩
    · have W1 := Lib.hid (within_yes _ _ _ h1)
      have W2 := Lib.hid (within_no _ _ _ h2)
      clear h h1 h2
      go_enter Try.func47, Try.ntmps47
      go_wp2_with (go_at_call 78; first | ((with_reducible refine (W1.out _).mono ?_); rintro e w9 ⟨rfl, rfl⟩) | ((with_reducible refine (W2.out _).mono ?_); rintro e w9 ⟨rfl, rfl⟩))
      go_ret
      exact ⟨rfl, (Below.refl _ _).alloc (Nat.le_refl _) _⟩
  · have W1 := Lib.hid (within_no _ _ _ h1)
    clear h h1
    go_enter Try.func47, Try.ntmps47
    go_wp2_with (go_at_call 78; (with_reducible refine (W1.out _).mono ?_); rintro e w9 ⟨rfl, rfl⟩)
    go_ret
    exact ⟨rfl, (Below.refl _ _).alloc (Nat.le_refl _) _⟩

/-- one version may be -/
def vOk (last next sec : Int) (v : Ver) : Prop := last < v.id ∧ v.id < next ∧ (v.root = 0 ∨ (50 ≤ v.root ∧ v.root < sec)) ∧ 1 ≤ v.next ∧ v.next ≤ 16777216
theorem verOk_iff (s : Sup) (i : Nat) : verOk s i ↔ vOk (idAt s.vs i) s.next s.sec (s.vs.getD i Ver.nil) := Iff.rfl
theorem idAt_succ (vs : List Ver) (i : Nat) : idAt vs (i + 1) = (vs.getD i Ver.nil).id := rfl

set_option maxRecDepth 100000 in
set_option maxHeartbeats 2000000 in
theorem may_vers (s : Sup) {A : Option Addr} {n c lo : Nat} {w : World} (hr : Vr w lo A n c s.vs) (h1 : 1 ≤ s.gen ∧ s.gen ≤ 4294967295) (h2 : 1 ≤ s.next ∧ s.next ≤ 4294967295) (h3 : 128 ≤ s.sec ∧ s.sec ≤ 4096) (hn : n ≤ 8) :
    Calls Try.prog 47 #[.agg #[.int .i64 s.gen, .int .i64 s.sec, .int .i64 s.next, .slice A n c]] w fun e w' => e = .returned (.bool (decide (supOk s))) ∧ Below w.heap.size w w' := by
  have HL := Lib.hid hr.1
  have hc1 := hr.2.1
  have hc2 := hr.2.2.1
  have HY : Hid ((∀ i, i < n → verOk s i) → decide (supOk s) = true) := fun h => decide_eq_true ⟨⟨h1.1, h1.2, h2.1, h2.2, h3.1, h3.2, by rw [hr.1]; exact hn⟩, fun i hi => h i (by rw [← hr.1]; exact hi)⟩
  have HN : Hid (∀ i, i < n → ¬ vOk (idAt s.vs i) s.next s.sec (s.vs.getD i Ver.nil) → decide (supOk s) = false) := fun i hi h => decide_eq_false fun h2 => h ((verOk_iff s i).1 (h2.2 i (by rw [hr.1]; exact hi)))
  have HR := Lib.hid hr
  have HI : Hid (∀ i, verOk s i ↔ vOk (idAt s.vs i) s.next s.sec (s.vs.getD i Ver.nil)) := verOk_iff s
  have HV : Hid (∀ i, idAt s.vs (i + 1) = (s.vs.getD i Ver.nil).id) := idAt_succ s.vs
  have h0 : idAt s.vs 0 = 0 := rfl
  obtain ⟨gen, sec, next, vs⟩ := s
  simp only at *
  have W1 := Lib.hid (within_yes _ _ _ h1)
  have W2 := Lib.hid (within_yes _ _ _ h2)
  have W3 := Lib.hid (within_yes _ _ _ h3)
  obtain ⟨s1, s2⟩ := h3
  clear hr h1 h2
  go_enter Try.func47, Try.ntmps47
  go_upto_region 3 with (go_at_call 78; first | ((with_reducible refine (W1.out _).mono ?_); rintro e w9 ⟨rfl, rfl⟩) | ((with_reducible refine (W2.out _).mono ?_); rintro e w9 ⟨rfl, rfl⟩) | ((with_reducible refine (W3.out _).mono ?_); rintro e w9 ⟨rfl, rfl⟩))
  go_wp2
  go_loopw [3, 5, 31] (fun s3 s5 s31 wr => ∃ i : Nat, i ≤ n ∧ s31 = .int .i64 i ∧ s3 = .int .i64 (idAt vs i) ∧ (∀ j, j < i → verOk ⟨gen, sec, next, vs⟩ j) ∧ Blk wr w.heap.size 32 [.int .i64 gen, .int .i64 sec, .int .i64 next, .slice A n c] ∧ Below w.heap.size w wr)
    (fun _ _ s31 _ => n - (intOf s31).toNat)
  case atStart => exact ⟨0, Nat.zero_le _, rfl, by rw [h0], fun j hj => absurd hj (by omega), Blk.new_at (cs := [.int .i64 gen, .int .i64 sec, .int .i64 next, .slice A n c]) rfl, (Below.refl _ _).alloc (Nat.le_refl _) _⟩
  case round =>
    obtain ⟨i, hi, rfl, rfl, hok, hB, hV⟩ := hrel
    have HO := Lib.hid hok
    clear hok
    by_cases hlt : i < n
    · obtain ⟨b, o, rfl, _, hbl⟩ := HR.out.at_ (by omega)
      obtain ⟨c0, c1, c2, c3⟩ := (HR.out.below hV (Nat.le_refl _)).cells i hlt
      have hv1 := HV.out i
      have hi1 := HI.out i
      have hn1 := Lib.hid (HN.out i hlt)
      generalize vs.getD i Ver.nil = v at *
      obtain ⟨vid, vroot, vnext, vfx⟩ := v
      simp only at c0 c1 c2 c3 hv1
      have HV1 := Lib.hid hv1
      have HI1 := Lib.hid hi1
      clear hv1 hi1 h0
      generalize idAt vs i = last at *
      go_upto_region 7 with fail
      refine wp_world (fun V => Blk V w.heap.size 32 [.int .i64 gen, .int .i64 sec, .int .i64 next, .slice (some ⟨b, o, none⟩) n c] ∧ Blk V wr.heap.size 97 [.int .i64 vid, .int .i64 vroot, .int .i64 vnext, .bool vfx] ∧ Below w.heap.size w V) ⟨hB.alloc _, Blk.new_at (cs := [.int .i64 vid, .int .i64 vroot, .int .i64 vnext, .bool vfx]) rfl, hV.alloc hV.size _⟩ ?_
      clear c0 c1 c2 c3 hB hV
      rintro V ⟨hB, hG, hV⟩
      have HB := Lib.hid hB
      have hBc := hB.cells
      have hGc := hG.cells
      clear hB hG
      by_cases k1 : last < vid
      · by_cases k2 : vid < next
        · by_cases k3 : vroot = 0 ∨ (50 ≤ vroot ∧ vroot < sec)
          · by_cases k4 : 1 ≤ vnext ∧ vnext ≤ 16777216
            · have HNW : Hid (∀ j, j < i + 1 → verOk ⟨gen, sec, next, vs⟩ j) := fun j hj => by
                by_cases hji : j < i
                · exact HO.out j hji
                · obtain rfl : j = i := by omega
                  exact HI1.out.2 ⟨k1, k2, k3, k4⟩
              have W5 := Lib.hid (within_yes _ _ _ k4)
              clear k4
              by_cases k5 : vroot = 0
              · clear k3
                go_wp2_with (go_at_call 78; ((with_reducible refine (W5.out _).mono ?_); rintro e w9 ⟨rfl, rfl⟩))
                go_roundw
                case rel => exact ⟨i + 1, by omega, by go_num, by rw [HV1.out], HNW.out, HB.out, hV⟩
                case measure => simp [intOf]; omega
              · have W4 := Lib.hid (within_yes vroot 50 (sec - 1) (by omega))
                clear k3
                go_wp2_with (go_at_call 78; first | ((with_reducible refine (W4.out _).mono ?_); rintro e w9 ⟨rfl, rfl⟩) | ((with_reducible refine (W5.out _).mono ?_); rintro e w9 ⟨rfl, rfl⟩))
                go_roundw
                case rel => exact ⟨i + 1, by omega, by go_num, by rw [HV1.out], HNW.out, HB.out, hV⟩
                case measure => simp [intOf]; omega
            · have HF := Lib.hid (hn1.out (fun h => k4 h.2.2.2))
              have W5 := Lib.hid (within_no _ _ _ k4)
              clear k4
              by_cases k5 : vroot = 0
              · clear k3
                go_wp2_with (go_at_call 78; ((with_reducible refine (W5.out _).mono ?_); rintro e w9 ⟨rfl, rfl⟩))
                go_ret
                exact ⟨by rw [HF.out]; rfl, hV⟩
              · have W4 := Lib.hid (within_yes vroot 50 (sec - 1) (by omega))
                clear k3
                go_wp2_with (go_at_call 78; first | ((with_reducible refine (W4.out _).mono ?_); rintro e w9 ⟨rfl, rfl⟩) | ((with_reducible refine (W5.out _).mono ?_); rintro e w9 ⟨rfl, rfl⟩))
                go_ret
                exact ⟨by rw [HF.out]; rfl, hV⟩
          · have HF := Lib.hid (hn1.out (fun h => k3 h.2.2.1))
            have k5 : ¬ vroot = 0 := by omega
            have W4 := Lib.hid (within_no vroot 50 (sec - 1) (by omega))
            clear k3
            go_wp2_with (go_at_call 78; ((with_reducible refine (W4.out _).mono ?_); rintro e w9 ⟨rfl, rfl⟩))
            go_ret
            exact ⟨by rw [HF.out]; rfl, hV⟩
        · have HF := Lib.hid (hn1.out (fun h => k2 h.2.1))
          go_wp2
          go_ret
          exact ⟨by rw [HF.out]; rfl, hV⟩
      · have HF := Lib.hid (hn1.out (fun h => k1 h.1))
        have k1' : vid ≤ last := by omega
        clear k1
        go_wp2
        go_ret
        exact ⟨by rw [HF.out]; rfl, hV⟩
    · obtain rfl : i = n := by omega
      go_wp2
      go_ret
      exact ⟨by rw [HY.out HO.out]; rfl, hV⟩

theorem may_any (s : Sup) {A : Option Addr} {n c lo : Nat} {w : World} (hr : Vr w lo A n c s.vs) :
    Calls Try.prog 47 #[supV s A n c] w fun e w' => e = .returned (.bool (decide (supOk s))) ∧ Below w.heap.size w w' := by
  by_cases h : (1 ≤ s.gen ∧ s.gen ≤ 4294967295) ∧ (1 ≤ s.next ∧ s.next ≤ 4294967295) ∧ (128 ≤ s.sec ∧ s.sec ≤ 4096) ∧ n ≤ 8
  · exact may_vers s hr h.1 h.2.1 h.2.2.1 h.2.2.2
  · rw [sup_no (fun h2 => h (by obtain ⟨g1, g2, g3, g4, g5, g6, g7⟩ := h2; rw [hr.1] at g7; exact ⟨⟨g1, g2⟩, ⟨g3, g4⟩, ⟨g5, g6⟩, g7⟩))]
    exact may_head s.gen s.sec s.next h
end Go.Proofs.Ytdbhagnnpjcpmaa
namespace Go.Proofs.Ytdbhagnnpjcpmaa
open Go.RowKit

set_option maxHeartbeats 1000000 in
theorem rmay_head (gen sec next : Int) {A : Option Addr} {n c : Nat} {w : World} (h : ¬ ((1 ≤ gen ∧ gen ≤ 4294967295) ∧ (1 ≤ next ∧ next ≤ 4294967295) ∧ (128 ≤ sec ∧ sec ≤ 4096) ∧ n ≤ 8)) :
    Calls Try.prog 50 #[.agg #[.int .i64 gen, .int .i64 sec, .int .i64 next, .slice A n c]] w fun e w' => e = .returned (.bool false) ∧ Below w.heap.size w w' := by
  by_cases h1 : gen < 1
  · clear h
    go_enter Try.func50, Try.ntmps50
    go_wp2
    go_ret
    exact ⟨rfl, (Below.refl _ _).alloc (Nat.le_refl _) _⟩
  by_cases h2 : 4294967295 < gen
  · clear h
    go_enter Try.func50, Try.ntmps50
    go_wp2
    go_ret
    exact ⟨rfl, (Below.refl _ _).alloc (Nat.le_refl _) _⟩
  by_cases h3 : next < 1
  · clear h
    go_enter Try.func50, Try.ntmps50
    go_wp2
    go_ret
    exact ⟨rfl, (Below.refl _ _).alloc (Nat.le_refl _) _⟩
  by_cases h4 : 4294967295 < next
  · clear h
    go_enter Try.func50, Try.ntmps50
    go_wp2
    go_ret
    exact ⟨rfl, (Below.refl _ _).alloc (Nat.le_refl _) _⟩
  by_cases h5 : sec < 128
  · clear h
    go_enter Try.func50, Try.ntmps50
    go_wp2
    go_ret
    exact ⟨rfl, (Below.refl _ _).alloc (Nat.le_refl _) _⟩
  by_cases h6 : 4096 < sec
  · clear h
    go_enter Try.func50, Try.ntmps50
    go_wp2
    go_ret
    exact ⟨rfl, (Below.refl _ _).alloc (Nat.le_refl _) _⟩
  have h7 : 8 < n := by omega
  clear h
  go_enter Try.func50, Try.ntmps50
  go_wp2
  go_ret
  exact ⟨rfl, (Below.refl _ _).alloc (Nat.le_refl _) _⟩

set_option maxRecDepth 100000 in
set_option maxHeartbeats 4000000 in
theorem rmay_vers (s : Sup) {A : Option Addr} {n c lo : Nat} {w : World} (hr : Vr w lo A n c s.vs) (h1 : 1 ≤ s.gen ∧ s.gen ≤ 4294967295) (h2 : 1 ≤ s.next ∧ s.next ≤ 4294967295) (h3 : 128 ≤ s.sec ∧ s.sec ≤ 4096) (hn : n ≤ 8) :
    Calls Try.prog 50 #[.agg #[.int .i64 s.gen, .int .i64 s.sec, .int .i64 s.next, .slice A n c]] w fun e w' => e = .returned (.bool (decide (supOk s))) ∧ Below w.heap.size w w' := by
  have HL := Lib.hid hr.1
  have hc1 := hr.2.1
  have hc2 := hr.2.2.1
  have HY : Hid ((∀ i, i < n → verOk s i) → decide (supOk s) = true) := fun h => decide_eq_true ⟨⟨h1.1, h1.2, h2.1, h2.2, h3.1, h3.2, by rw [hr.1]; exact hn⟩, fun i hi => h i (by rw [← hr.1]; exact hi)⟩
  have HN : Hid (∀ i, i < n → ¬ vOk (idAt s.vs i) s.next s.sec (s.vs.getD i Ver.nil) → decide (supOk s) = false) := fun i hi h => decide_eq_false fun h2 => h ((verOk_iff s i).1 (h2.2 i (by rw [hr.1]; exact hi)))
  have HP : Hid (∀ i, (∀ j, j < i → verOk s j) → 0 ≤ idAt s.vs i ∧ (0 < i → 1 ≤ idAt s.vs i)) := idAt_pos s
  have HR := Lib.hid hr
  have HI : Hid (∀ i, verOk s i ↔ vOk (idAt s.vs i) s.next s.sec (s.vs.getD i Ver.nil)) := verOk_iff s
  have HV : Hid (∀ i, idAt s.vs (i + 1) = (s.vs.getD i Ver.nil).id) := idAt_succ s.vs
  have HZ : Hid (idAt s.vs 0 = 0) := rfl
  obtain ⟨gen, sec, next, vs⟩ := s
  simp only at *
  obtain ⟨g1, g2⟩ := h1
  obtain ⟨n1, n2⟩ := h2
  obtain ⟨s1, s2⟩ := h3
  clear hr
  go_enter Try.func50, Try.ntmps50
  go_wp2
  go_loopw [3, 4] (fun s3 s4 wr => ∃ i : Nat, i ≤ n ∧ s3 = .int .i64 i ∧ (∀ j, j < i → verOk ⟨gen, sec, next, vs⟩ j) ∧ Blk wr w.heap.size 32 [.int .i64 gen, .int .i64 sec, .int .i64 next, .slice A n c] ∧ Below w.heap.size w wr)
    (fun s3 _ _ => n - (intOf s3).toNat)
  case atStart => exact ⟨0, Nat.zero_le _, rfl, fun j hj => absurd hj (by omega), Blk.new_at (cs := [.int .i64 gen, .int .i64 sec, .int .i64 next, .slice A n c]) rfl, (Below.refl _ _).alloc (Nat.le_refl _) _⟩
  case round =>
    clear g1 g2 n1 n2
    obtain ⟨i, hi, rfl, hok, hB, hV⟩ := hrel
    have HO := Lib.hid hok
    have hBc := hB.cells
    have hpos := HP.out i hok
    clear hok
    by_cases hlt : i < n
    · obtain ⟨b, o, rfl, _, hbl⟩ := HR.out.at_ (by omega)
      obtain ⟨c0, c1, c2, c3⟩ := (HR.out.below hV (Nat.le_refl _)).cells i hlt
      have hv1 := HV.out i
      have hi1 := HI.out i
      have hn1 := Lib.hid (HN.out i hlt)
      generalize vs.getD i Ver.nil = v at *
      obtain ⟨vid, vroot, vnext, vfx⟩ := v
      simp only at c0 c1 c2 c3 hv1
      have HV1 := Lib.hid hv1
      have HI1 := Lib.hid hi1
      clear hv1 hi1
      have HLa : Hid (∃ last, idAt vs i = last) := ⟨_, rfl⟩
      obtain ⟨last, hlast⟩ := HLa.out
      rw [hlast] at hn1 HI1 hpos
      have HLs := Lib.hid hlast
      clear hlast HLa
      obtain ⟨p0, p1⟩ := hpos
      have HP1 := Lib.hid p1
      clear p1
      go_upto_region 7 with fail
      refine wp_world (fun V => Blk V w.heap.size 32 [.int .i64 gen, .int .i64 sec, .int .i64 next, .slice (some ⟨b, o, none⟩) n c] ∧ Blk V wr.heap.size 97 [.int .i64 vid, .int .i64 vroot, .int .i64 vnext, .bool vfx] ∧ Below w.heap.size w V) ⟨hB.alloc _, Blk.new_at (cs := [.int .i64 vid, .int .i64 vroot, .int .i64 vnext, .bool vfx]) rfl, hV.alloc hV.size _⟩ ?_
      clear c0 c1 c2 c3 hB hV hBc
      rintro V ⟨hB, hG, hV⟩
      have HB := Lib.hid hB
      have hBc := hB.cells
      have hGc := hG.cells
      clear hB hG
      go_cut [76] (fun s76 wx => s76 = .bool (decide ¬ (last < vid ∧ vid < next)) ∧ ∃ q, wx = V.drewN q)
      case first =>
        by_cases k0 : vid < 1
        · have d0 : decide (vid < 1) = true := decide_eq_true k0
          have HD : Hid ((decide ¬ (last < vid ∧ vid < next)) = true) := decide_eq_true (by omega)
          go_quiet (fail)
          go_wp2_with fail
          go_meet
          exact ⟨by rw [HD.out], _, rfl⟩
        have d0 : decide (vid < 1) = false := decide_eq_false k0
        by_cases k1 : next ≤ vid
        · have d1 : decide (next ≤ vid) = true := decide_eq_true k1
          have HD : Hid ((decide ¬ (last < vid ∧ vid < next)) = true) := decide_eq_true (by omega)
          go_quiet (fail)
          go_wp2_with fail
          go_meet
          exact ⟨by rw [HD.out], _, rfl⟩
        have d1 : decide (next ≤ vid) = false := decide_eq_false k1
        by_cases k2 : i = 0
        · have d2 : decide (0 < i) = false := decide_eq_false (by omega)
          have h0 : last = 0 := by rw [← HLs.out, k2]; exact HZ.out
          have HD : Hid ((decide ¬ (last < vid ∧ vid < next)) = false) := decide_eq_false (by omega)
          clear k2
          go_quiet (fail)
          go_wp2_with fail
          go_meet
          exact ⟨by rw [HD.out], _, rfl⟩
        · obtain ⟨j, hj⟩ : ∃ j, i = j + 1 := ⟨i - 1, by omega⟩
          have d2 : decide (0 < i) = true := decide_eq_true (by omega)
          have e1 : (i : Int) - 1 = (j : Int) := by omega
          have hjn : j < n := by omega
          obtain ⟨cp, _⟩ := (HR.out.below hV (Nat.le_refl _)).cells j hjn
          have hp : (vs.getD j Ver.nil).id = last := by rw [← HLs.out, hj]; exact (HV.out j).symm
          rw [hp] at cp
          clear hp hj k2
          by_cases k3 : vid ≤ last
          · have d3 : decide (vid ≤ last) = true := decide_eq_true k3
            have HD : Hid ((decide ¬ (last < vid ∧ vid < next)) = true) := decide_eq_true (by omega)
            go_quiet (fail)
            go_wp2_with fail
            go_meet
            exact ⟨by rw [HD.out], _, rfl⟩
          · have d3 : decide (vid ≤ last) = false := decide_eq_false k3
            have HD : Hid ((decide ¬ (last < vid ∧ vid < next)) = false) := decide_eq_false (by omega)
            go_quiet (fail)
            go_wp2_with fail
            go_meet
            exact ⟨by rw [HD.out], _, rfl⟩
      case rest =>
        obtain ⟨rfl, q, rfl⟩ := hcut
        by_cases k12 : last < vid ∧ vid < next
        · rw [show (decide ¬ (last < vid ∧ vid < next)) = false by simp [k12]]
          by_cases k3 : vroot = 0 ∨ (50 ≤ vroot ∧ vroot < sec)
          · by_cases k4 : 1 ≤ vnext ∧ vnext ≤ 16777216
            · have HNW : Hid (∀ j, j < i + 1 → verOk ⟨gen, sec, next, vs⟩ j) := fun j hj => by
                by_cases hji : j < i
                · exact HO.out j hji
                · obtain rfl : j = i := by omega
                  exact HI1.out.2 ⟨k12.1, k12.2, k3, k4⟩
              obtain ⟨k4a, k4b⟩ := k4
              clear k12
              by_cases k5 : vroot = 0
              · clear k3
                go_wp2
                go_roundw
                case rel => exact ⟨i + 1, by omega, by go_num, HNW.out, HB.out.drewN q, below_drewN hV q⟩
                case measure => simp [intOf]; omega
              · have k6 : 50 ≤ vroot := by omega
                have k7 : vroot < sec := by omega
                clear k3
                go_wp2
                go_roundw
                case rel => exact ⟨i + 1, by omega, by go_num, HNW.out, HB.out.drewN q, below_drewN hV q⟩
                case measure => simp [intOf]; omega
            · have HF := Lib.hid (hn1.out (fun h => k4 h.2.2.2))
              clear k12
              by_cases k5 : vroot = 0
              · clear k3
                by_cases k8 : vnext < 1
                · clear k4
                  go_wp2
                  go_ret
                  exact ⟨by rw [HF.out]; rfl, below_drewN hV q⟩
                · have k9 : 16777216 < vnext := by omega
                  clear k4
                  go_wp2
                  go_ret
                  exact ⟨by rw [HF.out]; rfl, below_drewN hV q⟩
              · have k6 : 50 ≤ vroot := by omega
                have k7 : vroot < sec := by omega
                clear k3
                by_cases k8 : vnext < 1
                · clear k4
                  go_wp2
                  go_ret
                  exact ⟨by rw [HF.out]; rfl, below_drewN hV q⟩
                · have k9 : 16777216 < vnext := by omega
                  clear k4
                  go_wp2
                  go_ret
                  exact ⟨by rw [HF.out]; rfl, below_drewN hV q⟩
          · have HF := Lib.hid (hn1.out (fun h => k3 h.2.2.1))
            have k5 : ¬ vroot = 0 := by omega
            clear k12
            by_cases k6 : vroot < 50
            · clear k3
              go_wp2
              go_ret
              exact ⟨by rw [HF.out]; rfl, below_drewN hV q⟩
            · have k7 : sec ≤ vroot := by omega
              clear k3
              go_wp2
              go_ret
              exact ⟨by rw [HF.out]; rfl, below_drewN hV q⟩
        · rw [show (decide ¬ (last < vid ∧ vid < next)) = true by simp only [decide_eq_true_eq]; exact k12]
          have HF := Lib.hid (hn1.out (fun h => k12 ⟨h.1, h.2.1⟩))
          clear k12
          go_wp2
          go_ret
          exact ⟨by rw [HF.out]; rfl, below_drewN hV q⟩
    · obtain rfl : i = n := by omega
      go_wp2
      go_ret
      exact ⟨by rw [HY.out HO.out]; rfl, hV⟩

theorem rmay_any (s : Sup) {A : Option Addr} {n c lo : Nat} {w : World} (hr : Vr w lo A n c s.vs) :
    Calls Try.prog 50 #[supV s A n c] w fun e w' => e = .returned (.bool (decide (supOk s))) ∧ Below w.heap.size w w' := by
  by_cases h : (1 ≤ s.gen ∧ s.gen ≤ 4294967295) ∧ (1 ≤ s.next ∧ s.next ≤ 4294967295) ∧ (128 ≤ s.sec ∧ s.sec ≤ 4096) ∧ n ≤ 8
  · exact rmay_vers s hr h.1 h.2.1 h.2.2.1 h.2.2.2
  · rw [sup_no (fun h2 => h (by obtain ⟨g1, g2, g3, g4, g5, g6, g7⟩ := h2; rw [hr.1] at g7; exact ⟨⟨g1, g2⟩, ⟨g3, g4⟩, ⟨g5, g6⟩, g7⟩))]
    exact rmay_head s.gen s.sec s.next h
end Go.Proofs.Ytdbhagnnpjcpmaa
