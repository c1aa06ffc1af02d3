/- kistref05.block: the eight words behind 64 bytes. -/
import Derived.Test.YtgfmpgflbphpcaaSha3
namespace Go.Proofs.Ytgfmpgflbphpcaa
open Go.RowKit

def is (l : List Nat) : List Value := l.map fun n : Nat => .int .i64 (n : Int)
theorem length_is (l : List Nat) : (is l).length = l.length := by simp [is]
theorem is_oneCell (l : List Nat) : ∀ u ∈ is l, u.oneCell' = true := by
  intro u hu
  obtain ⟨n, _, rfl⟩ := List.mem_map.1 hu
  rfl
theorem is_snoc (l : List Nat) (x : Nat) : is l ++ [Value.int .i64 (x : Int)] = is (l ++ [x]) := by simp [is]
theorem is_get (l : List Nat) (i : Nat) (h : i < (is l).length) : (is l)[i] = .int .i64 (l.getD i 0 : Nat) := by
  have h2 : i < l.length := by simpa [is] using h
  simp [is, List.getD_eq_getElem?_getD, List.getElem?_eq_getElem h2]
theorem info3 : (Try.prog.info? 3).map (fun i => (i.zero, i.size, i.bytes)) = some (some (.int .i64 0), 1, 8) := by kernel_rfl
/-- an own slice of numbers: its j-th -/
theorem own_is {w : World} {base n c : Nat} {A : Option Addr} {l : List Nat} (h : Own w base 3 1 A n c (is l)) (hn : 0 < n) : ∃ g, A = some ⟨g, 0, none⟩ ∧ base ≤ g ∧ g < w.heap.size ∧ ∀ j, j < l.length → w.cell? ⟨g, j, none⟩ = some (.int .i64 (l.getD j 0 : Nat)) := by
  obtain ⟨g, rfl, h1, h2⟩ := h.head hn
  refine ⟨g, rfl, h1, h2, fun j hj => ?_⟩
  obtain ⟨g', e, _, _, hc, _⟩ := h.cell (k := j) (by rw [length_is]; exact hj)
  injection e with e
  injection e with e
  subst e
  rw [hc, is_get]

set_option maxRecDepth 100000 in
set_option maxHeartbeats 4000000 in
theorem word_any (i : Nat) (w : World) (hi : i < 64) : Calls Try.prog 52 #[.int .i64 i] w fun e w' => e = .returned (.int .i64 (shaK.getD i 0 : Nat)) ∧ Below w.heap.size w w' := by
  have h64 : (i : Int) < 64 := by omega
  go_enter Try.func52, Try.ntmps52
  go_wp2
  go_ret
  refine ⟨?_, (Below.refl _ _).alloc (Nat.le_refl _) _⟩
  show Ending.returned ((is shaK)[i]'(by rw [length_is]; exact hi)) = _
  rw [is_get]

theorem sig0_i64 (x : Nat) (h : x < 4294967296) : bits .xor .i64 (bits .xor .i64 (rotr x 7 : Nat) (rotr x 18 : Nat)) ((x : Int) / 8) = ((sig0 x : Nat) : Int) := by
  have h1 := rotr_lt h (n := 7) (by omega) (by omega)
  have h2 := rotr_lt h (n := 18) (by omega) (by omega)
  have h3 := xor_lt h1 h2
  rw [i64_xor _ _ (by omega) (by omega), show (x : Int) / 8 = ((x / 8 : Nat) : Int) by omega, i64_xor _ _ (by omega) (by omega)]
  rfl
theorem sig1_i64 (x : Nat) (h : x < 4294967296) : bits .xor .i64 (bits .xor .i64 (rotr x 17 : Nat) (rotr x 19 : Nat)) ((x : Int) / 1024) = ((sig1 x : Nat) : Int) := by
  have h1 := rotr_lt h (n := 17) (by omega) (by omega)
  have h2 := rotr_lt h (n := 19) (by omega) (by omega)
  have h3 := xor_lt h1 h2
  rw [i64_xor _ _ (by omega) (by omega), show (x : Int) / 1024 = ((x / 1024 : Nat) : Int) by omega, i64_xor _ _ (by omega) (by omega)]
  rfl

theorem below_cell {W V : World} (h : Below W.heap.size W V) {b o : Nat} {v : Value} (hc : W.cell? ⟨b, o, none⟩ = some v) : V.cell? ⟨b, o, none⟩ = some v :=
  (h.cell (p := ⟨b, o, none⟩) (block_lt_of_cell (a := ⟨b, o, none⟩) hc)).trans hc
theorem wr_add (x y : Nat) (h : x + y < 9223372036854775808) : IntKind.i64.wrap ((x : Int) + y) = (x : Int) + y := IntWalk.i64_in _ (by omega)
theorem wr_add3 (x y z : Nat) (h : x + y + z < 9223372036854775808) : IntKind.i64.wrap ((x : Int) + y + z) = (x : Int) + y + z := IntWalk.i64_in _ (by omega)
theorem md_add (x y : Nat) : ((x : Int) + y).tmod 4294967296 = (((x + y) % 4294967296 : Nat) : Int) := by rw [Int.tmod_eq_emod_of_nonneg (by omega)]; omega
theorem md_add3 (x y z u : Nat) (h : y + z = u) : ((x : Int) + y + z).tmod 4294967296 = (((x + u) % 4294967296 : Nat) : Int) := by rw [Int.tmod_eq_emod_of_nonneg (by omega)]; omega
theorem wr_mod (x : Nat) : IntKind.i64.wrap ((x % 4294967296 : Nat) : Int) = ((x % 4294967296 : Nat) : Int) := IntWalk.i64_in _ (by omega)
theorem addW_snoc (s x : List Nat) (hs : s.length = 8) (hx : x.length = 8) (j : Nat) (hj : j < 8) : (addW s x).take (j + 1) = (addW s x).take j ++ [(s.getD j 0 + x.getD j 0) % 4294967296] := by
  obtain ⟨a, b, c, d, e, f, g, k, rfl⟩ := list8 hs
  obtain ⟨a', b', c', d', e', f', g', k', rfl⟩ := list8 hx
  have hi' : j = 0 ∨ j = 1 ∨ j = 2 ∨ j = 3 ∨ j = 4 ∨ j = 5 ∨ j = 6 ∨ j = 7 := by omega
  rcases hi' with rfl | rfl | rfl | rfl | rfl | rfl | rfl | rfl <;> rfl
theorem rd_is {w : World} {lo : Nat} {A : Option Addr} {l : List Nat} (h : Rd w lo A (is l)) (hl : 0 < l.length) : ∃ b o, A = some ⟨b, o, none⟩ ∧ lo ≤ b ∧ b < w.heap.size ∧ ∀ j, j < l.length → w.cell? ⟨b, o + j, none⟩ = some (.int .i64 (l.getD j 0 : Nat)) := by
  obtain ⟨b, o, e, h1, h2, hc⟩ := h (by rw [length_is]; exact hl)
  exact ⟨b, o, e, h1, h2, fun j hj => by rw [hc j (by rw [length_is]; exact hj), is_get]⟩
theorem quiet_xor (a b : Int) (w : World) (n : Nat) : Calls Try.prog 36 #[.int .i64 a, .int .i64 b] (w.drewN n) fun e w'' => e = .returned (.int .i64 (bits .xor .i64 a b)) ∧ ∃ m, w'' = w.drewN m := quiet_left (xor_any a b _)
theorem xor3_i64 (a b c : Nat) (ha : a < 4294967296) (hb : b < 4294967296) (hc : c < 4294967296) : bits .xor .i64 (bits .xor .i64 (a : Int) (b : Int)) (c : Int) = ((a ^^^ b ^^^ c : Nat) : Int) := by
  have h3 := xor_lt ha hb
  rw [i64_xor _ _ (by omega) (by omega), i64_xor _ _ (by omega) (by omega)]
theorem ch_i64 (e f g : Nat) (he : e < 4294967296) (hf : f < 4294967296) (hg : g < 4294967296) : bits .xor .i64 (bits .and .i64 (e : Int) (f : Int)) (bits .and .i64 ((4294967295 - e : Nat) : Int) (g : Int)) = (((e &&& f) ^^^ ((4294967295 - e) &&& g) : Nat) : Int) := by
  have h1 : e &&& f < 4294967296 := and_lt he
  have h2 : (4294967295 - e) &&& g < 4294967296 := and_lt (by omega)
  rw [i64_and _ _ (by omega) (by omega), i64_and _ _ (by omega) (by omega), i64_xor _ _ (by omega) (by omega)]
theorem maj_i64 (a b c : Nat) (ha : a < 4294967296) (hb : b < 4294967296) (hc : c < 4294967296) : bits .xor .i64 (bits .xor .i64 (bits .and .i64 (a : Int) (b : Int)) (bits .and .i64 (a : Int) (c : Int))) (bits .and .i64 (b : Int) (c : Int)) = (((a &&& b) ^^^ (a &&& c) ^^^ (b &&& c) : Nat) : Int) := by
  rw [i64_and _ _ (by omega) (by omega), i64_and _ _ (by omega) (by omega), i64_and _ _ (by omega) (by omega), xor3_i64 _ _ _ (and_lt ha) (and_lt ha) (and_lt hb)]
theorem ch_lt (e f g : Nat) (he : e < 4294967296) : (e &&& f) ^^^ ((4294967295 - e) &&& g) < 4294967296 := xor_lt (and_lt he) (and_lt (by omega))
theorem maj_lt (a b c : Nat) (ha : a < 4294967296) (hb : b < 4294967296) : (a &&& b) ^^^ (a &&& c) ^^^ (b &&& c) < 4294967296 := xor_lt (xor_lt (and_lt ha) (and_lt ha)) (and_lt hb)

set_option maxRecDepth 100000 in
set_option maxHeartbeats 4000000 in
theorem rblock_any {S B : Option Addr} {cS mB cB lo : Nat} {s : List Nat} {b : List UInt8} {w : World} (hs : Rd w lo S (is s)) (hW : W8 s) (hb : Bs w lo B mB cB b) (hm : 64 ≤ mB) :
    Calls Try.prog 40 #[.slice S 8 cS, .slice B mB cB] w fun e w' => ∃ A' c', e = .returned (.slice A' 8 c') ∧ Own w' w.heap.size 3 1 A' 8 c' (is (shaBlock s b)) ∧ Below w.heap.size w w' := by
  obtain ⟨bb, bo, rfl, hbl, hbw⟩ := hb.at_ (by omega)
  have HB := Lib.hid hb
  clear hb
  go_enter Try.func40, Try.ntmps40
  go_wp2
  go_loopw [5, 6] (fun s5 s6 wr => ∃ (i : Nat) (A5 : Option Addr) (c5 : Nat), i ≤ 16 ∧ s6 = .int .i64 i ∧ s5 = .slice A5 i c5 ∧ Own wr w.heap.size 3 1 A5 i c5 (is (sched b i)) ∧ Below w.heap.size w wr)
    (fun _ s6 _ => 16 - (intOf s6).toNat)
  case atStart => exact ⟨0, none, 0, by omega, rfl, rfl, Own.nil_ _ _ _ _, Below.refl _ _⟩
  case round =>
    obtain ⟨i, A5, c5, hi, rfl, rfl, ho, hbw2⟩ := hrel
    by_cases hlt : i < 16
    · have HI := Lib.hid hlt
      have hc := HB.out.below hbw2 (Nat.le_refl _)
      have c0 := hc.cell (4 * i) (by omega)
      have c1 := hc.cell (4 * i + 1) (by omega)
      have c2 := hc.cell (4 * i + 2) (by omega)
      have c3 := hc.cell (4 * i + 3) (by omega)
      have HS : Hid (sched b (i + 1) = sched b i ++ [if i < 16 then word4 b i else _]) := rfl
      generalize hy0 : b.getD (4 * i) 0 = y0 at *
      generalize hy1 : b.getD (4 * i + 1) 0 = y1 at *
      generalize hy2 : b.getD (4 * i + 2) 0 = y2 at *
      generalize hy3 : b.getD (4 * i + 3) 0 = y3 at *
      have HY : Hid (word4 b i = y0.toNat * 16777216 + y1.toNat * 65536 + y2.toNat * 256 + y3.toNat) := Lib.hid (by unfold word4; rw [hy0, hy1, hy2, hy3])
      clear hy0 hy1 hy2 hy3
      have HO := Lib.hid ho
      have hne := Lib.hid (own_ne ho hbw)
      clear ho hc
      have i0 : IntKind.i64.wrap (4 * (i : Int)) = ((4 * i : Nat) : Int) := by rw [IntWalk.i64_in _ (by omega)]; omega
      have i1 : IntKind.i64.wrap (((4 * i : Nat) : Int) + 1) = ((4 * i + 1 : Nat) : Int) := by rw [IntWalk.i64_in _ (by omega)]; omega
      have i2 : IntKind.i64.wrap (((4 * i : Nat) : Int) + 2) = ((4 * i + 2 : Nat) : Int) := by rw [IntWalk.i64_in _ (by omega)]; omega
      have i3 : IntKind.i64.wrap (((4 * i : Nat) : Int) + 3) = ((4 * i + 3 : Nat) : Int) := by rw [IntWalk.i64_in _ (by omega)]; omega
      have b0 : ((4 * i + 3 : Nat) : Int) < (mB : Int) := by omega
      have b1 : ((4 * i + 2 : Nat) : Int) < (mB : Int) := by omega
      have b2 : ((4 * i + 1 : Nat) : Int) < (mB : Int) := by omega
      have b4 : (i : Int) < 64 := by omega
      have b3 : ((4 * i : Nat) : Int) < (mB : Int) := by omega
      have l0 := y0.toNat_lt
      have l1 := y1.toNat_lt
      have l2 := y2.toNat_lt
      have l3 := y3.toNat_lt
      have HA := Lib.hid (hbw2.size)
      have v0 : IntKind.i64.wrap (y0.toNat : Int) = (y0.toNat : Int) := IntWalk.i64_in _ (by omega)
      have v1 : IntKind.i64.wrap (y1.toNat : Int) = (y1.toNat : Int) := IntWalk.i64_in _ (by omega)
      have v2 : IntKind.i64.wrap (y2.toNat : Int) = (y2.toNat : Int) := IntWalk.i64_in _ (by omega)
      have v3 : IntKind.i64.wrap (y3.toNat : Int) = (y3.toNat : Int) := IntWalk.i64_in _ (by omega)
      have m0 : IntKind.i64.wrap ((y0.toNat : Int) * 16777216) = (y0.toNat : Int) * 16777216 := IntWalk.i64_in _ (by omega)
      have m1 : IntKind.i64.wrap ((y1.toNat : Int) * 65536) = (y1.toNat : Int) * 65536 := IntWalk.i64_in _ (by omega)
      have m2 : IntKind.i64.wrap ((y2.toNat : Int) * 256) = (y2.toNat : Int) * 256 := IntWalk.i64_in _ (by omega)
      have a1 : IntKind.i64.wrap ((y0.toNat : Int) * 16777216 + (y1.toNat : Int) * 65536) = (y0.toNat : Int) * 16777216 + (y1.toNat : Int) * 65536 := IntWalk.i64_in _ (by omega)
      have a2 : IntKind.i64.wrap ((y0.toNat : Int) * 16777216 + (y1.toNat : Int) * 65536 + (y2.toNat : Int) * 256) = (y0.toNat : Int) * 16777216 + (y1.toNat : Int) * 65536 + (y2.toNat : Int) * 256 := IntWalk.i64_in _ (by omega)
      have a3 : IntKind.i64.wrap ((y0.toNat : Int) * 16777216 + (y1.toNat : Int) * 65536 + (y2.toNat : Int) * 256 + (y3.toNat : Int)) = (y0.toNat : Int) * 16777216 + (y1.toNat : Int) * 65536 + (y2.toNat : Int) * 256 + (y3.toNat : Int) := IntWalk.i64_in _ (by omega)
      generalize 4 * i + 1 = j1 at *
      generalize 4 * i + 2 = j2 at *
      generalize 4 * i + 3 = j3 at *
      generalize 4 * i = j0 at *
      go_wp2
      go_region_held3 (fun w' => w'.cell? ⟨bb, bo + j0, none⟩ = some (.int .u8 (y0.toNat : Int)) ∧ w'.cell? ⟨bb, bo + j1, none⟩ = some (.int .u8 (y1.toNat : Int)) ∧ w'.cell? ⟨bb, bo + j2, none⟩ = some (.int .u8 (y2.toNat : Int)) ∧ w'.cell? ⟨bb, bo + j3, none⟩ = some (.int .u8 (y3.toNat : Int))) (first | go_keep | (exact ⟨hg6.cell (by go_simp) hne.out, hg6.cell (by go_simp) hne.out, hg6.cell (by go_simp) hne.out, hg6.cell (by go_simp) hne.out⟩))
        ((refine step_app rfl (.tmp 27) (.tmp 61) 41 rfl 3 1 Try.underlying41 info3 rfl (by omega) rfl (HO.out.alloc _) rfl (rd_one _ _ rfl) rfl (one_int _ _) (by omega) (by omega) (by have := HA.out; simp; omega) ?_; intro A6 c6 w6 ho6 hg6 _))
      have hb6 := below_own (hbw2.alloc hbw2.size _).drew (HO.out.alloc _).drew hg6 (Nat.le_refl _) (by have := hbw2.size; simp; omega)
      clear v0 v1 v2 v3 m0 m1 m2 a1 a2 a3
      go_wp2
      go_roundw
      case rel =>
        refine ⟨i + 1, A6, c6, by omega, by go_num, rfl, ?_, hb6⟩
        rw [HS.out, if_pos HI.out, HY.out, ← is_snoc]
        exact ho6
      case measure => simp [intOf]; omega
    · have h16 : (i : Int) = 16 := by omega
      rw [h16]
      obtain rfl : i = 16 := by omega
      clear h16 hlt hi
      go_wp2
      go_loopw [5, 7] (fun s5 s7 wr => ∃ (i : Nat) (A5 : Option Addr) (c5 : Nat), 16 ≤ i ∧ i ≤ 64 ∧ s7 = .int .i64 i ∧ s5 = .slice A5 i c5 ∧ Own wr w.heap.size 3 1 A5 i c5 (is (sched b i)) ∧ Below w.heap.size w wr)
        (fun _ s7 _ => 64 - (intOf s7).toNat)
      case atStart => exact ⟨16, A5, c5, by omega, by omega, rfl, rfl, ho, hbw2⟩
      case round =>
        clear ho hbw2
        obtain ⟨i, A5, c5, hi0, hi, rfl, rfl, ho, hbw2⟩ := hrel
        by_cases hlt : i < 64
        · have hL := length_sched b i
          obtain ⟨g5, rfl, hg5, _, hgc⟩ := own_is ho (by omega)
          have HS : Hid (sched b (i + 1) = sched b i ++ [if i < 16 then word4 b i else ((sched b i).getD (i - 16) 0 + sig0 ((sched b i).getD (i - 15) 0) + (sched b i).getD (i - 7) 0 + sig1 ((sched b i).getD (i - 2) 0)) % 4294967296]) := rfl
          have hX := sched_getD b i (i - 15)
          have hY := sched_getD b i (i - 2)
          have hP := sched_getD b i (i - 16)
          have hQ := sched_getD b i (i - 7)
          have x15 := hgc (i - 15) (by omega)
          have x2 := hgc (i - 2) (by omega)
          have x16 := Lib.hid (hgc (i - 16) (by omega))
          have x7 := Lib.hid (hgc (i - 7) (by omega))
          clear hgc
          generalize (sched b i).getD (i - 15) 0 = X at *
          generalize (sched b i).getD (i - 2) 0 = Y at *
          generalize (sched b i).getD (i - 16) 0 = P at *
          generalize (sched b i).getD (i - 7) 0 = Q at *
          have hs0 := sig0_lt hX
          have hs1 := sig1_lt hY
          have HE := Lib.hid (And.intro (sig0_i64 X hX) (sig1_i64 Y hY))
          have T7 : Hid (∀ w, Calls Try.prog 51 #[.int .i64 X, .int .i64 7] w fun e w' => e = .returned (.int .i64 (rotr X 7 : Nat)) ∧ ∃ q, w' = w.drewN q) := fun w => rturn_any X 7 w hX (by decide)
          have T18 : Hid (∀ w, Calls Try.prog 51 #[.int .i64 X, .int .i64 18] w fun e w' => e = .returned (.int .i64 (rotr X 18 : Nat)) ∧ ∃ q, w' = w.drewN q) := fun w => rturn_any X 18 w hX (by decide)
          have T17 : Hid (∀ w, Calls Try.prog 51 #[.int .i64 Y, .int .i64 17] w fun e w' => e = .returned (.int .i64 (rotr Y 17 : Nat)) ∧ ∃ q, w' = w.drewN q) := fun w => rturn_any Y 17 w hY (by decide)
          have T19 : Hid (∀ w, Calls Try.prog 51 #[.int .i64 Y, .int .i64 19] w fun e w' => e = .returned (.int .i64 (rotr Y 19 : Nat)) ∧ ∃ q, w' = w.drewN q) := fun w => rturn_any Y 19 w hY (by decide)
          have HI := Lib.hid hi0
          have HL := Lib.hid hlt
          have HO := Lib.hid ho
          have HB2 := Lib.hid hbw2
          clear ho hL hbw2
          have i15 : IntKind.i64.wrap ((i : Int) - 15) = ((i - 15 : Nat) : Int) := by rw [IntWalk.i64_in _ (by omega)]; omega
          have i2 : IntKind.i64.wrap ((i : Int) - 2) = ((i - 2 : Nat) : Int) := by rw [IntWalk.i64_in _ (by omega)]; omega
          have i16 : IntKind.i64.wrap ((i : Int) - 16) = ((i - 16 : Nat) : Int) := by rw [IntWalk.i64_in _ (by omega)]; omega
          have i7 : IntKind.i64.wrap ((i : Int) - 7) = ((i - 7 : Nat) : Int) := by rw [IntWalk.i64_in _ (by omega)]; omega
          have e15 : ((i : Int) - 15) = ((i - 15 : Nat) : Int) := by omega
          have e2 : ((i : Int) - 2) = ((i - 2 : Nat) : Int) := by omega
          have l15 : ((i - 15 : Nat) : Int) < (i : Int) := by omega
          have l2 : ((i - 2 : Nat) : Int) < (i : Int) := by omega
          have l16 : ((i - 16 : Nat) : Int) < (i : Int) := by omega
          have l7 : ((i - 7 : Nat) : Int) < (i : Int) := by omega
          have HN := Lib.hid (And.intro i16 (And.intro i7 (And.intro l16 l7)))
          clear i16 i7 l16 l7
          generalize i - 15 = j15 at *
          generalize i - 2 = j2 at *
          generalize i - 16 = j16 at *
          generalize i - 7 = j7 at *
          go_upto_region 13 with (first
            | ((with_reducible refine (T7.out _).mono ?_); rintro e w' ⟨rfl, q1, rfl⟩)
            | ((with_reducible refine (T18.out _).mono ?_); rintro e w' ⟨rfl, q2, rfl⟩)
            | ((with_reducible refine (T17.out _).mono ?_); rintro e w' ⟨rfl, q3, rfl⟩)
            | ((with_reducible refine (T19.out _).mono ?_); rintro e w' ⟨rfl, q4, rfl⟩)
            | (go_at_call 36; refine (xor_any _ _ _).mono ?_; rintro e w' ⟨rfl, rfl⟩))
          have hs0' := Lib.hid hs0
          have hs1' := Lib.hid hs1
          rw [HE.out.1, HE.out.2]
          generalize sig0 X = s0 at *
          generalize sig1 Y = s1 at *
          refine wp_world (fun V => Own V w.heap.size 3 1 (some ⟨g5, 0, none⟩) i c5 (is (sched b i)) ∧ Below w.heap.size w V ∧ V.cell? ⟨g5, j16, none⟩ = some (.int .i64 P) ∧ V.cell? ⟨g5, j7, none⟩ = some (.int .i64 Q)) ⟨HO.out.drewN _, below_drewN HB2.out _, x16.out, x7.out⟩ ?_
          clear HO HB2 x16 x7 x15 x2 i15 i2 e15 e2 l15 l2 T7 T18 T17 T19 HE
          rintro V ⟨ho, hbw2, x16, x7⟩
          obtain ⟨i16, i7, l16, l7⟩ := HN.out
          have HO := Lib.hid ho
          have HB2 := Lib.hid hbw2
          have HA := Lib.hid hbw2.size
          have v1 : IntKind.i64.wrap ((P : Int) + s0) = (P : Int) + s0 := IntWalk.i64_in _ (by omega)
          have v2 : IntKind.i64.wrap ((P : Int) + s0 + Q) = (P : Int) + s0 + Q := IntWalk.i64_in _ (by omega)
          have v3 : IntKind.i64.wrap ((P : Int) + s0 + Q + s1) = (P : Int) + s0 + Q + s1 := IntWalk.i64_in _ (by omega)
          have v4 : ((P : Int) + s0 + Q + s1).tmod 4294967296 = (((P + s0 + Q + s1) % 4294967296 : Nat) : Int) := by rw [Int.tmod_eq_emod_of_nonneg (by omega)]; omega
          have v5 : IntKind.i64.wrap (((P + s0 + Q + s1) % 4294967296 : Nat) : Int) = (((P + s0 + Q + s1) % 4294967296 : Nat) : Int) := IntWalk.i64_in _ (by omega)
          clear ho hbw2
          generalize (P + s0 + Q + s1) % 4294967296 = R at *
          go_region_law (first | (refine step_app rfl (.tmp 93) (.tmp 110) 41 rfl 3 1 Try.underlying41 info3 rfl (by omega) rfl (HO.out.alloc _) rfl (rd_one _ _ rfl) rfl (one_int _ _) (by omega) (by omega) (by have := HA.out; simp; omega) ?_; intro A6 c6 w6 ho6 hg6 _))
          all_goals
            have hb6 := below_own (HB2.out.alloc HB2.out.size _).drew (HO.out.alloc _).drew hg6 (Nat.le_refl _) (by have := HA.out; simp; omega)
            clear v1 v2 v3 v4 v5 i16 i7 x16 x7
            go_wp2
            go_roundw
            case rel =>
              refine ⟨i + 1, A6, c6, by have := HI.out; omega, by have := HL.out; omega, by go_num, rfl, ?_, hb6⟩
              rw [HS.out, if_neg (by have := HI.out; omega), ← is_snoc]
              exact ho6
            case measure => have := HL.out; simp [intOf]; omega
        · have h64 : (i : Int) = 64 := by omega
          rw [h64]
          obtain rfl : i = 64 := by omega
          clear h64 hlt hi hi0
          have Hs := Lib.hid hs
          clear hs
          go_wp2_with (at_builtin; refine wpList_app rfl (.tmp 112) (.tmp 113) 41 rfl 3 1 Try.underlying41 info3 rfl (by omega) rfl (Own.nil_ _ w.heap.size 3 1) rfl (Hs.out.below hbw2 (Nat.le_refl _)) (by rw [length_is, hW.1]) (is_oneCell _) (by omega) (by omega) hbw2.size ?_; intro A12 c12 w12 ho12 hg12 _; rw [Nat.zero_add, List.nil_append] at ho12; rw [Nat.zero_add])
          obtain ⟨g5, rfl, hg5, _, _⟩ := own_is ho (by omega)
          have hW12 := ho.keep hg12 (Or.inr (by simp))
          have b12 := below_own hbw2 (Own.nil_ _ w.heap.size 3 1) hg12 (Nat.le_refl _) hbw2.size
          have hWc : Hid (∀ V, Below w12.heap.size w12 V → ∀ j, j < 64 → V.cell? ⟨g5, j, none⟩ = some (.int .i64 ((sched b 64).getD j 0 : Nat))) := by
            obtain ⟨g', e, _, hlt', hc⟩ := own_is hW12 (by omega)
            injection e with e
            injection e with e
            subst e
            intro V hV j hj
            exact (hV.cell (p := ⟨g5, j, none⟩) hlt').trans (hc j (by rw [length_sched]; exact hj))
          have HB12 := Lib.hid b12
          have hWb : Hid (∀ j, (sched b 64).getD j 0 < 4294967296) := fun j => sched_getD _ 64 j
          have hsb : Hid (shaBlock s b = addW s (shaRounds s (sched b 64) 64)) := rfl
          clear ho hbw2 hg12 hW12 HB
          generalize sched b 64 = W at *
          go_loopw [12, 13] (fun s12 s13 wr => ∃ (n : Nat) (A12 : Option Addr) (c12 : Nat), n ≤ 64 ∧ s13 = .int .i64 n ∧ s12 = .slice A12 8 c12 ∧ Own wr w.heap.size 3 1 A12 8 c12 (is (shaRounds s W n)) ∧ Below w12.heap.size w12 wr)
            (fun _ s13 _ => 64 - (intOf s13).toNat)
          case atStart => exact ⟨0, A12, c12, by omega, rfl, rfl, ho12, Below.refl _ _⟩
          case round =>
            clear ho12
            obtain ⟨n, A12, c12, hn, rfl, rfl, ho12, hb12⟩ := hrel
            by_cases hlt : n < 64
            · obtain ⟨a, b, c, d, e, f, g, z, hx, ha, hb, hc, hd, he, hf, hg, hz⟩ := (hW.rounds W n).cases
              have HS1 : Hid (shaRounds s W (n + 1) = shaStep (shaRounds s W n) (shaK.getD n 0) (W.getD n 0)) := rfl
              rw [hx] at ho12
              have HX := Lib.hid hx
              clear hx
              obtain ⟨g12, rfl, hg12, hl12, _⟩ := own_is ho12 (by omega)
              have cells : Hid (∀ V, Own V w.heap.size 3 1 (some ⟨g12, 0, none⟩) 8 c12 (is [a, b, c, d, e, f, g, z]) →
                  V.cell? ⟨g12, 0, none⟩ = some (.int .i64 a) ∧ V.cell? ⟨g12, 1, none⟩ = some (.int .i64 b) ∧ V.cell? ⟨g12, 2, none⟩ = some (.int .i64 c) ∧ V.cell? ⟨g12, 3, none⟩ = some (.int .i64 d) ∧
                  V.cell? ⟨g12, 4, none⟩ = some (.int .i64 e) ∧ V.cell? ⟨g12, 5, none⟩ = some (.int .i64 f) ∧ V.cell? ⟨g12, 6, none⟩ = some (.int .i64 g) ∧ V.cell? ⟨g12, 7, none⟩ = some (.int .i64 z)) := fun V hV => by
                obtain ⟨g', e', _, _, hc⟩ := own_is hV (by omega)
                injection e' with e'
                injection e' with e'
                subst e'
                exact ⟨hc 0 (by simp), hc 1 (by simp), hc 2 (by simp), hc 3 (by simp), hc 4 (by simp), hc 5 (by simp), hc 6 (by simp), hc 7 (by simp)⟩
              have hkn := shaK_getD n
              have hwn := hWb.out n
              have hWn : Hid (∀ V, Below w12.heap.size w12 V → V.cell? ⟨g5, n, none⟩ = some (.int .i64 (W.getD n 0 : Nat))) := fun V hV => hWc.out V hV n hlt
              have hwd : Hid (∀ V, Calls Try.prog 52 #[.int .i64 n] V fun e w' => e = .returned (.int .i64 (shaK.getD n 0 : Nat)) ∧ Below V.heap.size V w') := fun V => word_any n V hlt
              generalize shaK.getD n 0 = kn at *
              generalize W.getD n 0 = wn at *
              have HB := Lib.hid (And.intro ho12 hb12)
              obtain ⟨x0, x1, x2, x3, x4, x5, x6, x7⟩ := cells.out _ ho12
              have n64 : (n : Int) < 64 := by omega
              have T6 : Hid (∀ w, Calls Try.prog 51 #[.int .i64 e, .int .i64 6] w fun u w' => u = .returned (.int .i64 (rotr e 6 : Nat)) ∧ ∃ q, w' = w.drewN q) := fun w => rturn_any e 6 w he (by decide)
              have T11 : Hid (∀ w, Calls Try.prog 51 #[.int .i64 e, .int .i64 11] w fun u w' => u = .returned (.int .i64 (rotr e 11 : Nat)) ∧ ∃ q, w' = w.drewN q) := fun w => rturn_any e 11 w he (by decide)
              have T25 : Hid (∀ w, Calls Try.prog 51 #[.int .i64 e, .int .i64 25] w fun u w' => u = .returned (.int .i64 (rotr e 25 : Nat)) ∧ ∃ q, w' = w.drewN q) := fun w => rturn_any e 25 w he (by decide)
              have T2 : Hid (∀ w, Calls Try.prog 51 #[.int .i64 a, .int .i64 2] w fun u w' => u = .returned (.int .i64 (rotr a 2 : Nat)) ∧ ∃ q, w' = w.drewN q) := fun w => rturn_any a 2 w ha (by decide)
              have T13 : Hid (∀ w, Calls Try.prog 51 #[.int .i64 a, .int .i64 13] w fun u w' => u = .returned (.int .i64 (rotr a 13 : Nat)) ∧ ∃ q, w' = w.drewN q) := fun w => rturn_any a 13 w ha (by decide)
              have T22 : Hid (∀ w, Calls Try.prog 51 #[.int .i64 a, .int .i64 22] w fun u w' => u = .returned (.int .i64 (rotr a 22 : Nat)) ∧ ∃ q, w' = w.drewN q) := fun w => rturn_any a 22 w ha (by decide)
              have P1 := rotr_lt he (n := 6) (by omega) (by omega)
              have P2 := rotr_lt he (n := 11) (by omega) (by omega)
              have P3 := rotr_lt he (n := 25) (by omega) (by omega)
              have Q1 := rotr_lt ha (n := 2) (by omega) (by omega)
              have Q2 := rotr_lt ha (n := 13) (by omega) (by omega)
              have Q3 := rotr_lt ha (n := 22) (by omega) (by omega)
              have hT : Hid ((z + (rotr e 6 ^^^ rotr e 11 ^^^ rotr e 25) + ((e &&& f) ^^^ ((4294967295 - e) &&& g)) + kn + wn) % 4294967296 = shaT e f g z kn wn) := rfl
              have hU : Hid ((rotr a 2 ^^^ rotr a 13 ^^^ rotr a 22) + ((a &&& b) ^^^ (a &&& c) ^^^ (b &&& c)) = shaU a b c) := rfl
              generalize rotr e 6 = r1 at *
              generalize rotr e 11 = r2 at *
              generalize rotr e 25 = r3 at *
              generalize rotr a 2 = r4 at *
              generalize rotr a 13 = r5 at *
              generalize rotr a 22 = r6 at *
              clear ho12 hb12
              go_upto_region 22 with (first
                | ((with_reducible refine (T6.out _).mono ?_); rintro u w' ⟨rfl, q1, rfl⟩)
                | ((with_reducible refine (T11.out _).mono ?_); rintro u w' ⟨rfl, q2, rfl⟩)
                | ((with_reducible refine (T25.out _).mono ?_); rintro u w' ⟨rfl, q3, rfl⟩)
                | (go_at_call 36; refine (xor_any _ _ _).mono ?_; rintro u w' ⟨rfl, rfl⟩))
              rw [xor3_i64 r1 r2 r3 P1 P2 P3]
              have hp := xor_lt (xor_lt P1 P2) P3
              generalize r1 ^^^ r2 ^^^ r3 = p at *
              refine wp_world (fun V => Own V w.heap.size 3 1 (some ⟨g12, 0, none⟩) 8 c12 (is [a, b, c, d, e, f, g, z]) ∧ Below w12.heap.size w12 V) ⟨HB.out.1.drewN _, below_drewN HB.out.2 _⟩ ?_
              clear HB x0 x1 x2 x3 x4 x5 x6 x7 T6 T11 T25
              rintro V1 ⟨ho12, hb12⟩
              have HB := Lib.hid (And.intro ho12 hb12)
              obtain ⟨x0, x1, x2, x3, x4, x5, x6, x7⟩ := cells.out _ ho12
              clear ho12 hb12
              have v1 : IntKind.i64.wrap (4294967295 - (e : Int)) = ((4294967295 - e : Nat) : Int) := by rw [IntWalk.i64_in _ (by omega)]; omega
              have v2 : (4294967295 - (e : Int)) = ((4294967295 - e : Nat) : Int) := by omega
              go_quiet ((go_at_call 36; exact quiet_xor _ _ _ _))
              rw [ch_i64 e f g he hf hg]
              have hch := ch_lt e f g he
              generalize (e &&& f) ^^^ ((4294967295 - e) &&& g) = ch at *
              clear v1 v2
              go_wp2_with fail
              have wc0 := hWn.out _ (below_drewN HB.out.2 nq)
              have HC := Lib.hid (And.intro (HB.out.1.drewN nq) (And.intro (below_drewN HB.out.2 nq) (And.intro wc0 (cells.out _ (HB.out.1.drewN nq)))))
              refine wp_world (fun V => Own V w.heap.size 3 1 (some ⟨g12, 0, none⟩) 8 c12 (is [a, b, c, d, e, f, g, z]) ∧ Below w12.heap.size w12 V ∧ V.cell? ⟨g5, n, none⟩ = some (.int .i64 wn) ∧ V.cell? ⟨g12, 7, none⟩ = some (.int .i64 z)) ⟨HC.out.1, HC.out.2.1, HC.out.2.2.1, HC.out.2.2.2.2.2.2.2.2.2.2⟩ ?_
              clear HB HC wc0 x0 x1 x2 x3 x4 x5 x6 x7
              rintro V2 ⟨ho12, hb12, wc, x7⟩
              have HB := Lib.hid (And.intro ho12 hb12)
              have v1 : IntKind.i64.wrap ((z : Int) + p) = (z : Int) + p := IntWalk.i64_in _ (by omega)
              have v2 : IntKind.i64.wrap ((z : Int) + p + ch) = (z : Int) + p + ch := IntWalk.i64_in _ (by omega)
              have v3 : IntKind.i64.wrap ((z : Int) + p + ch + kn) = (z : Int) + p + ch + kn := IntWalk.i64_in _ (by omega)
              have v4 : IntKind.i64.wrap ((z : Int) + p + ch + kn + wn) = (z : Int) + p + ch + kn + wn := IntWalk.i64_in _ (by omega)
              have v5 : ((z : Int) + p + ch + kn + wn).tmod 4294967296 = ((shaT e f g z kn wn : Nat) : Int) := by rw [Int.tmod_eq_emod_of_nonneg (by omega), ← hT.out]; omega
              have v6 : IntKind.i64.wrap ((shaT e f g z kn wn : Nat) : Int) = ((shaT e f g z kn wn : Nat) : Int) := IntWalk.i64_in _ (by have := shaT_lt e f g z kn wn; omega)
              have hTl := shaT_lt e f g z kn wn
              have HT : Hid (shaStep [a, b, c, d, e, f, g, z] kn wn = [(shaT e f g z kn wn + shaU a b c) % 4294967296, a, b, c, (d + shaT e f g z kn wn) % 4294967296, e, f, g]) := rfl
              generalize shaT e f g z kn wn = T at *
              clear ho12 hb12
              go_region_held3 (fun w' => w'.cell? ⟨g12, 7, none⟩ = some (.int .i64 z) ∧ w'.cell? ⟨g5, n, none⟩ = some (.int .i64 wn)) (first | go_keep | (exact ⟨below_cell hbk (by go_simp), below_cell hbk (by go_simp)⟩))
                ((go_at_call 52; refine (hwd.out _).mono ?_; rintro u w9 ⟨rfl, hbk⟩))
              clear v1 v2 v3 v4 v5 v6
              have hbk' : Below V2.heap.size V2 w9 := ⟨hbk.os, hbk.tape, hbk.output, hbk.size, hbk.block⟩
              have HB9 := Lib.hid (And.intro (HB.out.1.below hbk' (Nat.le_refl _)) (HB.out.2.trans (hbk'.mono HB.out.2.size)))
              clear HB hbk hbk' x7 wc
              go_upto_region 25 with (first
                | ((with_reducible refine (T2.out _).mono ?_); rintro u w' ⟨rfl, q1, rfl⟩)
                | ((with_reducible refine (T13.out _).mono ?_); rintro u w' ⟨rfl, q2, rfl⟩)
                | ((with_reducible refine (T22.out _).mono ?_); rintro u w' ⟨rfl, q3, rfl⟩)
                | (go_at_call 36; refine (xor_any _ _ _).mono ?_; rintro u w' ⟨rfl, rfl⟩))
              rw [xor3_i64 r4 r5 r6 Q1 Q2 Q3]
              have hq := xor_lt (xor_lt Q1 Q2) Q3
              generalize r4 ^^^ r5 ^^^ r6 = qq at *
              refine wp_world (fun V => Own V w.heap.size 3 1 (some ⟨g12, 0, none⟩) 8 c12 (is [a, b, c, d, e, f, g, z]) ∧ Below w12.heap.size w12 V) ⟨HB9.out.1.drewN _, below_drewN HB9.out.2 _⟩ ?_
              clear HB9 T2 T13 T22
              rintro V3 ⟨ho12, hb12⟩
              have HB := Lib.hid (And.intro ho12 hb12)
              obtain ⟨x0, x1, x2, x3, x4, x5, x6, x7⟩ := cells.out _ ho12
              clear ho12 hb12
              go_quiet ((go_at_call 36; exact quiet_xor _ _ _ _))
              rw [maj_i64 a b c ha hb hc]
              have hmj := maj_lt a b c ha hb
              generalize (a &&& b) ^^^ (a &&& c) ^^^ (b &&& c) = mj at *
              go_wp2_with fail
              refine wp_world (fun V => Own V w.heap.size 3 1 (some ⟨g12, 0, none⟩) 8 c12 (is [a, b, c, d, e, f, g, z]) ∧ Below w12.heap.size w12 V) ⟨HB.out.1.drewN _, below_drewN HB.out.2 _⟩ ?_
              clear HB x0 x1 x2 x3 x4 x5 x6 x7
              rintro V4 ⟨ho12, hb12⟩
              have HB := Lib.hid (And.intro ho12 hb12)
              obtain ⟨x0, x1, x2, x3, x4, x5, x6, x7⟩ := cells.out _ ho12
              clear ho12 hb12
              have d1 : T + qq < 9223372036854775808 := by omega
              have d2 : T + qq + mj < 9223372036854775808 := by omega
              have d3 : d + T < 9223372036854775808 := by omega
              have v1 := wr_add T qq d1
              have v2 := wr_add3 T qq mj d2
              have v3 := md_add3 T qq mj _ hU.out
              have v4 := wr_mod (T + shaU a b c)
              have v5 := wr_add d T d3
              have v6 := md_add d T
              have v7 := wr_mod (d + T)
              generalize (T + shaU a b c) % 4294967296 = N1 at *
              generalize (d + T) % 4294967296 = N2 at *
              go_still_tail 26, (by kernel_rfl)
              change wpList _ _ _ _ _ V4.drew
              clear v1 v2 v3 v4 v5 v6 v7
              go_wp2
              refine ⟨⟨n + 1, _, 8, by omega, by go_num, rfl, ?_, (HB.out.2.alloc HB.out.2.size _).drew⟩, by simp [intOf]; omega⟩
              rw [HS1.out, HX.out, HT.out]
              exact (Own.lit V4 3 (is [N1, a, b, c, N2, e, f, g]) (by omega) rfl (Nat.le_trans HB12.out.size HB.out.2.size) rfl).drew
            · have h64 : (n : Int) = 64 := by omega
              rw [h64]
              obtain rfl : n = 64 := by omega
              have hXX := hW.rounds W 64
              clear h64 hlt hn hWc hWb
              generalize shaRounds s W 64 = X at *
              obtain ⟨g12, rfl, hg12, hl12, hxc⟩ := own_is ho12 (by omega)
              obtain ⟨bS, oS, rfl, _, hlS, hsc⟩ := rd_is Hs.out (by rw [hW.1]; omega)
              obtain ⟨W2, rfl⟩ : ∃ W2 : World, W2 = wr := ⟨_, rfl⟩
              have HBW := Lib.hid (HB12.out.trans (hb12.mono HB12.out.size))
              have Hcells : Hid (∀ V, Below W2.heap.size W2 V → ∀ j, j < 8 → V.cell? ⟨bS, oS + j, none⟩ = some (.int .i64 (s.getD j 0 : Nat)) ∧ V.cell? ⟨g12, j, none⟩ = some (.int .i64 (X.getD j 0 : Nat))) := fun V hV j hj =>
                ⟨below_cell hV (below_cell HBW.out (hsc j (by rw [hW.1]; exact hj))), below_cell hV (hxc j (by rw [hXX.1]; exact hj))⟩
              clear hxc hsc ho12 hb12 Hs b12
              go_wp2
              go_loopw [21, 22] (fun s21 s22 wr => ∃ (j : Nat) (A21 : Option Addr) (c21 : Nat), j ≤ 8 ∧ s22 = .int .i64 j ∧ s21 = .slice A21 j c21 ∧ Own wr W2.heap.size 3 1 A21 j c21 (is ((addW s X).take j)) ∧ Below W2.heap.size W2 wr)
                (fun _ s22 _ => 8 - (intOf s22).toNat)
              case atStart => exact ⟨0, none, 0, by omega, rfl, rfl, Own.nil_ _ _ _ _, Below.refl _ _⟩
              case round =>
                obtain ⟨j, A21, c21, hj, rfl, rfl, ho, hb⟩ := hrel
                by_cases hlt : j < 8
                · obtain ⟨cs, cx⟩ := Hcells.out _ hb j hlt
                  have hs8 := hW.2
                  have HSN := Lib.hid (addW_snoc s X hW.1 hXX.1 j hlt)
                  have hsj : s.getD j 0 < 4294967296 := by
                    rw [List.getD_eq_getElem?_getD, List.getElem?_eq_getElem (by rw [hW.1]; exact hlt)]
                    exact hW.2 _ (List.getElem_mem _)
                  have hxj : X.getD j 0 < 4294967296 := by
                    rw [List.getD_eq_getElem?_getD, List.getElem?_eq_getElem (by rw [hXX.1]; exact hlt)]
                    exact hXX.2 _ (List.getElem_mem _)
                  clear hs8
                  have d1 : s.getD j 0 + X.getD j 0 < 9223372036854775808 := by omega
                  have v1 := wr_add (s.getD j 0) (X.getD j 0) d1
                  have v2 := md_add (s.getD j 0) (X.getD j 0)
                  have v3 := wr_mod (s.getD j 0 + X.getD j 0)
                  generalize (s.getD j 0 + X.getD j 0) % 4294967296 = R at *
                  generalize s.getD j 0 = sj at *
                  generalize X.getD j 0 = xj at *
                  have HO := Lib.hid ho
                  have HA := Lib.hid hb.size
                  have HB := Lib.hid hb
                  have j8 : (j : Int) < 8 := by omega
                  clear ho hb
                  go_wp2_with fail
                  go_region_law (first | (refine step_app rfl (.tmp 219) (.tmp 230) 41 rfl 3 1 Try.underlying41 info3 rfl (by omega) rfl (HO.out.alloc _) rfl (rd_one _ _ rfl) rfl (one_int _ _) (by omega) (by omega) (by have := HA.out; simp; omega) ?_; intro A6 c6 w6 ho6 hg6 _))
                  all_goals
                    have hb6 := below_own (HB.out.alloc HB.out.size _).drew (HO.out.alloc _).drew hg6 (Nat.le_refl _) (by have := HA.out; simp; omega)
                    clear v1 v2 v3 cs cx
                    go_wp2
                    refine ⟨⟨j + 1, A6, c6, by omega, by go_num, rfl, ?_, hb6⟩, by simp [intOf]; omega⟩
                    rw [HSN.out, ← is_snoc]
                    exact ho6
                · obtain rfl : j = 8 := by omega
                  go_wp2
                  go_ret
                  rw [List.take_of_length_le (by rw [(hW.addW hXX).1]; omega), ← hsb.out] at ho
                  exact ⟨A21, c21, rfl, ho.weak HBW.out.size, HBW.out.trans (hb.mono HBW.out.size)⟩
end Go.Proofs.Ytgfmpgflbphpcaa
