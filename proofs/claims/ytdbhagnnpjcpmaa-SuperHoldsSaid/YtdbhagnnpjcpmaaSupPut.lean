/- super.Put writes a superblock as the plain function does, or refuses it. -/
import Derived.Test.YtdbhagnnpjcpmaaSupMays
import Derived.Test.YtdbhagnnpjcpmaaNum
import Derived.Test.YtdbhagnnpjcpmaaAppZ
import Derived.Test.YtdbhagnnpjcpmaaCrc
namespace Go.Proofs.Ytdbhagnnpjcpmaa
open Go.RowKit

theorem may_b {s : Sup} {t : Bool} (ht : decide (supOk s) = t) {A : Option Addr} {n c lo : Nat} {w : World} (hr : Vr w lo A n c s.vs) :
    Calls Try.prog 47 #[.agg #[.int .i64 s.gen, .int .i64 s.sec, .int .i64 s.next, .slice A n c]] w fun e w' => e = .returned (.bool t) ∧ Below w.heap.size w w' := ht ▸ may_any s hr
theorem below_grown {V w : World} (h : V.grownBy w none) : Below V.heap.size V w := ⟨h.os, h.tape, h.output, h.size, fun k hk => h.block k hk (by simp)⟩
theorem ap_kist0 (V : World) : Ap (V.alloc (.cells #[.int .u8 75, .int .u8 73, .int .u8 83, .int .u8 84] 5 (4, 5))) V.heap.size (some ⟨V.heap.size, 0, none⟩) 4 4 (bvs [75, 73, 83, 84]) :=
  .inr ⟨rfl, by omega, rfl, (bs_const (m := 4) 5 [75, 73, 83, 84] (4, 5) rfl (by omega)).2.2.2⟩
theorem ap_kist (V : World) : Ap (V.alloc (.cells #[.int .u8 75, .int .u8 73, .int .u8 83, .int .u8 84] 5 (4, 5))).drew V.heap.size (some ⟨V.heap.size, 0, none⟩) 4 4 (bvs [75, 73, 83, 84]) := by
  rcases ap_kist0 V with h | ⟨h1, h2, h3, h4⟩
  · exact .inl h.drew
  · exact .inr ⟨h1, h2, h3, h4.drewN 1⟩
theorem grown_kist (V : World) : V.grownBy (V.alloc (.cells #[.int .u8 75, .int .u8 73, .int .u8 83, .int .u8 84] 5 (4, 5))).drew none := ⟨rfl, rfl, rfl, by simp, fun k hk _ => heap_alloc_old V.drew _ hk⟩
theorem grown_drew (V : World) (row : Option Nat) : V.grownBy V.drew row := ⟨rfl, rfl, rfl, Nat.le_refl _, fun _ _ _ => rfl⟩
theorem conv_kist (V : World) : (convert 39 39 (.slice (some ⟨V.heap.size, 0, none⟩) 4 4)).run Try.prog (V.alloc (.cells #[.int .u8 75, .int .u8 73, .int .u8 83, .int .u8 84] 5)).drew =
    .ok (.slice (some ⟨V.heap.size, 0, none⟩) 4 4) (V.alloc (.cells #[.int .u8 75, .int .u8 73, .int .u8 83, .int .u8 84] 5 (4, 5))).drew :=
  Lib.run_convert_bytes_const (P := Try.prog) V.drew 39 5 #[.int .u8 75, .int .u8 73, .int .u8 83, .int .u8 84] 4 4 Try.underlying39 Try.underlying5
theorem fresh_blk {w : World} {A A1 : Option Addr} (hf : ablk A1 = ablk A ∨ ∀ g, ablk A1 = some g → w.heap.size ≤ g) {V : World} (hs : V.heap.size ≤ w.heap.size) (hA : ∀ g, ablk A = some g → V.heap.size ≤ g) : ∀ g, ablk A1 = some g → V.heap.size ≤ g := by
  intro g hg
  rcases hf with hf | hf
  · exact hA g (hf ▸ hg)
  · exact Nat.le_trans hs (hf g hg)
theorem ne_fresh {w : World} {A A1 : Option Addr} {g : Nat} (hf : ablk A1 = ablk A ∨ ∀ g, ablk A1 = some g → w.heap.size ≤ g) (hne : some g ≠ ablk A) (hg : g < w.heap.size) : some g ≠ ablk A1 := fun h => by
  rcases hf with hf | hf
  · exact hne (h.trans hf)
  · have := hf g h.symm
    omega
/-- three numbers one behind the other, in a list of the call's own -/
theorem grown3 {V W w3 w4 w5 : World} {A A3 A4 : Option Addr} {row : Option Nat} (h0 : V.grownBy W row) (h3 : W.grownBy w3 (ablk A)) (hA : ∀ g, ablk A = some g → V.heap.size ≤ g ∨ row = some g)
    (f3 : ablk A3 = ablk A ∨ ∀ g, ablk A3 = some g → W.heap.size ≤ g) (h4 : w3.grownBy w4 (ablk A3)) (f4 : ablk A4 = ablk A3 ∨ ∀ g, ablk A4 = some g → w3.heap.size ≤ g) (h5 : w4.grownBy w5 (ablk A4)) : V.grownBy w5 row := by
  have b3 := h0.andThen h3 hA
  have hA3 : ∀ g, ablk A3 = some g → V.heap.size ≤ g ∨ row = some g := fun g hg => by
    rcases f3 with f3 | f3
    · exact hA g (f3 ▸ hg)
    · exact .inl (Nat.le_trans h0.size (f3 g hg))
  have b4 := b3.andThen h4 hA3
  refine b4.andThen h5 fun g hg => ?_
  rcases f4 with f4 | f4
  · exact hA3 g (f4 ▸ hg)
  · exact .inl (Nat.le_trans b3.size (f4 g hg))

theorem own_eq {w : World} {base s n c : Nat} {e : TypeId} {A : Option Addr} {xs ys : List Value} (h : Own w base e s A n c xs) (he : xs = ys) : Own w base e s A n c ys := he ▸ h

set_option maxHeartbeats 1000000 in
theorem sput_no (s : Sup) {A : Option Addr} {n c lo : Nat} {w : World} (hr : Vr w lo A n c s.vs) (h : ¬ supOk s) :
    Calls Try.prog 49 #[.agg #[.int .i64 s.gen, .int .i64 s.sec, .int .i64 s.next, .slice A n c]] w fun e w' => e = .returned (.tuple #[.slice none 0 0, .int .i64 1]) ∧ Below w.heap.size w w' := by
  have HM := Lib.hid (may_b (decide_eq_false h) (hr.below (B := w.heap.size) ((Below.refl w.heap.size w).alloc (Nat.le_refl _) (.cells #[.int .i64 s.gen, .int .i64 s.sec, .int .i64 s.next, .slice A n c] 32)) (Nat.le_refl _)))
  clear h hr
  go_enter Try.func49, Try.ntmps49
  go_wp2_with ((with_reducible refine HM.out.mono ?_); rintro e w1 ⟨rfl, hb1⟩)
  go_ret2
  exact ⟨rfl, ((Below.refl _ _).alloc (Nat.le_refl _) _).trans (hb1.mono (by simp))⟩

theorem headB_nat (G S N : Nat) (vs : List Ver) : headB ⟨(G : Int), S, N, vs⟩ = [75, 73, 83, 84] ++ leB G 4 ++ leB S 2 ++ leB N 4 := rfl

set_option maxRecDepth 100000 in
set_option maxHeartbeats 4000000 in
theorem sput_ok (G S N : Nat) (vs : List Ver) {A : Option Addr} {n c lo : Nat} {w : World} (hr : Vr w lo A n c vs) (hok : supOk ⟨G, S, N, vs⟩) :
    Calls Try.prog 49 #[.agg #[.int .i64 G, .int .i64 S, .int .i64 N, .slice A n c]] w fun e w' =>
      ∃ A' c', e = .returned (.tuple #[.slice A' 256 c', .int .i64 0]) ∧ Own w' w.heap.size 5 1 A' 256 c' (bvs (putS ⟨G, S, N, vs⟩)) ∧ Below w.heap.size w w' := by
  have HM := Lib.hid (may_b (s := ⟨G, S, N, vs⟩) (decide_eq_true hok) (hr.below (B := w.heap.size) ((Below.refl w.heap.size w).alloc (Nat.le_refl _) (.cells #[.int .i64 G, .int .i64 S, .int .i64 N, .slice A n c] 32)) (Nat.le_refl _)))
  have hn : n ≤ 8 := by have := hok.1.2.2.2.2.2.2; simp only at this; rw [hr.1] at this; exact this
  have HL := Lib.hid hr.1
  have HR := Lib.hid hr
  have HOK := Lib.hid hok
  have hc1 := hr.2.1
  have hc2 := hr.2.2.1
  clear hr hok
  go_enter Try.func49, Try.ntmps49
  go_upto_region 3 with ((with_reducible refine HM.out.mono ?_); rintro e w1 ⟨rfl, hb1⟩)
  refine wp_world (fun V => Blk V w.heap.size 32 [.int .i64 G, .int .i64 S, .int .i64 N, .slice A n c] ∧ Below w.heap.size w V) ⟨(Blk.new w 32 [.int .i64 G, .int .i64 S, .int .i64 N, .slice A n c]).below hb1 (by simp), ((Below.refl _ _).alloc (Nat.le_refl _) _).trans (hb1.mono (by simp))⟩ ?_
  clear hb1 HM
  rintro V ⟨hB, hV⟩
  have HB := Lib.hid hB
  have k0 := hB.cell 0
  have k1 := hB.cell 1
  have k2 := hB.cell 2
  simp only [List.getElem?_cons_zero, List.getElem?_cons_succ] at k0 k1 k2
  have hzV := hB.lt
  clear hB
  have kc := conv_kist V
  go_cut [4] (fun s4 wx => ∃ A1 c1, s4 = .slice A1 14 c1 ∧ Own wx V.heap.size 5 1 A1 14 c1 (bvs (headB ⟨G, S, N, vs⟩)) ∧ V.grownBy wx none)
  case first =>
    have N1 := Lib.hid (number_any G 4 (ap_kist V) (by simp) (by omega) (by omega) (by omega))
    go_region_held (fun w' => w'.cell? ⟨w.heap.size, 0, none⟩ = some (.int .i64 G) ∧ w'.cell? ⟨w.heap.size, 1, none⟩ = some (.int .i64 S) ∧ w'.cell? ⟨w.heap.size, 2, none⟩ = some (.int .i64 N))
      (first | (exact K5.out) | (exact K4.out) | (exact K3.out) | go_keep)
      (first
        | ((with_reducible refine Calls.mono N1.out ?_); rintro e w3 ⟨A3, c3, rfl, ho3, hg3, hf3⟩; have K3 : Hid (w3.cell? ⟨w.heap.size, 0, none⟩ = some (.int .i64 G) ∧ w3.cell? ⟨w.heap.size, 1, none⟩ = some (.int .i64 S) ∧ w3.cell? ⟨w.heap.size, 2, none⟩ = some (.int .i64 N)) := ⟨hg3.cell (by go_simp) (by simp; omega), hg3.cell (by go_simp) (by simp; omega), hg3.cell (by go_simp) (by simp; omega)⟩; have hz3 : V.heap.size ≤ w3.heap.size := (by have := hg3.size; simp at this; omega); have N2 := Lib.hid (number_any S 2 (.inl ho3) hz3 (by omega) (by omega) (by omega)))
        | ((with_reducible refine Calls.mono N2.out ?_); rintro e w4 ⟨A4, c4, rfl, ho4, hg4, hf4⟩; have K4 : Hid (w4.cell? ⟨w.heap.size, 0, none⟩ = some (.int .i64 G) ∧ w4.cell? ⟨w.heap.size, 1, none⟩ = some (.int .i64 S) ∧ w4.cell? ⟨w.heap.size, 2, none⟩ = some (.int .i64 N)) := ⟨hg4.cell K3.out.1 (own_ne ho3 hzV), hg4.cell K3.out.2.1 (own_ne ho3 hzV), hg4.cell K3.out.2.2 (own_ne ho3 hzV)⟩; have hz4 : V.heap.size ≤ w4.heap.size := Nat.le_trans hz3 hg4.size; have N3 := Lib.hid (number_any N 4 (.inl ho4) hz4 (by omega) (by omega) (by omega)))
        | ((with_reducible refine Calls.mono N3.out ?_); rintro e w5 ⟨A5, c5, rfl, ho5, hg5, hf5⟩; have K5 : Hid (w5.cell? ⟨w.heap.size, 0, none⟩ = some (.int .i64 G) ∧ w5.cell? ⟨w.heap.size, 1, none⟩ = some (.int .i64 S) ∧ w5.cell? ⟨w.heap.size, 2, none⟩ = some (.int .i64 N)) := ⟨hg5.cell K4.out.1 (own_ne ho4 hzV), hg5.cell K4.out.2.1 (own_ne ho4 hzV), hg5.cell K4.out.2.2 (own_ne ho4 hzV)⟩))
    all_goals go_wp2_with fail
    all_goals go_meet
    rw [← headB_nat G S N vs] at ho5
    exact ⟨A5, c5, rfl, ho5, grown3 (grown_kist V) hg3 (fun g hg => .inl (by simp at hg; omega)) hf3 hg4 hf4 hg5⟩
  case rest =>
    obtain ⟨A1, c1, rfl, ho1, hg1⟩ := hcut
    have hB1 := HB.out.grown hg1 (by simp)
    have b1 : Below w.heap.size w wc := hV.grown hg1 hV.size (by simp)
    have hz1 : V.heap.size ≤ wc.heap.size := hg1.size
    clear hg1 kc k0 k1 k2 HB hV
    generalize V.heap.size = base at *
    have hB1c := hB1.cells
    have HO1 := Lib.hid ho1
    clear ho1
    go_upto_region 5 with (at_builtin; refine wpList_app rfl (.tmp 22) (.tmp 27) 39 rfl 5 1 Try.underlying39 info5 rfl (by omega) rfl (HO1.out.alloc _) rfl (rd_one _ _ rfl) rfl (one_int _ _) (by omega) (by omega) (by simp; omega) ?_; intro A2 c2 w2 ho2 hg2 _)
    rw [bv_of (n : Int) n (by omega)] at ho2
    have hh : Hid (bvs (headB ⟨(G : Int), S, N, vs⟩) ++ [bv (UInt8.ofNat n)] = bvs (headB ⟨(G : Int), S, N, vs⟩ ++ [UInt8.ofNat n])) := (bvs_append _ [UInt8.ofNat n]).symm
    rw [hh.out] at ho2
    refine wp_world (fun U => Blk U w.heap.size 32 [.int .i64 G, .int .i64 S, .int .i64 N, .slice A n c] ∧ Own U base 5 1 A2 15 c2 (bvs (headB ⟨(G : Int), S, N, vs⟩ ++ [UInt8.ofNat n])) ∧ Below w.heap.size w U ∧ base ≤ U.heap.size)
      ⟨(hB1.alloc _).grown hg2 (own_ne HO1.out hzV), ho2, below_own (b1.alloc b1.size _) (HO1.out.alloc _) hg2 (Nat.le_of_lt hzV) (by have := b1.size; simp; omega), by have := hg2.size; simp at this; omega⟩ ?_
    clear hB1c hB1 HO1 ho2 hg2 b1 hz1 hh
    rintro U ⟨hB, ho, hU, hzU⟩
    have hBc := hB.cells
    go_wp2
    go_loopw [4, 6, 7, 32] (fun s4 s6 s7 s32 wr => ∃ (i : Nat) (A4 : Option Addr) (c4 : Nat), i ≤ n ∧ s32 = .int .i64 i ∧ s4 = .slice A4 (15 + 11 * i) c4 ∧ Own wr base 5 1 A4 (15 + 11 * i) c4 (bvs (headB ⟨(G : Int), S, N, vs⟩ ++ [UInt8.ofNat n] ++ versB (vs.take i))) ∧ Blk wr w.heap.size 32 [.int .i64 G, .int .i64 S, .int .i64 N, .slice A n c] ∧ Below w.heap.size w wr ∧ base ≤ wr.heap.size)
      (fun _ _ _ s32 _ => n - (intOf s32).toNat)
    case atStart => exact ⟨0, A2, c2, Nat.zero_le _, rfl, rfl, by simpa [versB] using ho, hB, hU, hzU⟩
    case round =>
      clear hBc hB ho hU hzU
      obtain ⟨i, A4, c4, hi, rfl, rfl, ho, hB, hU, hzU⟩ := hrel
      by_cases hlt : i < n
      · obtain ⟨b, o, rfl, _, hbl⟩ := HR.out.at_ (by omega)
        obtain ⟨d0, d1, d2, d3⟩ := (HR.out.below hU (Nat.le_refl _)).cells i hlt
        have hv := HOK.out.2 i (by rw [HL.out]; exact hlt)
        have hp := idAt_pos _ i (fun j hj => HOK.out.2 j (by show j < vs.length; rw [HL.out]; omega))
        have HT := Lib.hid (versB_take vs i (by rw [HL.out]; exact hlt))
        unfold verOk at hv
        simp only at hv hp
        generalize vs.getD i Ver.nil = v at *
        obtain ⟨vid, vroot, vnext, vfx⟩ := v
        simp only at d0 d1 d2 d3 hv
        obtain ⟨I, rfl⟩ := Int.eq_ofNat_of_zero_le (show 0 ≤ vid by omega)
        obtain ⟨R, rfl⟩ := Int.eq_ofNat_of_zero_le (show 0 ≤ vroot by rcases hv.2.2.1 with h | h <;> omega)
        obtain ⟨X, rfl⟩ := Int.eq_ofNat_of_zero_le (show 0 ≤ vnext by omega)
        have HVB : Hid (verB ⟨I, R, X, vfx⟩ = leB I 4 ++ leB R 2 ++ leB X 4 ++ [if vfx then 1 else 0]) := rfl
        clear hv hp
        have HO := Lib.hid ho
        have hne : some wr.heap.size ≠ ablk A4 := fun h => by have := (ho.blk h.symm).2; omega
        clear ho
        have HLx : ∃ L, L = headB ⟨(G : Int), S, N, vs⟩ ++ [UInt8.ofNat n] ++ versB (vs.take i) := ⟨_, rfl⟩
        obtain ⟨L, hLL⟩ := HLx
        rw [← hLL] at HO
        have HLL : Hid (L ++ (leB I 4 ++ leB R 2 ++ leB X 4 ++ [if vfx then 1 else 0]) = headB ⟨(G : Int), S, N, vs⟩ ++ [UInt8.ofNat n] ++ (versB (vs.take i) ++ (leB I 4 ++ leB R 2 ++ leB X 4 ++ [if vfx then 1 else 0]))) := by show _ = _; rw [hLL, List.append_assoc _ (versB _)]
        clear hLL
        go_upto_region 8 with fail
        refine wp_world (fun U => Blk U w.heap.size 32 [.int .i64 G, .int .i64 S, .int .i64 N, .slice (some ⟨b, o, none⟩) n c] ∧ Blk U wr.heap.size 97 [.int .i64 I, .int .i64 R, .int .i64 X, .bool vfx] ∧ Own U base 5 1 A4 (15 + 11 * i) c4 (bvs L) ∧ Below w.heap.size w U ∧ base ≤ U.heap.size)
          ⟨hB.alloc _, Blk.new_at (cs := [.int .i64 I, .int .i64 R, .int .i64 X, .bool vfx]) rfl, HO.out.alloc _, hU.alloc hU.size _, by simp; omega⟩ ?_
        clear d0 d1 d2 d3 hB hU hzU HO
        generalize wr.heap.size = gv at *
        rintro U ⟨hB, hG, ho, hU, hzU⟩
        have HB := Lib.hid hB
        have HG := Lib.hid hG
        have HO := Lib.hid ho
        have k0 := hG.cell 0
        have k1 := hG.cell 1
        have k2 := hG.cell 2
        simp only [List.getElem?_cons_zero, List.getElem?_cons_succ] at k0 k1 k2
        have hgU := hG.lt
        have N1 := Lib.hid (number_any (w := U.drew) I 4 (.inl ho.drew) hzU (by omega) (by omega) (by omega))
        have k0' : Hid (U.drew.cell? ⟨gv, 0, none⟩ = some (.int .i64 I) ∧ U.drew.cell? ⟨gv, 1, none⟩ = some (.int .i64 R) ∧ U.drew.cell? ⟨gv, 2, none⟩ = some (.int .i64 X)) := ⟨k0, k1, k2⟩
        clear hB hG ho
        go_cut [4] (fun s4 wx => ∃ A1 c1, s4 = .slice A1 (15 + 11 * i + 10) c1 ∧ Own wx base 5 1 A1 (15 + 11 * i + 10) c1 (bvs (L ++ leB I 4 ++ leB R 2 ++ leB X 4)) ∧ U.grownBy wx (ablk A4))
        case first =>
          go_region_held3 (fun w' => w'.cell? ⟨gv, 0, none⟩ = some (.int .i64 I) ∧ w'.cell? ⟨gv, 1, none⟩ = some (.int .i64 R) ∧ w'.cell? ⟨gv, 2, none⟩ = some (.int .i64 X))
            (first | (exact K5.out) | (exact K4.out) | (exact K3.out) | go_keep)
            (first
              | ((with_reducible refine Calls.mono N1.out ?_); rintro e w3 ⟨A3, c3, rfl, ho3, hg3, hf3⟩; have K3 : Hid (w3.cell? ⟨gv, 0, none⟩ = some (.int .i64 I) ∧ w3.cell? ⟨gv, 1, none⟩ = some (.int .i64 R) ∧ w3.cell? ⟨gv, 2, none⟩ = some (.int .i64 X)) := ⟨hg3.cell k0'.out.1 hne, hg3.cell k0'.out.2.1 hne, hg3.cell k0'.out.2.2 hne⟩; have hz3 : base ≤ w3.heap.size := Nat.le_trans hzU hg3.size; have N2 := Lib.hid (number_any R 2 (.inl ho3) hz3 (by omega) (by omega) (by omega)); have n3 : some gv ≠ ablk A3 := ne_fresh hf3 hne hgU)
              | ((with_reducible refine Calls.mono N2.out ?_); rintro e w4 ⟨A5, c5, rfl, ho4, hg4, hf4⟩; have K4 : Hid (w4.cell? ⟨gv, 0, none⟩ = some (.int .i64 I) ∧ w4.cell? ⟨gv, 1, none⟩ = some (.int .i64 R) ∧ w4.cell? ⟨gv, 2, none⟩ = some (.int .i64 X)) := ⟨hg4.cell K3.out.1 n3, hg4.cell K3.out.2.1 n3, hg4.cell K3.out.2.2 n3⟩; have hz4 : base ≤ w4.heap.size := Nat.le_trans hz3 hg4.size; have N3 := Lib.hid (number_any X 4 (.inl ho4) hz4 (by omega) (by omega) (by omega)); have n4 : some gv ≠ ablk A5 := ne_fresh hf4 n3 (Nat.lt_of_lt_of_le hgU hg3.size))
              | ((with_reducible refine Calls.mono N3.out ?_); rintro e w5 ⟨A6, c6, rfl, ho5, hg5, hf5⟩; have K5 : Hid (w5.cell? ⟨gv, 0, none⟩ = some (.int .i64 I) ∧ w5.cell? ⟨gv, 1, none⟩ = some (.int .i64 R) ∧ w5.cell? ⟨gv, 2, none⟩ = some (.int .i64 X)) := ⟨hg5.cell K4.out.1 n4, hg5.cell K4.out.2.1 n4, hg5.cell K4.out.2.2 n4⟩))
          all_goals go_wp2_with fail
          all_goals go_meet
          exact ⟨A6, c6, rfl, ho5, grown3 (grown_drew U (ablk A4)) hg3 (fun g hg => .inr hg) hf3 hg4 hf4 hg5⟩
        case rest =>
          obtain ⟨A7, c7, rfl, ho7, hg7⟩ := hcut
          have hB7 := HB.out.grown hg7 (own_ne HO.out hzV)
          have hG7 := HG.out.grown hg7 hne
          have b7 : Below w.heap.size w wc := below_own hU HO.out hg7 (Nat.le_of_lt hzV) hU.size
          have hz7 : base ≤ wc.heap.size := Nat.le_trans hzU hg7.size
          have hG7c := hG7.cells
          have HO7 := Lib.hid ho7
          clear ho7 hg7 hG7 HB HG HO k0 k1 k2 hU hzU N1 hgU
          cases vfx
          all_goals
            go_wp2_with (at_builtin; refine wpList_app rfl (.tmp 48) (.tmp 50) 39 rfl 5 1 Try.underlying39 info5 rfl (by omega) rfl (HO7.out.alloc _) rfl (rd_one _ _ rfl) rfl (one_int _ _) (by omega) (by omega) (by simp; omega) ?_; intro A8 c8 w8 ho8 hg8 _)
            go_roundw
            case rel =>
              refine ⟨i + 1, A8, c8, by omega, by go_num, by rw [show 15 + 11 * (i + 1) = 15 + 11 * i + 10 + 1 by omega], ?_, (hB7.alloc _).grown hg8 (own_ne HO7.out hzV), below_own (b7.alloc b7.size _) (HO7.out.alloc _) hg8 (Nat.le_of_lt hzV) (by have := b7.size; simp; omega), by have := hg8.size; simp at this; omega⟩
              rw [show 15 + 11 * (i + 1) = 15 + 11 * i + 10 + 1 by omega, HT.out, HVB.out, ← HLL.out]
              exact own_eq ho8 (by simp [bvs, bv, List.append_assoc])
            case measure => simp [intOf]; omega
      · obtain rfl : i = n := by omega
        rw [List.take_of_length_le (by rw [HL.out]; omega)] at ho
        have HBody : Hid (headB ⟨(G : Int), S, N, vs⟩ ++ [UInt8.ofNat i] ++ versB vs = bodyB ⟨(G : Int), S, N, vs⟩) := by show _ = _; rw [bodyB, HL.out]
        rw [HBody.out] at ho
        have hlb := length_bodyB ⟨(G : Int), S, N, vs⟩
        have hld := length_dataB ⟨(G : Int), S, N, vs⟩ (by simp only; rw [HL.out]; exact hn)
        simp only [HL.out] at hlb
        have HD : Hid (dataB ⟨(G : Int), S, N, vs⟩ = bodyB ⟨(G : Int), S, N, vs⟩ ++ List.replicate (252 - (bodyB ⟨(G : Int), S, N, vs⟩).length) 0) := rfl
        rw [hlb] at HD
        have HS : Hid (putS ⟨(G : Int), S, N, vs⟩ = dataB ⟨(G : Int), S, N, vs⟩ ++ leB (crc (dataB ⟨(G : Int), S, N, vs⟩)) 4) := rfl
        generalize dataB ⟨(G : Int), S, N, vs⟩ = dt at *
        generalize bodyB ⟨(G : Int), S, N, vs⟩ = bd at *
        obtain ⟨M, hM⟩ : ∃ M, 15 + 11 * i = M := ⟨_, rfl⟩
        obtain ⟨K, hK⟩ : ∃ K, 252 - M = K := ⟨_, rfl⟩
        rw [hM] at ho HD ⊢
        rw [hK] at HD
        have hMK : M + K = 252 := by omega
        have hK0 : 0 < K := by omega
        obtain ⟨g, rfl, hg1, hg2⟩ := ho.head (by omega)
        have HO := Lib.hid ho
        have v1 : (252 : Int) - (M : Int) = (K : Int) := by omega
        have HMK := Lib.hid hMK
        clear ho HOK HR HL hM hK hMK hlb HBody
        go_upto_region 15 with (at_builtin; refine wpList_app_zeros rfl (.tmp 53) (.tmp 56) 39 3 rfl 5 Try.underlying39 Try.underlying3 info5 rfl rfl rfl HO.out rfl hK0 (by have := HMK.out; omega) (by have := HMK.out; omega) hzU ?_; intro A5 c5 w5 ho5 hg5 _)
        have he : bvs bd ++ List.replicate K (Value.int .u8 0) = bvs dt := by rw [HD.out, bvs_append]; simp [bvs, bv]
        rw [he, HMK.out] at ho5
        rw [HMK.out]
        have b5 : Below w.heap.size w w5 := hU.grown hg5 hU.size (by intro k hk; injection hk with hk; omega)
        have hz5 : base ≤ w5.heap.size := Nat.le_trans hzU hg5.size
        have C1 := Lib.hid (scrc_any (own_bs ho5))
        have hcr := crc_lt dt
        have N1 := Lib.hid (number_any (crc dt) 4 (.inl ho5) hz5 (by omega) (by omega) (by omega))
        have hcap := ho5.cap
        have HA : Hid (∀ g, ablk A5 = some g → base ≤ g) := fun g hg => (ho5.blk hg).1
        clear he ho5 hg5 HO HMK
        generalize crc dt = cr at *
        go_wp2_with (first | ((with_reducible refine Calls.mono C1.out ?_); rintro e w6 ⟨rfl, rfl⟩) | ((with_reducible refine Calls.mono N1.out ?_); rintro e w7 ⟨A7, c7, rfl, ho7, hg7, hf7⟩))
        go_ret2
        rw [HS.out]
        exact ⟨A7, c7, rfl, ho7.weak (Nat.le_of_lt hzV), b5.grown hg7 b5.size (fun k hk => Nat.le_trans (Nat.le_of_lt hzV) (HA.out k hk))⟩
end Go.Proofs.Ytdbhagnnpjcpmaa
