/- Where a node is split: node.Split. Condition: no longer than memory. -/
import Derived.Test.YtnjpibbmgbiofaaNodPart
import Derived.Test.YtnjpibbmgbiofaaLastOp
namespace Go.Proofs.Ytnjpibbmgbiofaa
open Go.RowKit

/-- half of what a node has, as the machine holds it -/
def halfN (s : Nd) : Int := (szV (sizeN s)).tdiv 2
/-- a node of two keys and more is split behind its first m keys -/
def isSplit (s : Nd) (m : Nat) : Prop :=
  1 ≤ m ∧ m < s.keys.length ∧ (∀ j, 1 ≤ j → j < m → szV (sizeTo s j) < halfN s) ∧ (m + 1 < s.keys.length → halfN s ≤ szV (sizeTo s m))
theorem isSplit_one {s : Nd} {m n : Nat} (h : isSplit s m) (k : isSplit s n) : m = n := by
  obtain ⟨h1, h2, h3, h4⟩ := h
  obtain ⟨k1, k2, k3, k4⟩ := k
  rcases Nat.lt_trichotomy m n with hlt | hlt | hlt
  · have := k3 m h1 hlt
    have := h4 (by omega)
    omega
  · exact hlt
  · have := h3 n k1 hlt
    have := k4 (by omega)
    omega
def mostN (s : Nd) : Nat := max (max s.keys.length s.vals.length) s.kids.length
/-- the two nodes -/
def SplitN (s p q : Nd) : Prop :=
  (s.keys.length < 2 ∧ p = partN s 0 (mostN s) ∧ q = Nd.nil) ∨ ∃ m, isSplit s m ∧ p = partN s 0 m ∧ q = partN s m (mostN s)
def SplitTo (w : World) (s : Nd) (e : Ending) (w' : World) : Prop :=
  ∃ p q K nk ck V nv cv D nd cd K' nk' ck' V' nv' cv' D' nd' cd', e = .returned (.tuple #[.agg #[.bool p.leaf, .slice K nk ck, .slice V nv cv, .slice D nd cd], .agg #[.bool q.leaf, .slice K' nk' ck', .slice V' nv' cv', .slice D' nd' cd']]) ∧
    NdR w' w.heap.size p K nk ck V nv cv D nd cd ∧ NdR w' w.heap.size q K' nk' ck' V' nv' cv' D' nd' cd' ∧ SplitN s p q ∧ Below w.heap.size w w'

theorem tdiv2_bd {Z : Int} (h : -9223372036854775808 ≤ Z ∧ Z ≤ 9223372036854775807) : -9223372036854775808 ≤ Z.tdiv 2 ∧ Z.tdiv 2 ≤ 9223372036854775807 := by
  rcases Int.le_total 0 Z with h0 | h0
  · rw [Int.tdiv_eq_ediv_of_nonneg h0]; omega
  · have e : Z.tdiv 2 = -((-Z).tdiv 2) := by rw [Int.neg_tdiv, Int.neg_neg]
    rw [e, Int.tdiv_eq_ediv_of_nonneg (by omega)]; omega
theorem results_nn {fn : Func} {p t : Tmp} (h : fn.results = #[.cell p 26, .cell t 26]) {tmps : Array Value} {w : World} {g1 g2 : Nat} {a0 a1 a2 a3 b0 b1 b2 b3 : Value}
    (hp : tmps.getD p undef = .pointer (some ⟨g1, 0, none⟩)) (ht : tmps.getD t undef = .pointer (some ⟨g2, 0, none⟩))
    (hb1 : Blk w g1 26 [a0, a1, a2, a3]) (hb2 : Blk w g2 26 [b0, b1, b2, b3]) :
    (results fn tmps).run Try.prog w = .ok (.tuple #[.agg #[a0, a1, a2, a3], .agg #[b0, b1, b2, b3]]) w := by
  have hr := run_loadVar_row (P := Try.prog) w g1 26 26 #[a0, a1, a2, a3] (0, 0) _ hb1 Try.underlying26 rfl size26
  have hr2 := run_loadVar_row (P := Try.prog) w g2 26 26 #[b0, b1, b2, b3] (0, 0) _ hb2 Try.underlying26 rfl size26
  have hp' : tmps[p]?.getD undef = .pointer (some ⟨g1, 0, none⟩) := by simpa using hp
  have ht' : tmps[t]?.getD undef = .pointer (some ⟨g2, 0, none⟩) := by simpa using ht
  simp [results, h, hp', ht', asAddr, hr, hr2]

/-- the heap while a node is split: the node, and where its two parts go -/
structure SpW (w W : World) (lf : Bool) (K : Option Addr) (nk ck : Nat) (V : Option Addr) (nv cv : Nat) (D : Option Addr) (nd cd : Nat) : Prop where
  box : Blk W w.heap.size 26 [.bool lf, .slice K nk ck, .slice V nv cv, .slice D nd cd]
  one : Blk W (w.heap.size + 1) 26 [.bool false, .slice none 0 0, .slice none 0 0, .slice none 0 0]
  two : Blk W (w.heap.size + 2) 26 [.bool false, .slice none 0 0, .slice none 0 0, .slice none 0 0]
  below : Below w.heap.size w W
  high : w.heap.size + 3 ≤ W.heap.size
theorem SpW.init {w : World} {lf : Bool} {K : Option Addr} {nk ck : Nat} {V : Option Addr} {nv cv : Nat} {D : Option Addr} {nd cd : Nat} :
    SpW w (((w.alloc (.cells #[.bool lf, .slice K nk ck, .slice V nv cv, .slice D nd cd] 26)).alloc (.cells #[.bool false, .slice none 0 0, .slice none 0 0, .slice none 0 0] 26)).alloc (.cells #[.bool false, .slice none 0 0, .slice none 0 0, .slice none 0 0] 26)) lf K nk ck V nv cv D nd cd :=
  ⟨((Blk.new w _ [.bool lf, .slice K nk ck, .slice V nv cv, .slice D nd cd]).alloc _).alloc _,
    (Blk.new_at (cs := [.bool false, .slice none 0 0, .slice none 0 0, .slice none 0 0]) (n := w.heap.size + 1) (by simp)).alloc _,
    Blk.new_at (cs := [.bool false, .slice none 0 0, .slice none 0 0, .slice none 0 0]) (n := w.heap.size + 2) (by simp),
    (((Below.refl _ _).alloc (Nat.le_refl _) _).alloc (by simp) _).alloc (by simp; omega) _, by simp⟩
section
variable {w W W' : World} {lf : Bool} {K : Option Addr} {nk ck : Nat} {V : Option Addr} {nv cv : Nat} {D : Option Addr} {nd cd : Nat}
theorem SpW.under (h : SpW w W lf K nk ck V nv cv D nd cd) (hb : Below W.heap.size W W') : SpW w W' lf K nk ck V nv cv D nd cd :=
  ⟨h.box.below hb h.box.lt, h.one.below hb h.one.lt, h.two.below hb h.two.lt, h.below.trans (hb.mono h.below.size), Nat.le_trans h.high hb.size⟩
theorem SpW.drew (h : SpW w W lf K nk ck V nv cv D nd cd) : SpW w W.drew lf K nk ck V nv cv D nd cd := ⟨h.box, h.one, h.two, h.below.drew, h.high⟩
end
/-- a node in memory is not touched by what is stored below it -/
theorem NdR.far8 {w : World} {lo : Nat} {s : Nd} {K V D : Option Addr} {nk ck nv cv nd cd : Nat} (h : NdR w lo s K nk ck V nv cv D nd cd) {g g' : Nat} (hg : g < lo) (hg' : g' < lo) {a0 a1 a2 a3 b0 b1 b2 b3 : Value} :
    NdR ((((((((w.setCell ⟨g, 0, none⟩ a0).setCell ⟨g, 1, none⟩ a1).setCell ⟨g, 2, none⟩ a2).setCell ⟨g, 3, none⟩ a3).setCell ⟨g', 0, none⟩ b0).setCell ⟨g', 1, none⟩ b1).setCell ⟨g', 2, none⟩ b2).setCell ⟨g', 3, none⟩ b3) lo s K nk ck V nv cv D nd cd :=
  (((((((h.far (by simpa using hg) _).far (by simpa using hg) _).far (by simpa using hg) _).far (by simpa using hg) _).far (by simpa using hg') _).far (by simpa using hg') _).far (by simpa using hg') _).far (by simpa using hg') _

set_option maxRecDepth 100000 in
set_option maxHeartbeats 2000000 in
theorem split_few (s : Nd) {w : World} {lo : Nat} {K V D : Option Addr} {nk ck nv cv nd cd : Nat} (h : NdR w lo s K nk ck V nv cv D nd cd) (hf : nk < 2) :
    Calls Try.prog 20 #[.agg #[.bool s.leaf, .slice K nk ck, .slice V nv cv, .slice D nd cd]] w (SplitTo w s) := by
  have hz := zero26
  have HR := Lib.hid h
  have HM : Hid (mostN s = max (max nk nv) nd) := by show _ = _; unfold mostN; rw [h.nk_eq, h.nv_eq, h.nd_eq]
  have hmx : ∀ (w : World) (ts : Array TypeId) (t : TypeId), (Builtin.max_ ts t #[.int .i64 (nk : Int), .int .i64 (nv : Int), .int .i64 (nd : Int)]).run Try.prog w = .ok (.int .i64 ((mostN s : Nat) : Int)) w := fun w ts t => by
    rw [run_max_int3, HM.out]
    congr 2
    split <;> split <;> omega
  have hmz : mostN s ≤ 4611686018427387904 := by
    have := h.kroom; have := h.vroom; have := h.droom
    rw [HM.out]; omega
  clear h
  go_enter Try.func20, Try.ntmps20
  go_upto_region 3 with fail
  refine wp_world (fun U => SpW w U s.leaf K nk ck V nv cv D nd cd) SpW.init ?_
  clear hz
  rintro U hS
  have B0c := hS.box.cells
  have P1 := Lib.hid (part_any s (HR.out.below hS.below (Nat.le_refl _)) 0 (mostN s) (Nat.zero_le _) hmz)
  go_upto_region 99 with ((with_reducible refine Calls.mono P1.out ?_); rintro e w1 ⟨K1, nk1, ck1, V1, nv1, cv1, D1, nd1, cd1, rfl, n1, hb1⟩; have hS1 := hS.under hb1; have oc := hS1.one.cells; have of_ := hS1.one.frees; have tc := hS1.two.cells; have tf := hS1.two.frees)
  clear B0c P1
  have z1 := hS.high
  have HP := Lib.hid (show s.keys.length < 2 by rw [HR.out.nk_eq]; exact hf)
  refine bodyPost_ret (results_nn rfl rfl rfl ((((((((hS1.one.set_ 0 (.bool s.leaf)).set_ 1 (.slice K1 nk1 ck1)).set_ 2 (.slice V1 nv1 cv1)).set_ 3 (.slice D1 nd1 cd1)).far (by simp) _).far (by simp) _).far (by simp) _).far (by simp) _)
    ((((((((hS1.two.far (by simp) _).far (by simp) _).far (by simp) _).far (by simp) _).set_ 0 (.bool false)).set_ 1 (.slice none 0 0)).set_ 2 (.slice none 0 0)).set_ 3 (.slice none 0 0))) rfl ?_
  exact ⟨partN s 0 (mostN s), Nd.nil, _, _, _, _, _, _, _, _, _, _, _, _, _, _, _, _, _, _, rfl, (n1.far8 (by omega) (by omega)).weak (by omega), ndr_nil _ _, .inl ⟨HP.out, rfl, rfl⟩,
    (((((((hS1.below.setCell (by simp) _).setCell (by simp) _).setCell (by simp) _).setCell (by simp) _).setCell (by simp; omega) _).setCell (by simp; omega) _).setCell (by simp; omega) _).setCell (by simp; omega) _⟩

set_option maxRecDepth 100000 in
set_option maxHeartbeats 4000000 in
theorem split_many (s : Nd) {w : World} {lo : Nat} {K V D : Option Addr} {nk ck nv cv nd cd : Nat} (h : NdR w lo s K nk ck V nv cv D nd cd) (hf : 2 ≤ nk) :
    Calls Try.prog 20 #[.agg #[.bool s.leaf, .slice K nk ck, .slice V nv cv, .slice D nd cd]] w (SplitTo w s) := by
  have hz := zero26
  have HR := Lib.hid h
  have HM : Hid (mostN s = max (max nk nv) nd) := by show _ = _; unfold mostN; rw [h.nk_eq, h.nv_eq, h.nd_eq]
  have hmx : Hid (∀ (w : World) (ts : Array TypeId) (t : TypeId), (Builtin.max_ ts t #[.int .i64 (nk : Int), .int .i64 (nv : Int), .int .i64 (nd : Int)]).run Try.prog w = .ok (.int .i64 ((mostN s : Nat) : Int)) w) := fun w ts t => by
    rw [run_max_int3, HM.out]
    congr 2
    split <;> split <;> omega
  have HMz : Hid (mostN s ≤ 4611686018427387904 ∧ nk ≤ mostN s) := by
    have := h.kroom; have := h.vroom; have := h.droom
    show _ ∧ _
    rw [HM.out]; omega
  have hkr := h.kroom
  have HH : Hid (halfN s = (szV (sizeN s)).tdiv 2) := rfl
  have bz := szV_bd (sizeN s)
  have HSz : Hid (∀ {w' : World}, Below w.heap.size w w' → Calls Try.prog 12 #[.agg #[.bool s.leaf, .slice K nk ck, .slice V nv cv, .slice D nd cd]] w' fun e w'' => e = .returned (.int .i64 (szV (sizeN s))) ∧ Below w'.heap.size w' w'') := fun hb => nsize_any s (HR.out.below hb (Nat.le_refl _))
  generalize szV (sizeN s) = Z at *
  clear h
  go_enter Try.func20, Try.ntmps20
  go_upto_region 4 with fail
  refine wp_world (fun U => SpW w U s.leaf K nk ck V nv cv D nd cd) SpW.init ?_
  clear hz
  rintro U hS
  go_wp2
  go_loopw [5, 6] (fun s5 s6 wr => ∃ i : Nat, i + 1 ≤ nk ∧ s5 = .int .i64 i ∧ s6 = .int .i64 (szV (sizeTo s i)) ∧ (∀ j, 1 ≤ j → j < i → szV (sizeTo s j) < halfN s) ∧ SpW w wr s.leaf K nk ck V nv cv D nd cd)
    (fun s5 _ _ => nk - (intOf s5).toNat)
  case atStart => exact ⟨0, by omega, rfl, rfl, fun j h1 h2 => absurd h2 (by omega), hS⟩
  case round =>
    clear hS
    obtain ⟨i, hi, rfl, rfl, hA, hS⟩ := hrel
    have HA := Lib.hid hA
    clear hA
    have B0c := hS.box.cells
    have bx := szV_bd (sizeTo s i)
    have HX : Hid (szV (sizeTo s (i + 1)) = wrap64 (szV (sizeTo s i) + (eachN s i : Nat))) := by show _ = _; rw [← IntWalk.i64_left, szV_add]; rfl
    have HY : Hid (∀ j, j = i → szV (sizeTo s j) = szV (sizeTo s i)) := fun j h => by rw [h]
    have HE : Hid (∀ {w' : World}, Below w.heap.size w w' → Calls Try.prog 27 #[.agg #[.bool s.leaf, .slice K nk ck, .slice V nv cv, .slice D nd cd], .int .i64 i] w' fun e w'' => e = .returned (.int .i64 (eachN s i : Nat)) ∧ Below w'.heap.size w' w'') := fun hb => each_any s i (HR.out.below hb (Nat.le_refl _)) (by omega)
    have hle := eachN_le HR.out i
    generalize szV (sizeTo s i) = X at *
    generalize eachN s i = ee at *
    by_cases hlt : i + 1 < nk
    · have d1 : decide ((i : Int) < (nk : Int) - 1) = true := decide_eq_true (by omega)
      by_cases h0 : i = 0
      · subst h0
        have E1 := Lib.hid (HE.out hS.below)
        have HS := Lib.hid hS
        clear hS
        go_wp2_with ((with_reducible refine Calls.mono E1.out ?_); rintro e w1 ⟨rfl, hb1⟩)
        go_roundw
        case rel => exact ⟨1, by omega, by go_num, by rw [HX.out], fun j h1 h2 => absurd h2 (by omega), HS.out.under hb1⟩
        case measure => simp [intOf]; omega
      · have T1 := Lib.hid (HSz.out hS.below)
        by_cases hq : X < Z.tdiv 2
        · have HQ := Lib.hid hq
          have HS := Lib.hid hS
          have d2 : decide (X < Z.tdiv 2) = true := decide_eq_true hq
          have hdd : -9223372036854775808 ≤ Z.tdiv 2 ∧ Z.tdiv 2 ≤ 9223372036854775807 := tdiv2_bd bz
          clear hq hS
          go_wp2_with (first
            | ((with_reducible refine Calls.mono T1.out ?_); rintro e w1 ⟨rfl, hb1⟩; have S1 := HS.out.under hb1; have B1c := S1.box.cells; have E1 := Lib.hid (HE.out S1.below))
            | ((with_reducible refine Calls.mono E1.out ?_); rintro e w2 ⟨rfl, hb2⟩; have S2 := S1.under hb2))
          go_roundw
          case rel => exact ⟨i + 1, by omega, by go_num, by rw [HX.out], fun j h1 h2 => by
            by_cases hji : j = i
            · rw [HY.out j hji, HH.out]; exact HQ.out
            · exact HA.out j h1 (by omega), S2⟩
          case measure => simp [intOf]; omega
        · have HI : Hid (isSplit s i) := ⟨by omega, by rw [HR.out.nk_eq]; omega, HA.out, fun _ => by rw [HH.out, HY.out i rfl]; omega⟩
          have d2 : decide (X < Z.tdiv 2) = false := decide_eq_false hq
          have hdd : -9223372036854775808 ≤ Z.tdiv 2 ∧ Z.tdiv 2 ≤ 9223372036854775807 := tdiv2_bd bz
          have HS0 := Lib.hid hS
          clear hq hS
          go_upto_region 8 with ((with_reducible refine Calls.mono T1.out ?_); rintro e w1 ⟨rfl, hb1⟩; have S1 := HS0.out.under hb1)
          refine wp_world (fun U => SpW w U s.leaf K nk ck V nv cv D nd cd) S1 ?_
          clear S1 HS0 hb1 T1 B0c
          rintro W8 hS
          have B0c := hS.box.cells
          have P1 := Lib.hid (part_any s (HR.out.below hS.below.drew (Nat.le_refl _)) 0 i (Nat.zero_le _) (by omega))
          have hmx2 := hmx.out
          have hi6 : i ≤ mostN s := by have := HMz.out.2; omega
          have HI6 := Lib.hid hi6
          clear hi6 B0c
          refine wp_region_last (S := fun w' => w'.cell? ⟨w.heap.size, 0, none⟩ = some (.bool s.leaf) ∧ w'.cell? ⟨w.heap.size, 1, none⟩ = some (.slice K nk ck) ∧ w'.cell? ⟨w.heap.size, 2, none⟩ = some (.slice V nv cv) ∧ w'.cell? ⟨w.heap.size, 3, none⟩ = some (.slice D nd cd)) 15 (by kernel_rfl) rfl (by kernel_rfl) ?_ ?_
          · exact ⟨hS.box.cell 0, hS.box.cell 1, hS.box.cell 2, hS.box.cell 3⟩
          intro hHeld
          simp only [List.take_succ_cons, List.take_zero]
          refine wpAnyH_take (i := 0) (v := ?_) (by simp only [List.getElem?_toArray, List.getElem?_cons_succ, List.getElem?_cons_zero]; rfl) (by kernel_rfl) (by kernel_rfl) (by kernel_rfl) (fun _ _ _ h => h) (Or.inl ⟨by rfl, ?_⟩) hHeld ?_
          rotate_left
          · intro wz hSw; (try dsimp only at hSw); go_simp; try with_reducible rfl
          (try simp only [Act.put, List.setIfInBounds_toArray, List.set_cons_zero, List.set_cons_succ])
          refine wpAnyH_take (i := 1) (v := ?_) (by simp only [List.getElem?_toArray, List.getElem?_cons_succ, List.getElem?_cons_zero]; rfl) (by kernel_rfl) (by kernel_rfl) (by kernel_rfl) (fun _ _ _ h => h) (Or.inl ⟨by rfl, ?_⟩) hHeld ?_
          rotate_left
          · intro wz hSw; (try dsimp only at hSw); go_simp; try with_reducible rfl
          (try simp only [Act.put, List.setIfInBounds_toArray, List.set_cons_zero, List.set_cons_succ])
          refine wpAnyH_take (i := 3) (v := ?_) (by simp only [List.getElem?_toArray, List.getElem?_cons_succ, List.getElem?_cons_zero]; rfl) (by kernel_rfl) (by kernel_rfl) (by kernel_rfl) (fun _ _ _ h => h) (Or.inl ⟨by rfl, ?_⟩) hHeld ?_
          rotate_left
          · intro wz hSw; (try dsimp only at hSw); go_simp; try with_reducible rfl
          (try simp only [Act.put, List.setIfInBounds_toArray, List.set_cons_zero, List.set_cons_succ])
          refine wpAnyH_take (i := 4) (v := ?_) (by simp only [List.getElem?_toArray, List.getElem?_cons_succ, List.getElem?_cons_zero]; rfl) (by kernel_rfl) (by kernel_rfl) (by kernel_rfl) (fun _ _ _ h => h) (Or.inl ⟨by rfl, ?_⟩) hHeld ?_
          rotate_left
          · intro wz hSw; (try dsimp only at hSw); go_simp; try with_reducible rfl
          (try simp only [Act.put, List.setIfInBounds_toArray, List.set_cons_zero, List.set_cons_succ])
          refine wpAnyH_take (i := 5) (v := ?_) (by simp only [List.getElem?_toArray, List.getElem?_cons_succ, List.getElem?_cons_zero]; rfl) (by kernel_rfl) (by kernel_rfl) (by kernel_rfl) (fun _ _ _ h => h) (Or.inl ⟨by rfl, ?_⟩) hHeld ?_
          rotate_left
          · intro wz hSw; (try dsimp only at hSw); go_simp; try with_reducible rfl
          (try simp only [Act.put, List.setIfInBounds_toArray, List.set_cons_zero, List.set_cons_succ])
          refine wpAnyH_take (i := 6) (v := ?_) (by simp only [List.getElem?_toArray, List.getElem?_cons_succ, List.getElem?_cons_zero]; rfl) (by kernel_rfl) (by kernel_rfl) (by kernel_rfl) (fun _ _ _ h => h) (Or.inl ⟨by rfl, ?_⟩) hHeld ?_
          rotate_left
          · intro wz hSw; (try dsimp only at hSw); go_simp; try with_reducible rfl
          (try simp only [Act.put, List.setIfInBounds_toArray, List.set_cons_zero, List.set_cons_succ])
          refine wpAnyH_take (i := 7) (v := ?_) (by simp only [List.getElem?_toArray, List.getElem?_cons_succ, List.getElem?_cons_zero]; rfl) (by kernel_rfl) (by kernel_rfl) (by kernel_rfl) (fun _ _ _ h => h) (Or.inl ⟨by rfl, ?_⟩) hHeld ?_
          rotate_left
          · intro wz hSw; (try dsimp only at hSw); go_simp; try with_reducible rfl
          (try simp only [Act.put, List.setIfInBounds_toArray, List.set_cons_zero, List.set_cons_succ])
          refine wpAnyH_take (i := 8) (v := ?_) (by simp only [List.getElem?_toArray, List.getElem?_cons_succ, List.getElem?_cons_zero]; rfl) (by kernel_rfl) (by kernel_rfl) (by kernel_rfl) (fun _ _ _ h => h) (Or.inl ⟨by rfl, ?_⟩) hHeld ?_
          rotate_left
          · intro wz hSw; (try dsimp only at hSw); go_simp; try with_reducible rfl
          (try simp only [Act.put, List.setIfInBounds_toArray, List.set_cons_zero, List.set_cons_succ])
          refine wpAnyH_take (i := 9) (v := ?_) (by simp only [List.getElem?_toArray, List.getElem?_cons_succ, List.getElem?_cons_zero]; rfl) (by kernel_rfl) (by kernel_rfl) (by kernel_rfl) (fun _ _ _ h => h) (Or.inl ⟨by rfl, ?_⟩) hHeld ?_
          rotate_left
          · intro wz hSw; (try dsimp only at hSw); go_simp; try with_reducible rfl
          (try simp only [Act.put, List.setIfInBounds_toArray, List.set_cons_zero, List.set_cons_succ])
          refine wpAnyH_take (i := 10) (v := ?_) (by simp only [List.getElem?_toArray, List.getElem?_cons_succ, List.getElem?_cons_zero]; rfl) (by kernel_rfl) (by kernel_rfl) (by kernel_rfl) (fun _ _ _ h => h) (Or.inl ⟨by rfl, ?_⟩) hHeld ?_
          rotate_left
          · intro wz hSw; (try dsimp only at hSw); go_simp; try with_reducible rfl
          (try simp only [Act.put, List.setIfInBounds_toArray, List.set_cons_zero, List.set_cons_succ])
          refine wpAnyH_take (i := 11) (v := ?_) (by simp only [List.getElem?_toArray, List.getElem?_cons_succ, List.getElem?_cons_zero]; rfl) (by kernel_rfl) (by kernel_rfl) (by kernel_rfl) (fun _ _ _ h => h) (Or.inl ⟨by rfl, ?_⟩) hHeld ?_
          rotate_left
          · intro wz hSw; (try dsimp only at hSw); go_simp; try with_reducible rfl
          (try simp only [Act.put, List.setIfInBounds_toArray, List.set_cons_zero, List.set_cons_succ])
          refine wpAnyH_take (i := 12) (v := ?_) (by simp only [List.getElem?_toArray, List.getElem?_cons_succ, List.getElem?_cons_zero]; rfl) (by kernel_rfl) (by kernel_rfl) (by kernel_rfl) (fun _ _ _ h => h) (Or.inl ⟨by rfl, ?_⟩) hHeld ?_
          rotate_left
          · intro wz hSw; (try dsimp only at hSw); go_simp; try with_reducible rfl
          (try simp only [Act.put, List.setIfInBounds_toArray, List.set_cons_zero, List.set_cons_succ])
          refine wpAnyH_ready (rs := [2]) (by kernel_rfl) (by simp) ?_
          refine AllReadyH.cons (by simp only [List.getElem?_toArray, List.getElem?_cons_succ, List.getElem?_cons_zero]; rfl) (fun KK hK => ?_) AllReadyH.nil
          go_simp; ((with_reducible refine Calls.mono P1.out ?_); rintro e w5 ⟨A5, m5, c5, A6, m6, c6, A7, m7, c7, rfl, n5, hb5⟩; have S5 := hS.drew.under hb5); go_wp2_with fail
          refine hK.out _ _ ?_ (fun hHeld => ?_)
          · exact ⟨S5.box.cell 0, S5.box.cell 1, S5.box.cell 2, S5.box.cell 3⟩
          clear hK KK
          (try simp only [Act.put, List.setIfInBounds_toArray, List.set_cons_zero, List.set_cons_succ])
          have P2 := Lib.hid (part_any s (HR.out.below S5.below (Nat.le_refl _)) i (mostN s) HI6.out HMz.out.1)
          refine wpAnyH_ready (rs := [13]) (by kernel_rfl) (by simp) ?_
          refine AllReadyH.cons (by simp only [List.getElem?_toArray, List.getElem?_cons_succ, List.getElem?_cons_zero]; rfl) (fun KK hK => ?_) AllReadyH.nil
          go_simp; ((with_reducible refine Calls.mono P2.out ?_); rintro e w6 ⟨E5, p5, q5, E6, p6, q6, E7, p7, q7, rfl, n6, hb6⟩; have S6 := S5.under hb6; have oc := S6.one.cells; have of_ := S6.one.frees; have tc := S6.two.cells; have tf := S6.two.frees); go_wp2_with fail
          refine hK.out _ _ ?_ (fun hHeld => ?_)
          · exact ⟨S6.box.cell 0, S6.box.cell 1, S6.box.cell 2, S6.box.cell 3⟩
          clear hK KK
          (try simp only [Act.put, List.setIfInBounds_toArray, List.set_cons_zero, List.set_cons_succ])
          refine wpAnyH_ready (rs := [14]) (by kernel_rfl) (by simp) ?_
          refine AllReadyH.cons (by simp only [List.getElem?_toArray, List.getElem?_cons_succ, List.getElem?_cons_zero]; rfl) (fun KK hK => ?_) AllReadyH.nil
          go_simp
          refine hK.out _ _ ?_ (fun hHeld => ?_)
          · exact ⟨((((S6.box.far (by simp) _).far (by simp) _).far (by simp) _).far (by simp) _).cell 0, ((((S6.box.far (by simp) _).far (by simp) _).far (by simp) _).far (by simp) _).cell 1, ((((S6.box.far (by simp) _).far (by simp) _).far (by simp) _).far (by simp) _).cell 2, ((((S6.box.far (by simp) _).far (by simp) _).far (by simp) _).far (by simp) _).cell 3⟩
          clear hK KK
          (try simp only [Act.put, List.setIfInBounds_toArray, List.set_cons_zero, List.set_cons_succ])
          refine wpAnyH_done (by kernel_rfl) ?_ _
          simp only [lastQ]
          go_simp
          clear oc of_ tc tf hHeld hmx2
          go_wp2
          have z1 := hS.high
          have z5 := S5.high
          refine bodyPost_ret (results_nn rfl rfl rfl ((((((((S6.one.set_ 0 (.bool s.leaf)).set_ 1 (.slice A5 m5 c5)).set_ 2 (.slice A6 m6 c6)).set_ 3 (.slice A7 m7 c7)).far (by simp) _).far (by simp) _).far (by simp) _).far (by simp) _)
            ((((((((S6.two.far (by simp) _).far (by simp) _).far (by simp) _).far (by simp) _).set_ 0 (.bool s.leaf)).set_ 1 (.slice E5 p5 q5)).set_ 2 (.slice E6 p6 q6)).set_ 3 (.slice E7 p7 q7))) rfl ?_
          exact ⟨partN s 0 i, partN s i (mostN s), _, _, _, _, _, _, _, _, _, _, _, _, _, _, _, _, _, _, rfl, ((n5.below hb6 (Nat.le_refl _)).far8 (by simp; omega) (by simp; omega)).weak (by simp; omega), (n6.far8 (by omega) (by omega)).weak (by omega), .inr ⟨i, HI.out, rfl, rfl⟩,
            (((((((S6.below.setCell (by simp) _).setCell (by simp) _).setCell (by simp) _).setCell (by simp) _).setCell (by simp; omega) _).setCell (by simp; omega) _).setCell (by simp; omega) _).setCell (by simp; omega) _⟩
    · have HI : Hid (isSplit s i) := ⟨by omega, by rw [HR.out.nk_eq]; omega, HA.out, fun h => by rw [HR.out.nk_eq] at h; omega⟩
      have d1 : decide ((i : Int) < (nk : Int) - 1) = false := decide_eq_false (by omega)
      go_upto_region 8 with fail
      refine wp_world (fun U => SpW w U s.leaf K nk ck V nv cv D nd cd) hS ?_
      clear hS B0c
      rintro W8 hS
      have B0c := hS.box.cells
      have P1 := Lib.hid (part_any s (HR.out.below hS.below.drew (Nat.le_refl _)) 0 i (Nat.zero_le _) (by omega))
      have hmx2 := hmx.out
      have hi6 : i ≤ mostN s := by have := HMz.out.2; omega
      have HI6 := Lib.hid hi6
      clear hi6 B0c
      refine wp_region_last (S := fun w' => w'.cell? ⟨w.heap.size, 0, none⟩ = some (.bool s.leaf) ∧ w'.cell? ⟨w.heap.size, 1, none⟩ = some (.slice K nk ck) ∧ w'.cell? ⟨w.heap.size, 2, none⟩ = some (.slice V nv cv) ∧ w'.cell? ⟨w.heap.size, 3, none⟩ = some (.slice D nd cd)) 15 (by kernel_rfl) rfl (by kernel_rfl) ?_ ?_
      · exact ⟨hS.box.cell 0, hS.box.cell 1, hS.box.cell 2, hS.box.cell 3⟩
      intro hHeld
      simp only [List.take_succ_cons, List.take_zero]
      refine wpAnyH_take (i := 0) (v := ?_) (by simp only [List.getElem?_toArray, List.getElem?_cons_succ, List.getElem?_cons_zero]; rfl) (by kernel_rfl) (by kernel_rfl) (by kernel_rfl) (fun _ _ _ h => h) (Or.inl ⟨by rfl, ?_⟩) hHeld ?_
      rotate_left
      · intro wz hSw; (try dsimp only at hSw); go_simp; try with_reducible rfl
      (try simp only [Act.put, List.setIfInBounds_toArray, List.set_cons_zero, List.set_cons_succ])
      refine wpAnyH_take (i := 1) (v := ?_) (by simp only [List.getElem?_toArray, List.getElem?_cons_succ, List.getElem?_cons_zero]; rfl) (by kernel_rfl) (by kernel_rfl) (by kernel_rfl) (fun _ _ _ h => h) (Or.inl ⟨by rfl, ?_⟩) hHeld ?_
      rotate_left
      · intro wz hSw; (try dsimp only at hSw); go_simp; try with_reducible rfl
      (try simp only [Act.put, List.setIfInBounds_toArray, List.set_cons_zero, List.set_cons_succ])
      refine wpAnyH_take (i := 3) (v := ?_) (by simp only [List.getElem?_toArray, List.getElem?_cons_succ, List.getElem?_cons_zero]; rfl) (by kernel_rfl) (by kernel_rfl) (by kernel_rfl) (fun _ _ _ h => h) (Or.inl ⟨by rfl, ?_⟩) hHeld ?_
      rotate_left
      · intro wz hSw; (try dsimp only at hSw); go_simp; try with_reducible rfl
      (try simp only [Act.put, List.setIfInBounds_toArray, List.set_cons_zero, List.set_cons_succ])
      refine wpAnyH_take (i := 4) (v := ?_) (by simp only [List.getElem?_toArray, List.getElem?_cons_succ, List.getElem?_cons_zero]; rfl) (by kernel_rfl) (by kernel_rfl) (by kernel_rfl) (fun _ _ _ h => h) (Or.inl ⟨by rfl, ?_⟩) hHeld ?_
      rotate_left
      · intro wz hSw; (try dsimp only at hSw); go_simp; try with_reducible rfl
      (try simp only [Act.put, List.setIfInBounds_toArray, List.set_cons_zero, List.set_cons_succ])
      refine wpAnyH_take (i := 5) (v := ?_) (by simp only [List.getElem?_toArray, List.getElem?_cons_succ, List.getElem?_cons_zero]; rfl) (by kernel_rfl) (by kernel_rfl) (by kernel_rfl) (fun _ _ _ h => h) (Or.inl ⟨by rfl, ?_⟩) hHeld ?_
      rotate_left
      · intro wz hSw; (try dsimp only at hSw); go_simp; try with_reducible rfl
      (try simp only [Act.put, List.setIfInBounds_toArray, List.set_cons_zero, List.set_cons_succ])
      refine wpAnyH_take (i := 6) (v := ?_) (by simp only [List.getElem?_toArray, List.getElem?_cons_succ, List.getElem?_cons_zero]; rfl) (by kernel_rfl) (by kernel_rfl) (by kernel_rfl) (fun _ _ _ h => h) (Or.inl ⟨by rfl, ?_⟩) hHeld ?_
      rotate_left
      · intro wz hSw; (try dsimp only at hSw); go_simp; try with_reducible rfl
      (try simp only [Act.put, List.setIfInBounds_toArray, List.set_cons_zero, List.set_cons_succ])
      refine wpAnyH_take (i := 7) (v := ?_) (by simp only [List.getElem?_toArray, List.getElem?_cons_succ, List.getElem?_cons_zero]; rfl) (by kernel_rfl) (by kernel_rfl) (by kernel_rfl) (fun _ _ _ h => h) (Or.inl ⟨by rfl, ?_⟩) hHeld ?_
      rotate_left
      · intro wz hSw; (try dsimp only at hSw); go_simp; try with_reducible rfl
      (try simp only [Act.put, List.setIfInBounds_toArray, List.set_cons_zero, List.set_cons_succ])
      refine wpAnyH_take (i := 8) (v := ?_) (by simp only [List.getElem?_toArray, List.getElem?_cons_succ, List.getElem?_cons_zero]; rfl) (by kernel_rfl) (by kernel_rfl) (by kernel_rfl) (fun _ _ _ h => h) (Or.inl ⟨by rfl, ?_⟩) hHeld ?_
      rotate_left
      · intro wz hSw; (try dsimp only at hSw); go_simp; try with_reducible rfl
      (try simp only [Act.put, List.setIfInBounds_toArray, List.set_cons_zero, List.set_cons_succ])
      refine wpAnyH_take (i := 9) (v := ?_) (by simp only [List.getElem?_toArray, List.getElem?_cons_succ, List.getElem?_cons_zero]; rfl) (by kernel_rfl) (by kernel_rfl) (by kernel_rfl) (fun _ _ _ h => h) (Or.inl ⟨by rfl, ?_⟩) hHeld ?_
      rotate_left
      · intro wz hSw; (try dsimp only at hSw); go_simp; try with_reducible rfl
      (try simp only [Act.put, List.setIfInBounds_toArray, List.set_cons_zero, List.set_cons_succ])
      refine wpAnyH_take (i := 10) (v := ?_) (by simp only [List.getElem?_toArray, List.getElem?_cons_succ, List.getElem?_cons_zero]; rfl) (by kernel_rfl) (by kernel_rfl) (by kernel_rfl) (fun _ _ _ h => h) (Or.inl ⟨by rfl, ?_⟩) hHeld ?_
      rotate_left
      · intro wz hSw; (try dsimp only at hSw); go_simp; try with_reducible rfl
      (try simp only [Act.put, List.setIfInBounds_toArray, List.set_cons_zero, List.set_cons_succ])
      refine wpAnyH_take (i := 11) (v := ?_) (by simp only [List.getElem?_toArray, List.getElem?_cons_succ, List.getElem?_cons_zero]; rfl) (by kernel_rfl) (by kernel_rfl) (by kernel_rfl) (fun _ _ _ h => h) (Or.inl ⟨by rfl, ?_⟩) hHeld ?_
      rotate_left
      · intro wz hSw; (try dsimp only at hSw); go_simp; try with_reducible rfl
      (try simp only [Act.put, List.setIfInBounds_toArray, List.set_cons_zero, List.set_cons_succ])
      refine wpAnyH_take (i := 12) (v := ?_) (by simp only [List.getElem?_toArray, List.getElem?_cons_succ, List.getElem?_cons_zero]; rfl) (by kernel_rfl) (by kernel_rfl) (by kernel_rfl) (fun _ _ _ h => h) (Or.inl ⟨by rfl, ?_⟩) hHeld ?_
      rotate_left
      · intro wz hSw; (try dsimp only at hSw); go_simp; try with_reducible rfl
      (try simp only [Act.put, List.setIfInBounds_toArray, List.set_cons_zero, List.set_cons_succ])
      refine wpAnyH_ready (rs := [2]) (by kernel_rfl) (by simp) ?_
      refine AllReadyH.cons (by simp only [List.getElem?_toArray, List.getElem?_cons_succ, List.getElem?_cons_zero]; rfl) (fun KK hK => ?_) AllReadyH.nil
      go_simp; ((with_reducible refine Calls.mono P1.out ?_); rintro e w5 ⟨A5, m5, c5, A6, m6, c6, A7, m7, c7, rfl, n5, hb5⟩; have S5 := hS.drew.under hb5); go_wp2_with fail
      refine hK.out _ _ ?_ (fun hHeld => ?_)
      · exact ⟨S5.box.cell 0, S5.box.cell 1, S5.box.cell 2, S5.box.cell 3⟩
      clear hK KK
      (try simp only [Act.put, List.setIfInBounds_toArray, List.set_cons_zero, List.set_cons_succ])
      have P2 := Lib.hid (part_any s (HR.out.below S5.below (Nat.le_refl _)) i (mostN s) HI6.out HMz.out.1)
      refine wpAnyH_ready (rs := [13]) (by kernel_rfl) (by simp) ?_
      refine AllReadyH.cons (by simp only [List.getElem?_toArray, List.getElem?_cons_succ, List.getElem?_cons_zero]; rfl) (fun KK hK => ?_) AllReadyH.nil
      go_simp; ((with_reducible refine Calls.mono P2.out ?_); rintro e w6 ⟨E5, p5, q5, E6, p6, q6, E7, p7, q7, rfl, n6, hb6⟩; have S6 := S5.under hb6; have oc := S6.one.cells; have of_ := S6.one.frees; have tc := S6.two.cells; have tf := S6.two.frees); go_wp2_with fail
      refine hK.out _ _ ?_ (fun hHeld => ?_)
      · exact ⟨S6.box.cell 0, S6.box.cell 1, S6.box.cell 2, S6.box.cell 3⟩
      clear hK KK
      (try simp only [Act.put, List.setIfInBounds_toArray, List.set_cons_zero, List.set_cons_succ])
      refine wpAnyH_ready (rs := [14]) (by kernel_rfl) (by simp) ?_
      refine AllReadyH.cons (by simp only [List.getElem?_toArray, List.getElem?_cons_succ, List.getElem?_cons_zero]; rfl) (fun KK hK => ?_) AllReadyH.nil
      go_simp
      refine hK.out _ _ ?_ (fun hHeld => ?_)
      · exact ⟨((((S6.box.far (by simp) _).far (by simp) _).far (by simp) _).far (by simp) _).cell 0, ((((S6.box.far (by simp) _).far (by simp) _).far (by simp) _).far (by simp) _).cell 1, ((((S6.box.far (by simp) _).far (by simp) _).far (by simp) _).far (by simp) _).cell 2, ((((S6.box.far (by simp) _).far (by simp) _).far (by simp) _).far (by simp) _).cell 3⟩
      clear hK KK
      (try simp only [Act.put, List.setIfInBounds_toArray, List.set_cons_zero, List.set_cons_succ])
      refine wpAnyH_done (by kernel_rfl) ?_ _
      simp only [lastQ]
      go_simp
      clear oc of_ tc tf hHeld hmx2
      go_wp2
      have z1 := hS.high
      have z5 := S5.high
      refine bodyPost_ret (results_nn rfl rfl rfl ((((((((S6.one.set_ 0 (.bool s.leaf)).set_ 1 (.slice A5 m5 c5)).set_ 2 (.slice A6 m6 c6)).set_ 3 (.slice A7 m7 c7)).far (by simp) _).far (by simp) _).far (by simp) _).far (by simp) _)
        ((((((((S6.two.far (by simp) _).far (by simp) _).far (by simp) _).far (by simp) _).set_ 0 (.bool s.leaf)).set_ 1 (.slice E5 p5 q5)).set_ 2 (.slice E6 p6 q6)).set_ 3 (.slice E7 p7 q7))) rfl ?_
      exact ⟨partN s 0 i, partN s i (mostN s), _, _, _, _, _, _, _, _, _, _, _, _, _, _, _, _, _, _, rfl, ((n5.below hb6 (Nat.le_refl _)).far8 (by simp; omega) (by simp; omega)).weak (by simp; omega), (n6.far8 (by omega) (by omega)).weak (by omega), .inr ⟨i, HI.out, rfl, rfl⟩,
        (((((((S6.below.setCell (by simp) _).setCell (by simp) _).setCell (by simp) _).setCell (by simp) _).setCell (by simp; omega) _).setCell (by simp; omega) _).setCell (by simp; omega) _).setCell (by simp; omega) _⟩

theorem split_any (s : Nd) {w : World} {lo : Nat} {K V D : Option Addr} {nk ck nv cv nd cd : Nat} (h : NdR w lo s K nk ck V nv cv D nd cd) :
    Calls Try.prog 20 #[.agg #[.bool s.leaf, .slice K nk ck, .slice V nv cv, .slice D nd cd]] w (SplitTo w s) := by
  by_cases hf : nk < 2
  · exact split_few s h hf
  · exact split_many s h (by omega)
end Go.Proofs.Ytnjpibbmgbiofaa
