/- sums.schedule: the words of 64 bytes. -/
import Derived.Test.YtgfmpgflbphpcaaSha1
import Derived.Test.YtgfmpgflbphpcaaBytes
import Derived.StillTailTactics
import Derived.BigQuiet
import Derived.IntWalk
import Derived.Deep.DeepCutAuto
import Derived.Deep.DeepMust
namespace Go.Proofs.Ytgfmpgflbphpcaa
open Go.RowKit

def us (l : List Nat) : List Value := l.map fun n : Nat => .int .u32 (n : Int)
def zu (n : Nat) : List Value := List.replicate n (.int .u32 0)
theorem zero49 (w : World) : (zeroValue 49).run Try.prog w = .ok (.agg (zu 64).toArray) w := by kernel_rfl
theorem zero51 (w : World) : (zeroValue 51).run Try.prog w = .ok (.agg (zu 8).toArray) w := by kernel_rfl
/-- the first words, then nothing -/
def half (l : List Nat) : List Value := us l ++ zu (64 - l.length)
theorem length_half (l : List Nat) (h : l.length ≤ 64) : (half l).length = 64 := by simp [half, us, zu]; omega
theorem half_get (l : List Nat) (i : Nat) (h : i < l.length) : (half l)[i]? = some (.int .u32 (l.getD i 0 : Int)) := by
  rw [half, List.getElem?_append_left (by simpa [us] using h), us, List.getElem?_map, List.getElem?_eq_getElem h, List.getD_eq_getElem?_getD, List.getElem?_eq_getElem h]
  rfl
theorem half_set (l : List Nat) (x : Nat) (h : l.length < 64) : (half l).set l.length (.int .u32 (x : Int)) = half (l ++ [x]) := by
  rw [half, List.set_append_right _ _ (by simp [us]), show (us l).length = l.length by simp [us], Nat.sub_self, show 64 - l.length = (63 - l.length) + 1 by omega, zu, List.replicate_succ, List.set_cons_zero, half, List.length_append, List.length_singleton, show 64 - (l.length + 1) = 63 - l.length by omega, us, us, List.map_append, List.append_assoc]
  rfl
theorem half_next (l : List Nat) (i : Nat) (hi : l.length = i) (h : i < 64) : (half l)[i]? = some (.int .u32 0) := by
  subst hi
  rw [half, List.getElem?_append_right (by simp [us]), show (us l).length = l.length by simp [us], Nat.sub_self, zu, List.getElem?_replicate, if_pos (by omega)]
theorem half_full (l : List Nat) (h : l.length = 64) : half l = us l := by simp [half, zu, h]

theorem w4_val (a b c d : Nat) (ha : a < 256) (hb : b < 256) (hc : c < 256) (hd : d < 256) :
    bits .or .u32 (bits .or .u32 (bits .or .u32 ((a : Int) % 4294967296 * 16777216 % 4294967296) ((b : Int) % 4294967296 * 65536 % 4294967296)) ((c : Int) % 4294967296 * 256 % 4294967296)) ((d : Int) % 4294967296) = ((a * 16777216 + b * 65536 + c * 256 + d : Nat) : Int) := by
  have e1 : (a : Int) % 4294967296 * 16777216 % 4294967296 = ((a * 16777216 : Nat) : Int) := by omega
  have e2 : (b : Int) % 4294967296 * 65536 % 4294967296 = ((b * 65536 : Nat) : Int) := by omega
  have e3 : (c : Int) % 4294967296 * 256 % 4294967296 = ((c * 256 : Nat) : Int) := by omega
  have e4 : (d : Int) % 4294967296 = ((d : Nat) : Int) := by omega
  have s24 : ∀ z : Nat, z <<< 24 = z * 16777216 := fun z => by simp [Nat.shiftLeft_eq]
  have s16 : ∀ z : Nat, z <<< 16 = z * 65536 := fun z => by simp [Nat.shiftLeft_eq]
  have s8 : ∀ z : Nat, z <<< 8 = z * 256 := fun z => by simp [Nat.shiftLeft_eq]
  have o1 : a * 16777216 ||| b * 65536 = a * 16777216 + b * 65536 := by
    have := Nat.shiftLeft_add_eq_or_of_lt (show b * 65536 < 2 ^ 24 by omega) a
    rw [s24] at this; exact this.symm
  have o2 : (a * 16777216 + b * 65536) ||| c * 256 = a * 16777216 + b * 65536 + c * 256 := by
    have := Nat.shiftLeft_add_eq_or_of_lt (show c * 256 < 2 ^ 16 by omega) (a * 256 + b)
    rw [s16, show (a * 256 + b) * 65536 = a * 16777216 + b * 65536 by rw [Nat.add_mul, Nat.mul_assoc]] at this; exact this.symm
  have o3 : (a * 16777216 + b * 65536 + c * 256) ||| d = a * 16777216 + b * 65536 + c * 256 + d := by
    have := Nat.shiftLeft_add_eq_or_of_lt (show d < 2 ^ 8 by omega) (a * 65536 + b * 256 + c)
    rw [s8, show (a * 65536 + b * 256 + c) * 256 = a * 16777216 + b * 65536 + c * 256 by rw [Nat.add_mul, Nat.add_mul, Nat.mul_assoc, Nat.mul_assoc]] at this; exact this.symm
  rw [e1, e2, e3, e4, u32_or _ _ (by omega) (by omega), o1, u32_or _ _ (by omega) (by omega), o2, u32_or _ _ (by omega) (by omega), o3]
theorem row_set {P : Program} {ops : Array Oper} {rest : List Oper} {o : Oper} {a : Act} {w : World} {Q : Exit → Act → World → Prop} (hgd : o.guard = none) (hds : o.dst = none) (ty : TypeId) (x y : Operand) (ho : o.op = .store ty x y)
    (g : Nat) (hx : a.eval x = .pointer (some ⟨g, 0, none⟩)) (cs : List Value) (hy : a.eval y = .agg cs.toArray) (t : TypeId) (old : List Value) (hg : Blk w g t old) (hi : (P.info? ty).map (·.size) = some cs.length)
    (hl : old.length = cs.length) (h1 : ∀ u ∈ cs, u.oneCell' = true)
    (h : ∀ w', Hid (Blk w' g t cs) → w.grownBy w' (some g) → wpList P ops Q rest a w') : wpList P ops Q (o :: rest) a w := by
  have hall : cs.toArray.all (·.oneCell') = true := by
    rw [Array.all_eq_true_iff_forall_mem]; intro v hv; exact h1 v (by simpa using hv)
  have hp : a.put o.dst undef = a := by rw [hds]; rfl
  refine wpList_store_row hgd ty x y ho g cs.toArray hx hy t old.toArray hg (by simpa using hi) (by simpa using hl) hall ?_
  rw [hp]
  exact h _ (show Blk _ _ _ _ from setRow_heap w g _ _ t _ hg) ⟨rfl, rfl, rfl, by simp, fun k _ hk => setRow_other w g k _ (fun e => hk (by rw [e]))⟩
theorem us_oneCell (l : List Nat) : ∀ u ∈ us l, u.oneCell' = true := by
  intro u hu
  obtain ⟨n, _, rfl⟩ := List.mem_map.1 hu
  rfl
theorem length_us (l : List Nat) : (us l).length = l.length := by simp [us]
theorem sum4 (a b c d : Nat) : ((a : Int) + b + c + d) % 4294967296 = (((a + b + c + d) % 4294967296 : Nat) : Int) := by omega
theorem sig0_val (x : Nat) (h : x < 4294967296) : bits .xor .u32 (bits .xor .u32 (rotr x 7 : Nat) (rotr x 18 : Nat)) ((x : Int) / 8) = ((sig0 x : Nat) : Int) := by
  have h1 := rotr_lt h (n := 7) (by omega) (by omega)
  have h2 := rotr_lt h (n := 18) (by omega) (by omega)
  rw [u32_xor _ _ h1 h2, show (x : Int) / 8 = ((x / 8 : Nat) : Int) by omega, u32_xor _ _ (xor_lt h1 h2) (by omega)]
  rfl
theorem sig1_val (x : Nat) (h : x < 4294967296) : bits .xor .u32 (bits .xor .u32 (rotr x 17 : Nat) (rotr x 19 : Nat)) ((x : Int) / 1024) = ((sig1 x : Nat) : Int) := by
  have h1 := rotr_lt h (n := 17) (by omega) (by omega)
  have h2 := rotr_lt h (n := 19) (by omega) (by omega)
  rw [u32_xor _ _ h1 h2, show (x : Int) / 1024 = ((x / 1024 : Nat) : Int) by omega, u32_xor _ _ (xor_lt h1 h2) (by omega)]
  rfl
theorem size49 : (Try.prog.info? 49).map (·.size) = some 64 := by kernel_rfl
theorem size51 : (Try.prog.info? 51).map (·.size) = some 8 := by kernel_rfl

set_option maxRecDepth 100000 in
set_option maxHeartbeats 4000000 in
theorem sched_any {A : Option Addr} {m c lo : Nat} {l : List UInt8} {w : World} (hb : Bs w lo A m c l) (h64 : 64 ≤ m) :
    Calls Try.prog 38 #[.slice A m c] w fun e w' => e = .returned (.agg (us (sched l 64)).toArray) ∧ Below w.heap.size w w' := by
  obtain ⟨b, o, rfl, hbl, hbw⟩ := hb.at_ (by omega)
  have z49 := zero49
  have HB := Lib.hid hb
  clear hb
  go_enter Try.func38, Try.ntmps38
  go_wp2
  go_loopw [8] (fun s8 wr => ∃ i : Nat, i ≤ 16 ∧ s8 = .int .i64 i ∧ Blk wr (w.heap.size + 1) 49 (half (sched l i)) ∧ Blk wr w.heap.size 49 (zu 64) ∧ Below w.heap.size w wr)
    (fun s8 _ => 16 - (intOf s8).toNat)
  case atStart => exact ⟨0, by omega, rfl, Blk.new_at (by simp), (Blk.new _ _ _).alloc _, ((Below.refl _ _).alloc (Nat.le_refl _) _).alloc (by simp) _⟩
  case round =>
    obtain ⟨i, hi, rfl, hg, hz, hbw2⟩ := hrel
    by_cases hlt : i < 16
    · have HI := Lib.hid hlt
      have hc := HB.out.below hbw2 (Nat.le_refl _)
      have c0 := hc.cell (4 * i) (by omega)
      have c1 := hc.cell (4 * i + 1) (by omega)
      have c2 := hc.cell (4 * i + 2) (by omega)
      have c3 := hc.cell (4 * i + 3) (by omega)
      have HS : Hid (sched l (i + 1) = sched l i ++ [if i < 16 then word4 l i else _]) := rfl
      have HG := Lib.hid hg
      have hf := hg.frozen i
      have gc := (hg.cell i).trans (half_next _ i (length_sched l i) (by omega))
      have HZ := Lib.hid hz
      clear hg hz hc
      generalize hy0 : l.getD (4 * i) 0 = y0 at *
      generalize hy1 : l.getD (4 * i + 1) 0 = y1 at *
      generalize hy2 : l.getD (4 * i + 2) 0 = y2 at *
      generalize hy3 : l.getD (4 * i + 3) 0 = y3 at *
      have HY : Hid (word4 l i = y0.toNat * 16777216 + y1.toNat * 65536 + y2.toNat * 256 + y3.toNat) := Lib.hid (by unfold word4; rw [hy0, hy1, hy2, hy3])
      clear hy0 hy1 hy2 hy3
      have HW := Lib.hid (w4_val y0.toNat y1.toNat y2.toNat y3.toNat y0.toNat_lt y1.toNat_lt y2.toNat_lt y3.toNat_lt)
      have i0 : IntKind.i64.wrap (4 * (i : Int)) = ((4 * i : Nat) : Int) := by rw [IntWalk.i64_in _ (by omega)]; omega
      have i1 : IntKind.i64.wrap (((4 * i : Nat) : Int) + 1) = ((4 * i + 1 : Nat) : Int) := by rw [IntWalk.i64_in _ (by omega)]; omega
      have i2 : IntKind.i64.wrap (((4 * i : Nat) : Int) + 2) = ((4 * i + 2 : Nat) : Int) := by rw [IntWalk.i64_in _ (by omega)]; omega
      have i3 : IntKind.i64.wrap (((4 * i : Nat) : Int) + 3) = ((4 * i + 3 : Nat) : Int) := by rw [IntWalk.i64_in _ (by omega)]; omega
      have b0 : ((4 * i + 3 : Nat) : Int) < (m : Int) := by omega
      have b1 : ((4 * i + 2 : Nat) : Int) < (m : Int) := by omega
      have b2 : ((4 * i + 1 : Nat) : Int) < (m : Int) := by omega
      have b4 : (i : Int) < 64 := by omega
      have b3 : ((4 * i : Nat) : Int) < (m : Int) := by omega
      generalize 4 * i + 1 = j1 at *
      generalize 4 * i + 2 = j2 at *
      generalize 4 * i + 3 = j3 at *
      generalize 4 * i = j0 at *
      go_wp2
      go_still_tail 35, (by kernel_rfl)
      change wpList _ _ _ _ _ wr.drew
      go_wp2
      go_roundw
      case rel =>
        refine ⟨i + 1, by omega, by go_num, ?_, ?_, ?_⟩
        · rw [HW.out, ← HY.out, HS.out, if_pos HI.out, ← half_set _ _ (by rw [length_sched]; omega), length_sched]
          exact HG.out.drew.set_ i _
        · exact HZ.out.drew.far (by simp) _
        · exact hbw2.drew.setCell (by simp) _
      case measure => simp [intOf]; omega
    · have h16 : (i : Int) = 16 := by omega
      rw [h16]
      obtain rfl : i = 16 := by omega
      clear h16 hlt hi
      go_wp2
      go_loopw [5] (fun s5 wr => ∃ i : Nat, 16 ≤ i ∧ i ≤ 64 ∧ s5 = .int .i64 i ∧ Blk wr (w.heap.size + 1) 49 (half (sched l i)) ∧ Blk wr w.heap.size 49 (zu 64) ∧ Below w.heap.size w wr)
        (fun s5 _ => 64 - (intOf s5).toNat)
      case atStart => exact ⟨16, by omega, by omega, rfl, hg, hz, hbw2⟩
      case round =>
        clear hg hz hbw2
        obtain ⟨i, hi0, hi, rfl, hg, hz, hbw2⟩ := hrel
        by_cases hlt : i < 64
        · have hL := length_sched l i
          have hg15 := (hg.cell (i - 15)).trans (half_get (sched l i) (i - 15) (by omega))
          have hg2 := (hg.cell (i - 2)).trans (half_get (sched l i) (i - 2) (by omega))
          have HS : Hid (sched l (i + 1) = sched l i ++ [if i < 16 then word4 l i else ((sched l i).getD (i - 16) 0 + sig0 ((sched l i).getD (i - 15) 0) + (sched l i).getD (i - 7) 0 + sig1 ((sched l i).getD (i - 2) 0)) % 4294967296]) := rfl
          have hX := sched_getD l i (i - 15)
          have hY := sched_getD l i (i - 2)
          have HX := Lib.hid hX
          have HY := Lib.hid hY
          have HP := Lib.hid (sched_getD l i (i - 16))
          have HQ := Lib.hid (sched_getD l i (i - 7))
          have hgP : Hid (∀ V : World, Blk V (w.heap.size + 1) 49 (half (sched l i)) → V.cell? ⟨w.heap.size + 1, i - 16, none⟩ = some (.int .u32 ((sched l i).getD (i - 16) 0 : Nat))) := fun V h => (h.cell (i - 16)).trans (half_get (sched l i) (i - 16) (by omega))
          have hgQ : Hid (∀ V : World, Blk V (w.heap.size + 1) 49 (half (sched l i)) → V.cell? ⟨w.heap.size + 1, i - 7, none⟩ = some (.int .u32 ((sched l i).getD (i - 7) 0 : Nat))) := fun V h => (h.cell (i - 7)).trans (half_get (sched l i) (i - 7) (by omega))
          have hgN : Hid (∀ V : World, Blk V (w.heap.size + 1) 49 (half (sched l i)) → V.cell? ⟨w.heap.size + 1, i, none⟩ = some (.int .u32 0)) := fun V h => (h.cell i).trans (half_next _ i hL hlt)
          generalize (sched l i).getD (i - 15) 0 = X at *
          generalize (sched l i).getD (i - 2) 0 = Y at *
          generalize (sched l i).getD (i - 16) 0 = P at *
          generalize (sched l i).getD (i - 7) 0 = Q at *
          have HI := Lib.hid hi0
          have HL := Lib.hid hlt
          have HG := Lib.hid hg
          have HZ := Lib.hid hz
          clear hg hz hL
          have i15 : IntKind.i64.wrap ((i : Int) - 15) = ((i - 15 : Nat) : Int) := by rw [IntWalk.i64_in _ (by omega)]; omega
          have i2 : IntKind.i64.wrap ((i : Int) - 2) = ((i - 2 : Nat) : Int) := by rw [IntWalk.i64_in _ (by omega)]; omega
          have i16 : IntKind.i64.wrap ((i : Int) - 16) = ((i - 16 : Nat) : Int) := by rw [IntWalk.i64_in _ (by omega)]; omega
          have i7 : IntKind.i64.wrap ((i : Int) - 7) = ((i - 7 : Nat) : Int) := by rw [IntWalk.i64_in _ (by omega)]; omega
          have l15 : ((i - 15 : Nat) : Int) < 64 := by omega
          have l2 : ((i - 2 : Nat) : Int) < 64 := by omega
          have l16 : ((i - 16 : Nat) : Int) < 64 := by omega
          have l7 : ((i - 7 : Nat) : Int) < 64 := by omega
          have l0 : (i : Int) < 64 := by omega
          generalize i - 15 = j15 at *
          generalize i - 2 = j2 at *
          generalize i - 16 = j16 at *
          generalize i - 7 = j7 at *
          clear hi0
          go_wp2
          go_quiet (fail)
          go_wp2_with fail
          refine wp_world (fun V => Blk V (w.heap.size + 1) 49 (half (sched l i)) ∧ Blk V w.heap.size 49 (zu 64) ∧ Below w.heap.size w V) ⟨HG.out.drewN _, HZ.out.drewN _, below_drewN hbw2 _⟩ ?_
          clear HG HZ hbw2 hg15 hg2
          rintro V ⟨hg, hz, hbw2⟩
          have hg16 := hgP.out V hg
          have hg7 := hgQ.out V hg
          have gc := hgN.out V hg
          have hf := hg.frozen i
          have HG := Lib.hid hg
          have HZ := Lib.hid hz
          clear hg hz
          refine wp_region_still_tail 29 (by kernel_rfl) (by kernel_rfl) ?_
          simp only [List.take_succ_cons, List.take_zero, List.drop_succ_cons, List.drop_zero]
          iterate 6 still_step
          still_call ((turn_any X 7 _ hX (by decide)).mono fun _ _ h => ⟨h.1, h.2.symm⟩)
          still_step
          still_call ((turn_any X 18 _ hX (by decide)).mono fun _ _ h => ⟨h.1, h.2.symm⟩)
          iterate 11 still_step
          still_call ((turn_any Y 17 _ hY (by decide)).mono fun _ _ h => ⟨h.1, h.2.symm⟩)
          still_step
          still_call ((turn_any Y 19 _ hY (by decide)).mono fun _ _ h => ⟨h.1, h.2.symm⟩)
          iterate 6 still_step
          refine wpStill_nil ?_
          change wpList _ _ _ _ _ V.drew
          go_wp2
          go_roundw
          case rel =>
            refine ⟨i + 1, by have := HI.out; omega, by have := HL.out; omega, by go_num, ?_, ?_, ?_⟩
            · rw [sig0_val X HX.out, sig1_val Y HY.out, sum4 P (sig0 X) Q (sig1 Y), HS.out, if_neg (by have := HI.out; omega), ← half_set _ _ (by rw [length_sched]; exact HL.out), length_sched]
              exact (HG.out.set_ i _).drew
            · exact HZ.out.drew.far (by simp) _
            · exact hbw2.drew.setCell (by simp) _
          case measure => have := HL.out; simp [intOf]; omega
        · have h64 : (i : Int) = 64 := by omega
          rw [h64]
          obtain rfl : i = 64 := by omega
          clear h64 hlt hi hi0
          rw [half_full _ (length_sched l 64)] at hg
          go_upto_region 12 with fail
          go_wp2_with (first | (refine wpList_load_row rfl 49 (.tmp 3) rfl (w.heap.size + 1) rfl 49 _ (0, 0) _ hg Try.underlying49 rfl (by rw [size49]; simp [length_us, length_sched]) ?_) | (refine row_set rfl rfl 49 (.tmp 2) (.tmp 88) rfl w.heap.size rfl (us (sched l 64)) rfl 49 _ hz (by rw [size49, length_us, length_sched]) (by rw [length_us, length_sched]; simp [zu]) (us_oneCell _) ?_; intro w1 H1 g1))
          refine bodyPost_ret (results_cell_row rfl _ w1 w.heap.size 49 _ (0, 0) _ rfl H1.out Try.underlying49 rfl (by rw [size49]; simp [length_us, length_sched])) rfl ?_
          exact ⟨rfl, hbw2.grown g1 hbw2.size (by intro k hk; simp at hk; omega)⟩
end Go.Proofs.Ytgfmpgflbphpcaa
