/- The statements of layer 10: SuperPuts, SuperApart: their walks. -/
import Derived.Test.YtgfmpgflbphpcaaSup
namespace Go.Proofs.Ytgfmpgflbphpcaa
open Go.RowKit

theorem may_t {s : Sup} {t : Bool} (ht : decide (supOk s) = t) {A : Option Addr} {n c lo : Nat} {w : World} (hr : Vr w lo A n c s.vs) :
    Calls Try.prog 24 #[.agg #[.int .i64 s.gen, .int .i64 s.sec, .int .i64 s.next, .slice A n c]] w fun e w' => e = .returned (.bool t) ∧ Below w.heap.size w w' := ht ▸ may_any s hr
theorem sput_yes (s : Sup) {A : Option Addr} {n c lo : Nat} {w : World} (hr : Vr w lo A n c s.vs) (h : supOk s) :
    Calls Try.prog 20 #[.agg #[.int .i64 s.gen, .int .i64 s.sec, .int .i64 s.next, .slice A n c]] w fun e w' => ∃ A' c', e = .returned (.tuple #[.slice A' 256 c', .int .i64 0]) ∧ Own w' w.heap.size 5 1 A' 256 c' (bvs (putS s)) ∧ Below w.heap.size w w' :=
  (sput_any s hr).mono fun e w' h2 => by
    rcases h2 with ⟨_, h2⟩ | ⟨hn, _⟩
    · exact h2
    · exact absurd h hn
theorem rsput_yes (s : Sup) {A : Option Addr} {n c lo : Nat} {w : World} (hr : Vr w lo A n c s.vs) (h : supOk s) :
    Calls Try.prog 21 #[.agg #[.int .i64 s.gen, .int .i64 s.sec, .int .i64 s.next, .slice A n c]] w fun e w' => ∃ A' c', e = .returned (.tuple #[.slice A' 256 c', .int .i64 0]) ∧ Own w' w.heap.size 5 1 A' 256 c' (bvs (putS s)) ∧ Below w.heap.size w w' :=
  (rsput_any s hr).mono fun e w' h2 => by
    rcases h2 with ⟨_, h2⟩ | ⟨hn, _⟩
    · exact h2
    · exact absurd h hn
theorem sget_own (s : Sup) (h : supOk s) {A : Option Addr} {c lo : Nat} {w : World} (hb : Bs w lo A 256 c (putS s)) :
    Calls Try.prog 26 #[.slice A 256 c] w fun e w' => ∃ A' c', e = .returned (.tuple #[.agg #[.int .i64 s.gen, .int .i64 s.sec, .int .i64 s.next, .slice A' s.vs.length c'], .bool true]) ∧ Vr w' w.heap.size A' s.vs.length c' s.vs ∧ Below w.heap.size w w' := by
  have h2 := sget_any hb
  rw [getS_putS s h] at h2
  exact h2

set_option maxRecDepth 100000 in
set_option maxHeartbeats 2000000 in
theorem superPuts_any (s : Sup) {A : Option Addr} {n c lo : Nat} {w : World} (hr : Vr w lo A n c s.vs) :
    Calls Try.prog 7 #[.agg #[.int .i64 s.gen, .int .i64 s.sec, .int .i64 s.next, .slice A n c]] w fun e w' => e = .returned (.bool true) ∧ Below w.heap.size w w' := by
  have HR := Lib.hid hr
  have HL := Lib.hid hr.1
  clear hr
  by_cases hok : supOk s
  · have HOK := Lib.hid hok
    have HD := Lib.hid (decide_eq_true hok)
    clear hok
    go_enter Try.func7, Try.ntmps7
    go_upto_region 1 with fail
    refine wp_world (fun V => Blk V w.heap.size 32 [.int .i64 s.gen, .int .i64 s.sec, .int .i64 s.next, .slice A n c] ∧ Below w.heap.size w V) ⟨Blk.new w 32 [.int .i64 s.gen, .int .i64 s.sec, .int .i64 s.next, .slice A n c], (Below.refl _ _).alloc (Nat.le_refl _) _⟩ ?_
    rintro V ⟨B0, b0⟩
    have B0c := B0.cells
    have P1 := Lib.hid (sput_yes s (HR.out.below b0 (Nat.le_refl _)) HOK.out)
    go_upto_region 2 with ((with_reducible refine Calls.mono P1.out ?_); rintro e w1 ⟨A1, c1, rfl, ho1, hb1⟩)
    have b1 := b0.trans (hb1.mono b0.size)
    have B1 := B0.below hb1 B0.lt
    have S1 := own_bs ho1
    clear B0c P1 ho1 hb1 B0 b0
    have B1c := B1.cells
    have P2 := Lib.hid (rsput_yes s (HR.out.below b1 (Nat.le_refl _)) HOK.out)
    go_upto_region 3 with ((with_reducible refine Calls.mono P2.out ?_); rintro e w2 ⟨A2, c2, rfl, ho2, hb2⟩)
    have b2 := b1.trans (hb2.mono b1.size)
    have B2 := B1.below hb2 B1.lt
    have S12 := S1.below hb2 (Nat.le_refl _)
    have E1 := Lib.hid (same_any S12 (own_bs ho2))
    rw [decide_eq_true (rfl : putS s = putS s)] at E1
    clear B1c P2 ho2 hb2 B1 b1 S1
    go_upto_region 4 with ((with_reducible refine Calls.mono E1.out ?_); rintro e w3 ⟨rfl, q3, rfl⟩)
    have b3 := below_drewN b2 q3
    have B3 := B2.drewN q3
    have S3 := S12.drewN q3
    clear E1 b2 B2 S12
    have B3c := B3.cells
    have M1 := Lib.hid (rmay_b HD.out (HR.out.below b3 (Nat.le_refl _)))
    go_upto_region 5 with ((with_reducible refine Calls.mono M1.out ?_); rintro e w4 ⟨rfl, hb4⟩)
    have b4 := b3.trans (hb4.mono b3.size)
    have B4 := B3.below hb4 B3.lt
    have S4 := S3.below hb4 (Nat.le_refl _)
    clear M1 b3 B3 S3 hb4 B3c
    have B4c := B4.cells
    have M2 := Lib.hid (may_t HD.out (HR.out.below b4 (Nat.le_refl _)))
    go_upto_region 9 with ((with_reducible refine Calls.mono M2.out ?_); rintro e w5 ⟨rfl, hb5⟩)
    have b5 := b4.trans (hb5.mono b4.size)
    have B5 := B4.below hb5 B4.lt
    have S5 := S4.below hb5 (Nat.le_refl _)
    clear M2 b4 B4 S4 hb5 B4c
    have G1 := Lib.hid (sget_own s HOK.out S5)
    go_upto_region 10 with ((with_reducible refine Calls.mono G1.out ?_); rintro e w6 ⟨A6, c6, rfl, hv6, hb6⟩)
    have b6 := b5.trans (hb6.mono b5.size)
    refine wp_world (fun U => Below w.heap.size w U ∧ Blk U w.heap.size 32 [.int .i64 s.gen, .int .i64 s.sec, .int .i64 s.next, .slice A n c] ∧ Blk U w6.heap.size 32 [.int .i64 s.gen, .int .i64 s.sec, .int .i64 s.next, .slice A6 s.vs.length c6] ∧ Vr U w5.heap.size A6 s.vs.length c6 s.vs)
      ⟨b6.alloc b6.size _, (B5.below hb6 B5.lt).alloc _, Blk.new_at (cs := [.int .i64 s.gen, .int .i64 s.sec, .int .i64 s.next, .slice A6 s.vs.length c6]) rfl, hv6.below (B := w6.heap.size) ((Below.refl _ _).alloc (Nat.le_refl _) _) (Nat.le_refl _)⟩ ?_
    clear b6 hv6 hb6 G1 B5 S5 b5
    generalize w6.heap.size = h6 at *
    rintro U ⟨bU, B1, B3, V3⟩
    have B1c := B1.cells
    have B3c := B3.cells
    have N4 := Lib.hid (ssame_any s s V3 (HR.out.below bU (Nat.le_refl _)))
    rw [decide_eq_true (rfl : s = s)] at N4
    clear B1 B3 V3
    go_upto_region 11 with ((with_reducible refine Calls.mono N4.out ?_); rintro e w7 ⟨rfl, hb7⟩)
    have b7 := bU.trans (hb7.mono bU.size)
    clear B1c B3c N4 bU hb7
    go_wp2_with (go_at_call 25; refine (suplives_any _).mono ?_; rintro e w8 ⟨rfl, hb8⟩)
    go_ret
    exact ⟨rfl, b7.trans (hb8.mono b7.size)⟩
  · have HNK := Lib.hid hok
    have HD := Lib.hid (decide_eq_false hok)
    clear hok
    go_enter Try.func7, Try.ntmps7
    go_upto_region 1 with fail
    refine wp_world (fun V => Blk V w.heap.size 32 [.int .i64 s.gen, .int .i64 s.sec, .int .i64 s.next, .slice A n c] ∧ Below w.heap.size w V) ⟨Blk.new w 32 [.int .i64 s.gen, .int .i64 s.sec, .int .i64 s.next, .slice A n c], (Below.refl _ _).alloc (Nat.le_refl _) _⟩ ?_
    rintro V ⟨B0, b0⟩
    have B0c := B0.cells
    have P1 := Lib.hid (sput_no s (HR.out.below b0 (Nat.le_refl _)) HNK.out)
    go_upto_region 2 with ((with_reducible refine Calls.mono P1.out ?_); rintro e w1 ⟨rfl, hb1⟩)
    have b1 := b0.trans (hb1.mono b0.size)
    have B1 := B0.below hb1 B0.lt
    clear B0c P1 hb1 B0 b0
    have B1c := B1.cells
    have P2 := Lib.hid (rsput_no s (HR.out.below b1 (Nat.le_refl _)) HNK.out)
    go_upto_region 3 with ((with_reducible refine Calls.mono P2.out ?_); rintro e w2 ⟨rfl, hb2⟩)
    have b2 := b1.trans (hb2.mono b1.size)
    have B2 := B1.below hb2 B1.lt
    have E1 := Lib.hid (same_any (Bs.nil_ w2 0) (Bs.nil_ w2 0))
    rw [decide_eq_true (rfl : ([] : List UInt8) = [])] at E1
    clear B1c P2 hb2 B1 b1
    go_upto_region 4 with ((with_reducible refine Calls.mono E1.out ?_); rintro e w3 ⟨rfl, q3, rfl⟩)
    have b3 := below_drewN b2 q3
    have B3 := B2.drewN q3
    clear E1 b2 B2
    have B3c := B3.cells
    have M1 := Lib.hid (rmay_b HD.out (HR.out.below b3 (Nat.le_refl _)))
    go_upto_region 5 with ((with_reducible refine Calls.mono M1.out ?_); rintro e w4 ⟨rfl, hb4⟩)
    have b4 := b3.trans (hb4.mono b3.size)
    have B4 := B3.below hb4 B3.lt
    clear M1 b3 B3 hb4 B3c
    have B4c := B4.cells
    have M2 := Lib.hid (may_t HD.out (HR.out.below b4 (Nat.le_refl _)))
    go_upto_region 7 with ((with_reducible refine Calls.mono M2.out ?_); rintro e w5 ⟨rfl, hb5⟩)
    have b5 := b4.trans (hb5.mono b4.size)
    clear M2 b4 B4 hb5 B4c
    go_wp2_with (go_at_call 25; refine (suplives_any _).mono ?_; rintro e w8 ⟨rfl, hb8⟩)
    go_ret
    exact ⟨rfl, b5.trans (hb8.mono b5.size)⟩

set_option maxRecDepth 100000 in
set_option maxHeartbeats 2000000 in
theorem superApart_any (s t : Sup) {A B : Option Addr} {n c m d lo lo2 : Nat} {w : World} (hr : Vr w lo A n c s.vs) (hr2 : Vr w lo2 B m d t.vs) :
    Calls Try.prog 9 #[.agg #[.int .i64 s.gen, .int .i64 s.sec, .int .i64 s.next, .slice A n c], .agg #[.int .i64 t.gen, .int .i64 t.sec, .int .i64 t.next, .slice B m d]] w fun e w' => e = .returned (.bool true) ∧ Below w.heap.size w w' := by
  have HR := Lib.hid hr
  have HR2 := Lib.hid hr2
  clear hr hr2
  have start : Below w.heap.size w ((w.alloc (.cells #[.int .i64 s.gen, .int .i64 s.sec, .int .i64 s.next, .slice A n c] 32)).alloc (.cells #[.int .i64 t.gen, .int .i64 t.sec, .int .i64 t.next, .slice B m d] 32)) := ((Below.refl _ _).alloc (Nat.le_refl _) _).alloc (by simp) _
  by_cases hok : supOk s
  · by_cases hok2 : supOk t
    · have HK := Lib.hid hok
      have HK2 := Lib.hid hok2
      have HI : Hid (decide (putS s = putS t) = decide (s = t)) := by
        show _ = _
        rw [Bool.eq_iff_iff, decide_eq_true_eq, decide_eq_true_eq]
        exact putS_inj s t hok hok2
      clear hok hok2
      go_enter Try.func9, Try.ntmps9
      go_upto_region 1 with fail
      refine wp_world (fun V => Blk V w.heap.size 32 [.int .i64 s.gen, .int .i64 s.sec, .int .i64 s.next, .slice A n c] ∧ Blk V (w.heap.size + 1) 32 [.int .i64 t.gen, .int .i64 t.sec, .int .i64 t.next, .slice B m d] ∧ Below w.heap.size w V)
        ⟨(Blk.new w 32 [.int .i64 s.gen, .int .i64 s.sec, .int .i64 s.next, .slice A n c]).alloc _, Blk.new_at (cs := [.int .i64 t.gen, .int .i64 t.sec, .int .i64 t.next, .slice B m d]) (by simp), start⟩ ?_
      clear start
      rintro V ⟨B0, C0, b0⟩
      have B0c := B0.cells
      have P1 := Lib.hid (sput_yes s (HR.out.below b0 (Nat.le_refl _)) HK.out)
      go_upto_region 2 with ((with_reducible refine Calls.mono P1.out ?_); rintro e w1 ⟨A1, c1, rfl, ho1, hb1⟩)
      have b1 := b0.trans (hb1.mono b0.size)
      have B1 := B0.below hb1 B0.lt
      have C1 := C0.below hb1 C0.lt
      have S1 := own_bs ho1
      clear B0c P1 ho1 hb1 B0 b0 C0
      have C1c := C1.cells
      have P2 := Lib.hid (sput_yes t (HR2.out.below b1 (Nat.le_refl _)) HK2.out)
      go_upto_region 3 with ((with_reducible refine Calls.mono P2.out ?_); rintro e w2 ⟨A2, c2, rfl, ho2, hb2⟩)
      have b2 := b1.trans (hb2.mono b1.size)
      have B2 := B1.below hb2 B1.lt
      have C2 := C1.below hb2 C1.lt
      have E1 := Lib.hid (same_any (S1.below hb2 (Nat.le_refl _)) (own_bs ho2))
      rw [HI.out] at E1
      clear C1c P2 ho2 hb2 B1 b1 S1 C1
      obtain ⟨dd, hdd⟩ : ∃ dd, decide (s = t) = dd := ⟨_, rfl⟩
      rw [hdd] at E1
      have HDD := Lib.hid hdd
      clear hdd
      go_upto_region 6 with ((with_reducible refine Calls.mono E1.out ?_); rintro e w3 ⟨rfl, q3, rfl⟩)
      have b3 := below_drewN b2 q3
      have B3 := B2.drewN q3
      have C3 := C2.drewN q3
      have B3c := B3.cells
      have C3c := C3.cells
      have N4 := Lib.hid (ssame_any s t (HR.out.below b3 (Nat.le_refl _)) (HR2.out.below b3 (Nat.le_refl _)))
      rw [HDD.out] at N4
      clear E1 b2 B2 C2 B3 C3
      go_upto_region 7 with ((with_reducible refine Calls.mono N4.out ?_); rintro e w4 ⟨rfl, hb4⟩)
      have b4 := b3.trans (hb4.mono b3.size)
      clear B3c C3c N4 b3 hb4
      have hbb : (dd == dd) = true := by simp
      go_wp2_with (go_at_call 25; refine (suplives_any _).mono ?_; rintro e w8 ⟨rfl, hb8⟩)
      go_ret
      exact ⟨rfl, b4.trans (hb8.mono b4.size)⟩
    · have HK := Lib.hid hok
      have HK2 := Lib.hid hok2
      clear hok hok2
      go_enter Try.func9, Try.ntmps9
      go_upto_region 1 with fail
      refine wp_world (fun V => Blk V w.heap.size 32 [.int .i64 s.gen, .int .i64 s.sec, .int .i64 s.next, .slice A n c] ∧ Blk V (w.heap.size + 1) 32 [.int .i64 t.gen, .int .i64 t.sec, .int .i64 t.next, .slice B m d] ∧ Below w.heap.size w V)
        ⟨(Blk.new w 32 [.int .i64 s.gen, .int .i64 s.sec, .int .i64 s.next, .slice A n c]).alloc _, Blk.new_at (cs := [.int .i64 t.gen, .int .i64 t.sec, .int .i64 t.next, .slice B m d]) (by simp), start⟩ ?_
      clear start
      rintro V ⟨B0, C0, b0⟩
      have B0c := B0.cells
      have P1 := Lib.hid (sput_yes s (HR.out.below b0 (Nat.le_refl _)) HK.out)
      go_upto_region 2 with ((with_reducible refine Calls.mono P1.out ?_); rintro e w1 ⟨A1, c1, rfl, ho1, hb1⟩)
      have b1 := b0.trans (hb1.mono b0.size)
      have C1 := C0.below hb1 C0.lt
      clear B0c P1 ho1 hb1 B0 b0 C0
      have C1c := C1.cells
      have P2 := Lib.hid (sput_no t (HR2.out.below b1 (Nat.le_refl _)) HK2.out)
      go_upto_region 3 with ((with_reducible refine Calls.mono P2.out ?_); rintro e w2 ⟨rfl, hb2⟩)
      have b2 := b1.trans (hb2.mono b1.size)
      clear C1c P2 hb2 b1 C1
      go_wp2_with (go_at_call 25; refine (suplives_any _).mono ?_; rintro e w8 ⟨rfl, hb8⟩)
      go_ret
      exact ⟨rfl, b2.trans (hb8.mono b2.size)⟩
  · have HK := Lib.hid hok
    clear hok
    go_enter Try.func9, Try.ntmps9
    go_upto_region 1 with fail
    refine wp_world (fun V => Blk V w.heap.size 32 [.int .i64 s.gen, .int .i64 s.sec, .int .i64 s.next, .slice A n c] ∧ Blk V (w.heap.size + 1) 32 [.int .i64 t.gen, .int .i64 t.sec, .int .i64 t.next, .slice B m d] ∧ Below w.heap.size w V)
      ⟨(Blk.new w 32 [.int .i64 s.gen, .int .i64 s.sec, .int .i64 s.next, .slice A n c]).alloc _, Blk.new_at (cs := [.int .i64 t.gen, .int .i64 t.sec, .int .i64 t.next, .slice B m d]) (by simp), start⟩ ?_
    clear start
    rintro V ⟨B0, C0, b0⟩
    have B0c := B0.cells
    have P1 := Lib.hid (sput_no s (HR.out.below b0 (Nat.le_refl _)) HK.out)
    go_upto_region 2 with ((with_reducible refine Calls.mono P1.out ?_); rintro e w1 ⟨rfl, hb1⟩)
    have b1 := b0.trans (hb1.mono b0.size)
    have C1 := C0.below hb1 C0.lt
    clear B0c P1 hb1 B0 b0 C0
    have C1c := C1.cells
    have P2 := Lib.hid (sput_any t (HR2.out.below b1 (Nat.le_refl _)))
    go_upto_region 3 with ((with_reducible refine Calls.mono P2.out ?_); rintro e w2 (⟨-, A2, c2, rfl, -, hb2⟩ | ⟨-, rfl, hb2⟩))
    all_goals
      have b2 := b1.trans (hb2.mono b1.size)
      clear C1c P2 hb2 b1 C1
      go_wp2_with (go_at_call 25; refine (suplives_any _).mono ?_; rintro e w8 ⟨rfl, hb8⟩)
      go_ret
      exact ⟨rfl, b2.trans (hb8.mono b2.size)⟩
end Go.Proofs.Ytgfmpgflbphpcaa
