/- The statements of layer 14: NodeGets, NodeApart: their walks. -/
import Derived.Test.YtnjpibbmgbiofaaNod
import Derived.Deep.RegionHeld3
namespace Go.Proofs.Ytnjpibbmgbiofaa
open Go.RowKit

theorem nsame_b {s t : Nd} {x : Bool} (hx : decide (s = t) = x) {w : World} {lo lo2 : Nat} {K V D K2 V2 D2 : Option Addr} {nk ck nv cv nd cd nk2 ck2 nv2 cv2 nd2 cd2 : Nat} (h : NdR w lo s K nk ck V nv cv D nd cd) (h2 : NdR w lo2 t K2 nk2 ck2 V2 nv2 cv2 D2 nd2 cd2) :
    Calls Try.prog 16 #[.agg #[.bool s.leaf, .slice K nk ck, .slice V nv cv, .slice D nd cd], .agg #[.bool t.leaf, .slice K2 nk2 ck2, .slice V2 nv2 cv2, .slice D2 nd2 cd2]] w fun e w' => e = .returned (.bool x) ∧ Below w.heap.size w w' := hx ▸ nsame_any s t h h2

set_option maxRecDepth 100000 in
set_option maxHeartbeats 2000000 in
theorem nodeGets_any (kd : Int) {w : World} {lo : Nat} {A : Option Addr} {m c : Nat} {body : List UInt8} (h : Bs w lo A m c body) (hm : m ≤ 140737488351232) :
    Calls Try.prog 4 #[.agg #[.int .i64 kd, .slice A m c]] w fun e w' => e = .returned (.bool true) ∧ Below w.heap.size w w' := by
  have HB := Lib.hid h
  have HM := Lib.hid hm
  clear h hm
  go_enter Try.func4, Try.ntmps4
  go_upto_region 1 with fail
  refine wp_world (fun U => Blk U w.heap.size 34 [.int .i64 kd, .slice A m c] ∧ Below w.heap.size w U) ⟨Blk.new w 34 [.int .i64 kd, .slice A m c], (Below.refl _ _).alloc (Nat.le_refl _) _⟩ ?_
  rintro U ⟨B0, b0⟩
  have B0c := B0.cells
  have G1 := Lib.hid (nget_any kd (HB.out.below b0 (Nat.le_refl _)))
  obtain ⟨r, hr⟩ : ∃ r, r = getN kd body := ⟨_, rfl⟩
  have HG2 : Hid (∀ {w' : World}, Below w.heap.size w w' → Calls Try.prog 19 #[.agg #[.int .i64 kd, .slice A m c]] w' (NGet w' r)) := fun h => hr ▸ rget_any kd (HB.out.below h (Nat.le_refl _)) HM.out
  rw [← hr] at G1
  clear hr
  go_upto_region 2 with ((with_reducible refine Calls.mono G1.out ?_); rintro e w2 ⟨K2, nk2, ck2, V2, nv2, cv2, D2, nd2, cd2, rfl, n2, hb2⟩)
  refine wp_world (fun U => Blk U w.heap.size 34 [.int .i64 kd, .slice A m c] ∧ Below w.heap.size w U ∧ Blk U w2.heap.size 26 [.bool (r.getD Nd.nil).leaf, .slice K2 nk2 ck2, .slice V2 nv2 cv2, .slice D2 nd2 cd2] ∧ NdR U 0 (r.getD Nd.nil) K2 nk2 ck2 V2 nv2 cv2 D2 nd2 cd2)
    ⟨(B0.below hb2 B0.lt).alloc _, (b0.trans (hb2.mono b0.size)).alloc (b0.trans (hb2.mono b0.size)).size _, Blk.new_at (cs := [.bool (r.getD Nd.nil).leaf, .slice K2 nk2 ck2, .slice V2 nv2 cv2, .slice D2 nd2 cd2]) rfl, (n2.below (B := w2.heap.size) ((Below.refl _ _).alloc (Nat.le_refl _) _) (Nat.le_refl _)).weak (Nat.zero_le _)⟩ ?_
  clear B0 b0 B0c G1 n2 hb2
  generalize w2.heap.size = g2 at *
  rintro U1 ⟨B0, b1, B2, n2⟩
  have B0c := B0.cells
  have G1 := Lib.hid (HG2.out b1)
  clear HG2
  go_upto_region 3 with ((with_reducible refine Calls.mono G1.out ?_); rintro e w3 ⟨K3, nk3, ck3, V3, nv3, cv3, D3, nd3, cd3, rfl, n3, hb3⟩)
  refine wp_world (fun U => Below w.heap.size w U ∧ Blk U g2 26 [.bool (r.getD Nd.nil).leaf, .slice K2 nk2 ck2, .slice V2 nv2 cv2, .slice D2 nd2 cd2] ∧ NdR U 0 (r.getD Nd.nil) K2 nk2 ck2 V2 nv2 cv2 D2 nd2 cd2 ∧ Blk U w3.heap.size 25 [.bool (r.getD Nd.nil).leaf, .slice K3 nk3 ck3, .slice V3 nv3 cv3, .slice D3 nd3 cd3] ∧ NdR U 0 (r.getD Nd.nil) K3 nk3 ck3 V3 nv3 cv3 D3 nd3 cd3)
    ⟨(b1.trans (hb3.mono b1.size)).alloc (b1.trans (hb3.mono b1.size)).size _, (B2.below hb3 B2.lt).alloc _, n2.below (hb3.alloc hb3.size _) (Nat.le_refl _), Blk.new_at (cs := [.bool (r.getD Nd.nil).leaf, .slice K3 nk3 ck3, .slice V3 nv3 cv3, .slice D3 nd3 cd3]) rfl, (n3.below (B := w3.heap.size) ((Below.refl _ _).alloc (Nat.le_refl _) _) (Nat.le_refl _)).weak (Nat.zero_le _)⟩ ?_
  clear B0 b1 B0c G1 n2 B2 n3 hb3
  generalize w3.heap.size = g3 at *
  rintro U2 ⟨b1, B2, n2, B3, n3⟩
  have B2c := B2.cells
  have B3c := B3.cells
  have P1 := Lib.hid (nsame_any _ _ n2 n3)
  rw [decide_eq_true rfl] at P1
  generalize (if r.isSome then (0 : Int) else 7) = z at *
  generalize (r.getD Nd.nil).leaf = lf at *
  clear B2 n2 B3 n3
  go_upto_region 4 with ((with_reducible refine Calls.mono P1.out ?_); rintro e w4 ⟨rfl, hb4⟩)
  have b2 := b1.trans (hb4.mono b1.size)
  clear P1 B2c B3c hb4 b1
  go_wp2_with (go_at_call 17; refine (nodlives_any _).mono ?_; rintro e w8 ⟨rfl, hb8⟩)
  go_ret
  exact ⟨rfl, b2.trans (hb8.mono b2.size)⟩

theorem pe_t : pe true = 0 := rfl
theorem pe_f : pe false = 1 := rfl
theorem apart_eq {s t : Nd} (h1 : mayN s) (h2 : mayN t) (k1 : s.keys.length ≤ 8796093022208) (k2 : t.keys.length ≤ 8796093022208) : decide (pk s true = pk t true ∧ pb s true = pb t true) = decide (s = t) := by
  rw [Bool.eq_iff_iff, decide_eq_true_eq, decide_eq_true_eq]
  constructor
  · rintro ⟨h3, h4⟩
    have h3 : ((kindN s : Nat) : Int) = (kindN t : Nat) := h3
    exact putN_inj h1 k1 h2 k2 (by omega) h4
  · rintro rfl
    exact ⟨rfl, rfl⟩

set_option maxRecDepth 100000 in
set_option maxHeartbeats 4000000 in
theorem nodeApart_any (s t : Nd) {w : World} {lo lo2 : Nat} {K V D K' V' D' : Option Addr} {nk ck nv cv nd cd nk' ck' nv' cv' nd' cd' : Nat} (h : NdR w lo s K nk ck V nv cv D nd cd) (h' : NdR w lo2 t K' nk' ck' V' nv' cv' D' nd' cd') :
    Calls Try.prog 5 #[.agg #[.bool s.leaf, .slice K nk ck, .slice V nv cv, .slice D nd cd], .agg #[.bool t.leaf, .slice K' nk' ck', .slice V' nv' cv', .slice D' nd' cd']] w fun e w' => e = .returned (.bool true) ∧ Below w.heap.size w w' := by
  have HK : Hid (s.keys.length ≤ 8796093022208) := by show _ ≤ _; rw [h.nk_eq]; exact h.kroom
  have HK' : Hid (t.keys.length ≤ 8796093022208) := by show _ ≤ _; rw [h'.nk_eq]; exact h'.kroom
  have HR := Lib.hid h
  have HR' := Lib.hid h'
  obtain ⟨a, ha⟩ : ∃ a, decide (mayN s) = a := ⟨_, rfl⟩
  obtain ⟨b, hb⟩ : ∃ b, decide (mayN t) = b := ⟨_, rfl⟩
  have HS := Lib.hid ha
  have HT := Lib.hid hb
  clear h h' ha hb
  go_enter Try.func5, Try.ntmps5
  go_upto_region 1 with fail
  refine wp_world (fun U => Blk U w.heap.size 25 [.bool s.leaf, .slice K nk ck, .slice V nv cv, .slice D nd cd] ∧ Blk U (w.heap.size + 1) 25 [.bool t.leaf, .slice K' nk' ck', .slice V' nv' cv', .slice D' nd' cd'] ∧ Below w.heap.size w U)
    ⟨(Blk.new w 25 [.bool s.leaf, .slice K nk ck, .slice V nv cv, .slice D nd cd]).alloc _, Blk.new_at (cs := [.bool t.leaf, .slice K' nk' ck', .slice V' nv' cv', .slice D' nd' cd']) (by simp), ((Below.refl _ _).alloc (Nat.le_refl _) _).alloc (by simp) _⟩ ?_
  rintro U ⟨B0, B1, b0⟩
  have B0c := B0.cells
  have O1 := Lib.hid (of_any s (HR.out.below b0 (Nat.le_refl _)))
  go_upto_region 2 with (first
    | ((with_reducible refine Calls.mono O1.out ?_); rintro e w1 ⟨K1, ck1, V1, cv1, D1, cd1, rfl, n1, hb1⟩; have P1 := Lib.hid (nput_t HS.out n1))
    | ((with_reducible refine Calls.mono P1.out ?_); rintro e w2 ⟨A4, m4, c4, rfl, s4, hb2⟩))
  have b12 := hb1.trans (hb2.mono hb1.size)
  refine wp_world (fun U => Blk U w.heap.size 25 [.bool s.leaf, .slice K nk ck, .slice V nv cv, .slice D nd cd] ∧ Blk U (w.heap.size + 1) 25 [.bool t.leaf, .slice K' nk' ck', .slice V' nv' cv', .slice D' nd' cd'] ∧ Below w.heap.size w U ∧ Blk U w2.heap.size 34 [.int .i64 (pk s a), .slice A4 m4 c4] ∧ Bs U 0 A4 m4 c4 (pb s a))
    ⟨(B0.below b12 B0.lt).alloc _, (B1.below b12 B1.lt).alloc _, (b0.trans (b12.mono b0.size)).alloc (b0.trans (b12.mono b0.size)).size _, Blk.new_at (cs := [.int .i64 (pk s a), .slice A4 m4 c4]) rfl, (s4.below (B := w2.heap.size) ((Below.refl _ _).alloc (Nat.le_refl _) _) (Nat.le_refl _)).weak (Nat.zero_le _)⟩ ?_
  clear B0 B1 b0 B0c O1 P1 n1 hb1 hb2 b12 s4
  generalize w2.heap.size = g2 at *
  rintro U1 ⟨B0, B1, b1, B2, s2⟩
  have B1c := B1.cells
  have O1 := Lib.hid (of_any t (HR'.out.below b1 (Nat.le_refl _)))
  go_upto_region 3 with (first
    | ((with_reducible refine Calls.mono O1.out ?_); rintro e w1 ⟨K1, ck1, V1, cv1, D1, cd1, rfl, n1, hb1⟩; have P1 := Lib.hid (nput_t HT.out n1))
    | ((with_reducible refine Calls.mono P1.out ?_); rintro e w2 ⟨A5, m5, c5, rfl, s5, hb2⟩))
  have b12 := hb1.trans (hb2.mono hb1.size)
  refine wp_world (fun U => Blk U w.heap.size 25 [.bool s.leaf, .slice K nk ck, .slice V nv cv, .slice D nd cd] ∧ Blk U (w.heap.size + 1) 25 [.bool t.leaf, .slice K' nk' ck', .slice V' nv' cv', .slice D' nd' cd'] ∧ Below w.heap.size w U ∧ Blk U g2 34 [.int .i64 (pk s a), .slice A4 m4 c4] ∧ Bs U 0 A4 m4 c4 (pb s a) ∧ Blk U w2.heap.size 34 [.int .i64 (pk t b), .slice A5 m5 c5] ∧ Bs U 0 A5 m5 c5 (pb t b))
    ⟨(B0.below b12 B0.lt).alloc _, (B1.below b12 B1.lt).alloc _, (b1.trans (b12.mono b1.size)).alloc (b1.trans (b12.mono b1.size)).size _, (B2.below b12 B2.lt).alloc _, s2.below (b12.alloc b12.size _) (Nat.le_refl _), Blk.new_at (cs := [.int .i64 (pk t b), .slice A5 m5 c5]) rfl, (s5.below (B := w2.heap.size) ((Below.refl _ _).alloc (Nat.le_refl _) _) (Nat.le_refl _)).weak (Nat.zero_le _)⟩ ?_
  clear B0 B1 b1 B1c O1 P1 n1 hb1 hb2 b12 s5 B2 s2
  generalize w2.heap.size = g3 at *
  rintro U2 ⟨B0, B1, b1, B2, s2, B3, s3⟩
  cases a
  · clear B0 B1 B2 s2 B3 s3 HR HR' HS HT HK HK'
    rw [pe_f]
    go_wp2_with (go_at_call 17; refine (nodlives_any _).mono ?_; rintro e w8 ⟨rfl, hb8⟩)
    go_ret
    exact ⟨rfl, b1.trans (hb8.mono b1.size)⟩
  cases b
  · clear B0 B1 B2 s2 B3 s3 HR HR' HS HT HK HK'
    rw [pe_f, pe_t]
    go_wp2_with (go_at_call 17; refine (nodlives_any _).mono ?_; rintro e w8 ⟨rfl, hb8⟩)
    go_ret
    exact ⟨rfl, b1.trans (hb8.mono b1.size)⟩
  have B2c := B2.cells
  have B3c := B3.cells
  have P1 := Lib.hid (bsame_any (pk s true) (pk t true) s2 s3)
  rw [apart_eq (of_decide_eq_true HS.out) (of_decide_eq_true HT.out) HK.out HK'.out] at P1
  rw [pe_t]
  clear HS HT HK HK'
  go_upto_region 6 with ((with_reducible refine Calls.mono P1.out ?_); rintro e w6 ⟨rfl, hb6⟩)
  refine wp_world (fun U => Blk U w.heap.size 25 [.bool s.leaf, .slice K nk ck, .slice V nv cv, .slice D nd cd] ∧ Blk U (w.heap.size + 1) 25 [.bool t.leaf, .slice K' nk' ck', .slice V' nv' cv', .slice D' nd' cd'] ∧ Below w.heap.size w U)
    ⟨B0.below hb6 B0.lt, B1.below hb6 B1.lt, b1.trans (hb6.mono b1.size)⟩ ?_
  clear P1 B2c B3c B2 s2 B3 s3 B0 B1 b1 hb6
  rintro U3 ⟨B0, B1, b1⟩
  have HB0 := Lib.hid B0
  have HB1 := Lib.hid B1
  have hz1 := B1.lt
  have k0 := B0.cell 0
  have k1 := B0.cell 1
  have k2 := B0.cell 2
  have k3 := B0.cell 3
  have l0 := B1.cell 0
  have l1 := B1.cell 1
  have l2 := B1.cell 2
  have l3 := B1.cell 3
  simp only [List.getElem?_cons_zero, List.getElem?_cons_succ] at k0 k1 k2 k3 l0 l1 l2 l3
  clear B0 B1
  have O1 := Lib.hid (of_any s (HR.out.below b1.drew (Nat.le_refl _)))
  obtain ⟨x, hx⟩ : ∃ x, decide (s = t) = x := ⟨_, rfl⟩
  rw [hx]
  have HX := Lib.hid hx
  clear hx
  go_cut [10] (fun s10 wx => s10 = .bool x ∧ Below w.heap.size w wx)
  case first =>
    go_region_held3 (fun w' => w'.cell? ⟨w.heap.size, 0, none⟩ = some (.bool s.leaf) ∧ w'.cell? ⟨w.heap.size, 1, none⟩ = some (.slice K nk ck) ∧ w'.cell? ⟨w.heap.size, 2, none⟩ = some (.slice V nv cv) ∧ w'.cell? ⟨w.heap.size, 3, none⟩ = some (.slice D nd cd) ∧ w'.cell? ⟨w.heap.size + 1, 0, none⟩ = some (.bool t.leaf) ∧ w'.cell? ⟨w.heap.size + 1, 1, none⟩ = some (.slice K' nk' ck') ∧ w'.cell? ⟨w.heap.size + 1, 2, none⟩ = some (.slice V' nv' cv') ∧ w'.cell? ⟨w.heap.size + 1, 3, none⟩ = some (.slice D' nd' cd'))
      (first | (exact K6.out) | (exact K5.out) | go_keep)
      (first
        | ((with_reducible refine Calls.mono O1.out ?_); rintro e w5 ⟨K1, ck1, V1, cv1, D1, cd1, rfl, n1, hb5⟩; have B5 := HB0.out.drew.below hb5 HB0.out.lt; have C5 := HB1.out.drew.below hb5 hz1; have K5 : Hid (w5.cell? ⟨w.heap.size, 0, none⟩ = some (.bool s.leaf) ∧ w5.cell? ⟨w.heap.size, 1, none⟩ = some (.slice K nk ck) ∧ w5.cell? ⟨w.heap.size, 2, none⟩ = some (.slice V nv cv) ∧ w5.cell? ⟨w.heap.size, 3, none⟩ = some (.slice D nd cd) ∧ w5.cell? ⟨w.heap.size + 1, 0, none⟩ = some (.bool t.leaf) ∧ w5.cell? ⟨w.heap.size + 1, 1, none⟩ = some (.slice K' nk' ck') ∧ w5.cell? ⟨w.heap.size + 1, 2, none⟩ = some (.slice V' nv' cv') ∧ w5.cell? ⟨w.heap.size + 1, 3, none⟩ = some (.slice D' nd' cd')) := ⟨B5.cell 0, B5.cell 1, B5.cell 2, B5.cell 3, C5.cell 0, C5.cell 1, C5.cell 2, C5.cell 3⟩; have bV5 : Below w.heap.size w w5 := b1.drew.trans (hb5.mono b1.size); have N6 := Lib.hid (nsame_b HX.out n1 (HR'.out.below bV5 (Nat.le_refl _))))
        | ((with_reducible refine Calls.mono N6.out ?_); rintro e w6 ⟨rfl, hb6⟩; have B6 := B5.below hb6 B5.lt; have C6 := C5.below hb6 C5.lt; have K6 : Hid (w6.cell? ⟨w.heap.size, 0, none⟩ = some (.bool s.leaf) ∧ w6.cell? ⟨w.heap.size, 1, none⟩ = some (.slice K nk ck) ∧ w6.cell? ⟨w.heap.size, 2, none⟩ = some (.slice V nv cv) ∧ w6.cell? ⟨w.heap.size, 3, none⟩ = some (.slice D nd cd) ∧ w6.cell? ⟨w.heap.size + 1, 0, none⟩ = some (.bool t.leaf) ∧ w6.cell? ⟨w.heap.size + 1, 1, none⟩ = some (.slice K' nk' ck') ∧ w6.cell? ⟨w.heap.size + 1, 2, none⟩ = some (.slice V' nv' cv') ∧ w6.cell? ⟨w.heap.size + 1, 3, none⟩ = some (.slice D' nd' cd')) := ⟨B6.cell 0, B6.cell 1, B6.cell 2, B6.cell 3, C6.cell 0, C6.cell 1, C6.cell 2, C6.cell 3⟩))
    all_goals go_wp2_with fail
    all_goals go_meet
    all_goals exact ⟨rfl, bV5.trans (hb6.mono bV5.size)⟩
  case rest =>
    obtain ⟨rfl, hW⟩ := hcut
    clear HB0 HB1 k0 k1 k2 k3 l0 l1 l2 l3 O1 HX hz1
    go_wp2_with (go_at_call 17; refine (nodlives_any _).mono ?_; rintro e w8 ⟨rfl, hb8⟩)
    go_ret
    exact ⟨rfl, hW.trans (hb8.mono hW.size)⟩
end Go.Proofs.Ytnjpibbmgbiofaa
