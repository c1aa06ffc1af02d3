/- Layer 14's own example; Put of any node, in one contract. -/
import Derived.Test.YtnjpibbmgbiofaaNodGet
import Derived.Test.YtnjpibbmgbiofaaNodPutR
import Derived.Test.YtnjpibbmgbiofaaNodPlace
import Derived.Test.YtnjpibbmgbiofaaNodOf
namespace Go.Proofs.Ytnjpibbmgbiofaa
open Go.RowKit

/-- the kind, the body and the error of a node's block -/
def pk (s : Nd) (t : Bool) : Int := bif t then (kindN s : Nat) else 0
def pb (s : Nd) (t : Bool) : List UInt8 := bif t then bodyN s else []
def pe (t : Bool) : Int := bif t then 0 else 1
def PutsTo (w : World) (s : Nd) (t : Bool) (e : Ending) (w' : World) : Prop :=
  ∃ A m c, e = .returned (.tuple #[.agg #[.int .i64 (pk s t), .slice A m c], .int .i64 (pe t)]) ∧ Bs w' w.heap.size A m c (pb s t) ∧ Below w.heap.size w w'
theorem nput_t {s : Nd} {t : Bool} (ht : decide (mayN s) = t) {w : World} {lo : Nat} {K V D : Option Addr} {nk ck nv cv nd cd : Nat} (h : NdR w lo s K nk ck V nv cv D nd cd) :
    Calls Try.prog 13 #[.agg #[.bool s.leaf, .slice K nk ck, .slice V nv cv, .slice D nd cd]] w (PutsTo w s t) := by
  cases t with
  | true => exact (nput_ok s h (of_decide_eq_true ht)).mono fun e w' ⟨A, c, he, ho, hb⟩ => ⟨A, _, c, he, own_bs ho, hb⟩
  | false => exact (nput_no s h (of_decide_eq_false ht)).mono fun e w' ⟨he, hb⟩ => ⟨none, 0, 0, he, Bs.nil_ _ _, hb⟩
theorem rnput_t {s : Nd} {t : Bool} (ht : decide (mayN s) = t) {w : World} {lo : Nat} {K V D : Option Addr} {nk ck nv cv nd cd : Nat} (h : NdR w lo s K nk ck V nv cv D nd cd) :
    Calls Try.prog 14 #[.agg #[.bool s.leaf, .slice K nk ck, .slice V nv cv, .slice D nd cd]] w (PutsTo w s t) := by
  cases t with
  | true => exact (rnput_ok s h (of_decide_eq_true ht)).mono fun e w' ⟨A, c, he, ho, hb⟩ => ⟨A, _, c, he, own_bs ho, hb⟩
  | false => exact (rnput_no s h (of_decide_eq_false ht)).mono fun e w' ⟨he, hb⟩ => ⟨none, 0, 0, he, Bs.nil_ _ _, hb⟩

theorem ls_blk {w : World} {g lo : Nat} {t : TypeId} {cs : List Value} (h : Blk w g t cs) (hl : lo ≤ g) (hc : cs.length ≤ 9223372036854775807) : Ls w lo (some ⟨g, 0, none⟩) cs.length cs.length cs :=
  ⟨rfl, Nat.le_refl _, hc, fun hn => ⟨g, 0, rfl, hl, h.lt, fun k hk => by rw [Nat.zero_add]; exact (h.cell k).trans (List.getElem?_eq_getElem hk)⟩⟩

def nA : Nd := ⟨true, [⟨#[97]⟩, ⟨#[98]⟩], [⟨#[49]⟩, ⟨#[]⟩], []⟩
def nI : Nd := ⟨false, [⟨#[]⟩, ⟨#[99]⟩], [], [50, 51]⟩
theorem nA_may : mayN nA := by decide +kernel
theorem nA_len : (bodyN nA).length = 8 := by decide +kernel
theorem nA_size : szV (sizeN nA) = 8 := by decide +kernel
theorem nA_small (i : Nat) : (kAt nA i).size ≤ 140737488355328 ∧ (vAt nA i).size ≤ 140737488355328 := by
  match i with
  | 0 => exact ⟨by decide, by decide⟩
  | 1 => exact ⟨by decide, by decide⟩
  | i + 2 => exact ⟨by simp [kAt, nA], by simp [vAt, nA]⟩
theorem nI_small (i : Nat) : (kAt nI i).size ≤ 140737488355328 ∧ (vAt nI i).size ≤ 140737488355328 := by
  match i with
  | 0 => exact ⟨by decide, by decide⟩
  | 1 => exact ⟨by decide, by decide⟩
  | i + 2 => exact ⟨by simp [kAt, nI], by simp [vAt, nI]⟩
theorem nI_place1 : placeTo nI ⟨#[100]⟩ 2 = 1 := by decide +kernel
theorem nI_place0 : placeTo nI ⟨#[97]⟩ 2 = 0 := by decide +kernel

theorem lput_one {w : World} {lo : Nat} {K V D : Option Addr} {ck cv cd : Nat} (h : NdR w lo nA K 2 ck V 2 cv D 0 cd) :
    Calls Try.prog 13 #[.agg #[.bool true, .slice K 2 ck, .slice V 2 cv, .slice D 0 cd]] w fun e w' =>
      ∃ A c, e = .returned (.tuple #[.agg #[.int .i64 1, .slice A 8 c], .int .i64 0]) ∧ Bs w' w.heap.size A 8 c (bodyN nA) ∧ Below w.heap.size w w' :=
  (nput_ok nA h nA_may).mono fun e w' ⟨A, c, he, ho, hb⟩ => ⟨A, c, by rw [he, nA_len]; rfl, by have := own_bs ho; rwa [nA_len] at this, hb⟩
theorem lget_one {w : World} {lo : Nat} {A : Option Addr} {c : Nat} (h : Bs w lo A 8 c (bodyN nA)) :
    Calls Try.prog 18 #[.agg #[.int .i64 1, .slice A 8 c]] w fun e w' =>
      ∃ K ck V cv D cd, e = .returned (.tuple #[.agg #[.bool true, .slice K 2 ck, .slice V 2 cv, .slice D 0 cd], .int .i64 0]) ∧ NdR w' w.heap.size nA K 2 ck V 2 cv D 0 cd ∧ Below w.heap.size w w' := by
  have hg : getN 1 (bodyN nA) = some nA := getN_putN nA nA_may (by decide)
  have h1 := nget_any 1 h
  rw [hg] at h1
  refine h1.mono ?_
  rintro e w' ⟨K, nk, ck, V, nv, cv, D, nd, cd, he, hr, hb⟩
  obtain rfl : 2 = nk := hr.nk_eq
  obtain rfl : 2 = nv := hr.nv_eq
  obtain rfl : 0 = nd := hr.nd_eq
  exact ⟨K, ck, V, cv, D, cd, he, hr, hb⟩
theorem lplace_1 {w : World} {lo : Nat} {K V D : Option Addr} {ck cv cd : Nat} (h : NdR w lo nI K 2 ck V 0 cv D 2 cd) :
    Calls Try.prog 31 #[.agg #[.bool false, .slice K 2 ck, .slice V 0 cv, .slice D 2 cd], .string ⟨#[100]⟩] w fun e w' => e = .returned (.int .i64 1) ∧ Below w.heap.size w w' :=
  (nplace_inner (s := nI) rfl ⟨#[100]⟩ h).mono fun e w' ⟨he, hb⟩ => ⟨by rw [he, nI_place1]; rfl, hb⟩
theorem lplace_0 {w : World} {lo : Nat} {K V D : Option Addr} {ck cv cd : Nat} (h : NdR w lo nI K 2 ck V 0 cv D 2 cd) :
    Calls Try.prog 31 #[.agg #[.bool false, .slice K 2 ck, .slice V 0 cv, .slice D 2 cd], .string ⟨#[97]⟩] w fun e w' => e = .returned (.int .i64 0) ∧ Below w.heap.size w w' :=
  (nplace_inner (s := nI) rfl ⟨#[97]⟩ h).mono fun e w' ⟨he, hb⟩ => ⟨by rw [he, nI_place0]; rfl, hb⟩
theorem lsize_one {w : World} {lo : Nat} {K V D : Option Addr} {ck cv cd : Nat} (h : NdR w lo nA K 2 ck V 2 cv D 0 cd) :
    Calls Try.prog 12 #[.agg #[.bool true, .slice K 2 ck, .slice V 2 cv, .slice D 0 cd]] w fun e w' => e = .returned (.int .i64 8) ∧ Below w.heap.size w w' :=
  (nsize_any nA h).mono fun e w' ⟨he, hb⟩ => ⟨by rw [he, nA_size], hb⟩

set_option maxRecDepth 100000 in
set_option maxHeartbeats 2000000 in
theorem nodlives_any (w : World) : Calls Try.prog 17 #[] w fun e w' => e = .returned (.bool true) ∧ Below w.heap.size w w' := by
  go_enter Try.func17, Try.ntmps17
  go_upto_region 2 with fail
  refine wp_world (fun U => Blk U (w.heap.size + 2) 26 [.bool true, .slice (some ⟨w.heap.size, 0, none⟩) 2 2, .slice (some ⟨w.heap.size + 1, 0, none⟩) 2 2, .slice none 0 0] ∧ NdR U w.heap.size nA (some ⟨w.heap.size, 0, none⟩) 2 2 (some ⟨w.heap.size + 1, 0, none⟩) 2 2 none 0 0 ∧ Below w.heap.size w U)
    ⟨Blk.new_at (cs := [.bool true, .slice (some ⟨w.heap.size, 0, none⟩) 2 2, .slice (some ⟨w.heap.size + 1, 0, none⟩) 2 2, .slice none 0 0]) (by simp),
      ⟨ls_blk (((Blk.new w 9 [.string ⟨#[97]⟩, .string ⟨#[98]⟩]).alloc _).alloc _) (Nat.le_refl _) (by decide), ls_blk ((Blk.new_at (cs := [.string ⟨#[49]⟩, .string ⟨#[]⟩]) (n := w.heap.size + 1) (by simp)).alloc _) (by omega) (by decide), Ls.nil_ _ _, fun i => (nA_small i).1, fun i => (nA_small i).2, by omega, by omega, by omega⟩,
      (((Below.refl _ _).alloc (Nat.le_refl _) _).alloc (by simp) _).alloc (by simp; omega) _⟩ ?_
  rintro U ⟨B1, n1, b1⟩
  have B1c := B1.cells
  have P1 := Lib.hid (lput_one n1)
  go_upto_region 3 with ((with_reducible refine Calls.mono P1.out ?_); rintro e w1 ⟨A1, c1, rfl, hs1, hb1⟩)
  refine wp_world (fun V => Blk V (w.heap.size + 2) 26 [.bool true, .slice (some ⟨w.heap.size, 0, none⟩) 2 2, .slice (some ⟨w.heap.size + 1, 0, none⟩) 2 2, .slice none 0 0] ∧ NdR V w.heap.size nA (some ⟨w.heap.size, 0, none⟩) 2 2 (some ⟨w.heap.size + 1, 0, none⟩) 2 2 none 0 0 ∧ Blk V w1.heap.size 34 [.int .i64 1, .slice A1 8 c1] ∧ Bs V U.heap.size A1 8 c1 (bodyN nA) ∧ Below w.heap.size w V)
    ⟨(B1.below hb1 B1.lt).alloc _, n1.below (hb1.alloc hb1.size _) (Nat.le_refl _), Blk.new_at (cs := [.int .i64 1, .slice A1 8 c1]) rfl, hs1.below (B := w1.heap.size) ((Below.refl _ _).alloc (Nat.le_refl _) _) (Nat.le_refl _), (b1.trans (hb1.mono b1.size)).alloc (b1.trans (hb1.mono b1.size)).size _⟩ ?_
  clear hs1 hb1 b1 n1 B1 P1 B1c
  generalize w1.heap.size = g1 at *
  rintro U1 ⟨B1, n1, B2, s1, b1⟩
  have B2c := B2.cells
  have G1 := Lib.hid (lget_one s1)
  go_upto_region 4 with ((with_reducible refine Calls.mono G1.out ?_); rintro e w2 ⟨K2, ck2, V2, cv2, D2, cd2, rfl, n2, hb2⟩)
  refine wp_world (fun V => Blk V (w.heap.size + 2) 26 [.bool true, .slice (some ⟨w.heap.size, 0, none⟩) 2 2, .slice (some ⟨w.heap.size + 1, 0, none⟩) 2 2, .slice none 0 0] ∧ NdR V w.heap.size nA (some ⟨w.heap.size, 0, none⟩) 2 2 (some ⟨w.heap.size + 1, 0, none⟩) 2 2 none 0 0 ∧ Blk V g1 34 [.int .i64 1, .slice A1 8 c1] ∧ Blk V w2.heap.size 26 [.bool true, .slice K2 2 ck2, .slice V2 2 cv2, .slice D2 0 cd2] ∧ Ls V 0 V2 2 cv2 (sl nA.vals) ∧ Below w.heap.size w V)
    ⟨(B1.below hb2 B1.lt).alloc _, n1.below (hb2.alloc hb2.size _) (Nat.le_refl _), (B2.below hb2 B2.lt).alloc _, Blk.new_at (cs := [.bool true, .slice K2 2 ck2, .slice V2 2 cv2, .slice D2 0 cd2]) rfl, (n2.vals.below (B := w2.heap.size) ((Below.refl _ _).alloc (Nat.le_refl _) _) (Nat.le_refl _)).weak (Nat.zero_le _), (b1.trans (hb2.mono b1.size)).alloc (b1.trans (hb2.mono b1.size)).size _⟩ ?_
  clear s1 n2 hb2 b1 n1 B1 B2 G1 B2c
  generalize w2.heap.size = g2 at *
  rintro U2 ⟨B1, n1, B2, B3, v3, b1⟩
  go_upto_region 5 with fail
  refine wp_world (fun V => Blk V (w.heap.size + 2) 26 [.bool true, .slice (some ⟨w.heap.size, 0, none⟩) 2 2, .slice (some ⟨w.heap.size + 1, 0, none⟩) 2 2, .slice none 0 0] ∧ NdR V w.heap.size nA (some ⟨w.heap.size, 0, none⟩) 2 2 (some ⟨w.heap.size + 1, 0, none⟩) 2 2 none 0 0 ∧ Blk V g1 34 [.int .i64 1, .slice A1 8 c1] ∧ Blk V g2 26 [.bool true, .slice K2 2 ck2, .slice V2 2 cv2, .slice D2 0 cd2] ∧ Ls V 0 V2 2 cv2 (sl nA.vals) ∧ Below w.heap.size w V ∧
      Blk V (U2.heap.size + 2) 26 [.bool false, .slice (some ⟨U2.heap.size, 0, none⟩) 2 2, .slice none 0 0, .slice (some ⟨U2.heap.size + 1, 0, none⟩) 2 2] ∧ NdR V 0 nI (some ⟨U2.heap.size, 0, none⟩) 2 2 none 0 0 (some ⟨U2.heap.size + 1, 0, none⟩) 2 2)
    (by
      have hbb : Below U2.heap.size U2 (((U2.alloc (.cells #[.string ⟨#[]⟩, .string ⟨#[99]⟩] 9)).alloc (.cells #[.int .i64 50, .int .i64 51] 3)).alloc (.cells #[.bool false, .slice (some ⟨U2.heap.size, 0, none⟩) 2 2, .slice none 0 0, .slice (some ⟨U2.heap.size + 1, 0, none⟩) 2 2] 26)) :=
        (((Below.refl _ _).alloc (Nat.le_refl _) _).alloc (by simp) _).alloc (by simp; omega) _
      exact ⟨B1.below hbb B1.lt, n1.below hbb (Nat.le_refl _), B2.below hbb B2.lt, B3.below hbb B3.lt, v3.below hbb (Nat.le_refl _), b1.trans (hbb.mono b1.size),
        Blk.new_at (cs := [.bool false, .slice (some ⟨U2.heap.size, 0, none⟩) 2 2, .slice none 0 0, .slice (some ⟨U2.heap.size + 1, 0, none⟩) 2 2]) (by simp),
        ⟨ls_blk (((Blk.new U2 9 [.string ⟨#[]⟩, .string ⟨#[99]⟩]).alloc _).alloc _) (Nat.zero_le _) (by decide), Ls.nil_ _ _, ls_blk ((Blk.new_at (cs := [.int .i64 50, .int .i64 51]) (n := U2.heap.size + 1) (by simp)).alloc _) (by omega) (by decide), fun i => (nI_small i).1, fun i => (nI_small i).2, by omega, by omega, by omega⟩⟩) ?_
  clear b1 n1 B1 B2 B3 v3
  generalize U2.heap.size = g3 at *
  rintro U3 ⟨B1, n1, B2, B3, v3, b1, B4, n4⟩
  have B1c := B1.cells
  have B2c := B2.cells
  have B3c := B3.cells
  have B4c := B4.cells
  obtain ⟨vb, vo, rfl, _, _⟩ := v3.at_ (by omega)
  have vc : U3.cell? ⟨vb, vo, none⟩ = some (.string ⟨#[49]⟩) := sl_cell v3 0 (by omega)
  have L1 := Lib.hid (lplace_1 n4)
  have N4 := Lib.hid n4
  have N1 := Lib.hid n1
  have HB1 := Lib.hid B1
  have HB4 := Lib.hid B4
  have hz1 := B1.lt
  have hz4 := B4.lt
  clear v3 n4 n1 B1 B2 B3 B4
  go_wp2_with (first
    | ((with_reducible refine Calls.mono L1.out ?_); rintro e w5 ⟨rfl, hb5⟩; have b5 := b1.trans (hb5.mono b1.size); have c5 := (HB4.out.below hb5 hz4).cells; have d5 := (HB1.out.below hb5 hz1).cells; have L2 := Lib.hid (lplace_0 (N4.out.below hb5 (Nat.le_refl _))))
    | ((with_reducible refine Calls.mono L2.out ?_); rintro e w6 ⟨rfl, hb6⟩; have b6 := b5.trans (hb6.mono b5.size); have d6 := ((HB1.out.below hb5 hz1).below hb6 (HB1.out.below hb5 hz1).lt).cells; have L3 := Lib.hid (lsize_one ((N1.out.below hb5 (Nat.le_refl _)).below hb6 (Nat.le_refl _))))
    | ((with_reducible refine Calls.mono L3.out ?_); rintro e w7 ⟨rfl, hb7⟩; have b7 := b6.trans (hb7.mono b6.size)))
  go_ret
  exact ⟨rfl, b7⟩
end Go.Proofs.Ytnjpibbmgbiofaa
