/- Which nodes may be: kistref14.May. -/
import Derived.Test.YtdakohbfibcjeaaTvM
import Derived.Test.YtdakohbfibcjeaaNodPut
import Derived.Test.YtdakohbfibcjeaaTvD
import Derived.Test.YtdakohbfibcjeaaTvG
import Derived.Deep.RegionHeld3
import Derived.Test.YtdakohbfibcjeaaTvH
namespace Go.Proofs.Ytdakohbfibcjeaa
open Go.RowKit

theorem bytesLess_nil (x : List UInt8) : Op.bytesLess x [] = false := by cases x <;> rfl
theorem may_key (s : Nd) (h : mayN s) (hl : s.leaf = true) (i : Nat) (hi : i < s.keys.length) : kAt s i ≠ .empty := by
  intro he
  rcases Nat.eq_zero_or_pos i with rfl | hp
  · exact (h.2.2.1 hl).1 he
  · have := (h.2.1 i hi).2 hp
    rw [he] at this
    have e : (ByteArray.empty).toList = [] := by rw [ByteArray.toList_eq]; rfl
    rw [e, bytesLess_nil] at this
    cases this
/-- a key may be, in the document's words -/
def rkeyOk (s : Nd) (i : Nat) : Prop := keyOk s i ∧ (s.leaf = true → kAt s i ≠ .empty)
instance (s : Nd) (i : Nat) : Decidable (rkeyOk s i) := by unfold rkeyOk; infer_instance

end Go.Proofs.Ytdakohbfibcjeaa
namespace Go.Proofs.Ytdakohbfibcjeaa
open Go.RowKit
set_option linter.unusedSimpArgs false
set_option linter.unusedVariables false

section
variable {w0 W w5 : World} {ns : List Value} {base kind : Nat} {A A5 : Option Addr} {L L' : List UInt8} {c c5 m : Nat} {news : List Value}
end

end Go.Proofs.Ytdakohbfibcjeaa
namespace Go.Proofs.Ytdakohbfibcjeaa
open Go.RowKit

def placeTo (s : Nd) (key : ByteArray) : Nat → Nat
  | 0 => 0
  | k + 1 => if (Op.bytesLess (kAt s k).toList key.toList || (kAt s k).toList == key.toList) then k else placeTo s key k

set_option maxHeartbeats 2000000 in
theorem nplace_inner {s : Nd} (hlf : s.leaf = false) (key : ByteArray) {w : World} {lo : Nat} {K V D : Option Addr} {nk ck nv cv nd cd : Nat} (h : NdR w lo s K nk ck V nv cv D nd cd) :
    Calls Try.prog 27 #[.agg #[.bool s.leaf, .slice K nk ck, .slice V nv cv, .slice D nd cd], .string key] w fun e w' => e = .returned (.int .i64 (placeTo s key nk : Nat)) ∧ Below w.heap.size w w' := by
  rw [hlf]
  have HR := Lib.hid h
  have hc1 := h.keys.2.1
  have hc2 := h.keys.2.2.1
  have hb : Below w.heap.size w (w.alloc (.cells #[.bool false, .slice K nk ck, .slice V nv cv, .slice D nd cd] 59)) := (Below.refl _ _).alloc (Nat.le_refl _) _
  clear h hlf
  go_enter Try.func27, Try.ntmps27
  go_wp2
  refine wp_world (fun U => Blk U w.heap.size 59 [.bool false, .slice K nk ck, .slice V nv cv, .slice D nd cd] ∧ Below w.heap.size w U)
    ⟨(Blk.new w _ [.bool false, .slice K nk ck, .slice V nv cv, .slice D nd cd]), hb⟩ ?_
  clear hb
  rintro U ⟨hB, hU⟩
  have hBc := hB.cells
  have HRU := Lib.hid (HR.out.below hU (Nat.le_refl _))
  clear hB HR
  go_loopw [5, 10] (fun s5 s10 wr => ∃ i : Nat, i ≤ nk ∧ s10 = .int .i64 i ∧ s5 = .int .i64 (placeTo s key i : Nat) ∧ ∃ q, wr = U.drewN q) (fun _ s10 _ => nk - (intOf s10).toNat)
  case atStart => exact ⟨0, Nat.zero_le _, rfl, rfl, 0, rfl⟩
  case round =>
    obtain ⟨i, hi, rfl, rfl, q, rfl⟩ := hrel
    by_cases hlt : i < nk
    · obtain ⟨b, o, rfl, _, _⟩ := HRU.out.keys.at_ (by omega)
      have c0 : U.cell? ⟨b, o + i, none⟩ = some (.string (kAt s i)) := sl_cell HRU.out.keys i hlt
      have HP : Hid (placeTo s key (i + 1) = if (Op.bytesLess (kAt s i).toList key.toList || (kAt s i).toList == key.toList) then i else placeTo s key i) := rfl
      generalize kAt s i = kk at *
      generalize placeTo s key i = pp at *
      have fin : ∀ b1 b2, Op.bytesLess kk.toList key.toList = b1 → (kk.toList == key.toList) = b2 → placeTo s key (i + 1) = if (b1 || b2) then i else pp := fun b1 b2 h1 h2 => by rw [← h1, ← h2]; exact HP.out
      have HFin := Lib.hid fin
      clear fin HP
      rcases h1 : Op.bytesLess kk.toList key.toList <;> rcases h2 : (kk.toList == key.toList)
      all_goals
        have HE := Lib.hid (HFin.out _ _ h1 h2)
        clear HFin
        go_wp2
        go_roundw
        case rel => exact ⟨i + 1, by omega, by go_num, by rw [HE.out]; rfl, _, rfl⟩
        case measure => simp [intOf]; omega
    · obtain rfl : i = nk := by omega
      have hq := below_drewN hU q
      go_wp2
      go_ret
      exact ⟨rfl, hq⟩

end Go.Proofs.Ytdakohbfibcjeaa
namespace Go.Proofs.Ytdakohbfibcjeaa
open Go.RowKit

/-- the kind, the body and the error of a node's block -/
def pk (s : Nd) (t : Bool) : Int := bif t then (kindN s : Nat) else 0
def pb (s : Nd) (t : Bool) : List UInt8 := bif t then bodyN s else []
def pe (t : Bool) : Int := bif t then 0 else 1
def PutsTo (w : World) (s : Nd) (t : Bool) (e : Ending) (w' : World) : Prop :=
  ∃ A m c, e = .returned (.tuple #[.agg #[.int .i64 (pk s t), .slice A m c], .int .i64 (pe t)]) ∧ Bs w' w.heap.size A m c (pb s t) ∧ Below w.heap.size w w'
theorem nput_t {s : Nd} {t : Bool} (ht : decide (mayN s) = t) {w : World} {lo : Nat} {K V D : Option Addr} {nk ck nv cv nd cd : Nat} (h : NdR w lo s K nk ck V nv cv D nd cd) :
    Calls Try.prog 23 #[.agg #[.bool s.leaf, .slice K nk ck, .slice V nv cv, .slice D nd cd]] w (PutsTo w s t) := by
  cases t with
  | true => exact (nput_ok s h (of_decide_eq_true ht)).mono fun e w' ⟨A, c, he, ho, hb⟩ => ⟨A, _, c, he, own_bs ho, hb⟩
  | false => exact (nput_no s h (of_decide_eq_false ht)).mono fun e w' ⟨he, hb⟩ => ⟨none, 0, 0, he, Bs.nil_ _ _, hb⟩
theorem ls_blk {w : World} {g lo : Nat} {t : TypeId} {cs : List Value} (h : Blk w g t cs) (hl : lo ≤ g) (hc : cs.length ≤ 9223372036854775807) : Ls w lo (some ⟨g, 0, none⟩) cs.length cs.length cs :=
  ⟨rfl, Nat.le_refl _, hc, fun hn => ⟨g, 0, rfl, hl, h.lt, fun k hk => by rw [Nat.zero_add]; exact (h.cell k).trans (List.getElem?_eq_getElem hk)⟩⟩

def nA : Nd := ⟨true, [⟨#[97]⟩, ⟨#[98]⟩], [⟨#[49]⟩, ⟨#[]⟩], []⟩
def nI : Nd := ⟨false, [⟨#[]⟩, ⟨#[99]⟩], [], [50, 51]⟩
theorem nA_may : mayN nA := by decide +kernel
theorem nA_len : (bodyN nA).length = 8 := by decide +kernel
theorem nA_size : szV (sizeN nA) = 8 := by decide +kernel
theorem nA_small (i : Nat) : (kAt nA i).size ≤ 140737488355328 ∧ (vAt nA i).size ≤ 140737488355328 := by
  match i with
  | 0 => exact ⟨by decide, by decide⟩
  | 1 => exact ⟨by decide, by decide⟩
  | i + 2 => exact ⟨by simp [kAt, nA], by simp [vAt, nA]⟩
theorem nI_small (i : Nat) : (kAt nI i).size ≤ 140737488355328 ∧ (vAt nI i).size ≤ 140737488355328 := by
  match i with
  | 0 => exact ⟨by decide, by decide⟩
  | 1 => exact ⟨by decide, by decide⟩
  | i + 2 => exact ⟨by simp [kAt, nI], by simp [vAt, nI]⟩
theorem nI_place1 : placeTo nI ⟨#[100]⟩ 2 = 1 := by decide +kernel
theorem nI_place0 : placeTo nI ⟨#[97]⟩ 2 = 0 := by decide +kernel

theorem lput_one {w : World} {lo : Nat} {K V D : Option Addr} {ck cv cd : Nat} (h : NdR w lo nA K 2 ck V 2 cv D 0 cd) :
    Calls Try.prog 23 #[.agg #[.bool true, .slice K 2 ck, .slice V 2 cv, .slice D 0 cd]] w fun e w' =>
      ∃ A c, e = .returned (.tuple #[.agg #[.int .i64 1, .slice A 8 c], .int .i64 0]) ∧ Bs w' w.heap.size A 8 c (bodyN nA) ∧ Below w.heap.size w w' :=
  (nput_ok nA h nA_may).mono fun e w' ⟨A, c, he, ho, hb⟩ => ⟨A, c, by rw [he, nA_len]; rfl, by have := own_bs ho; rwa [nA_len] at this, hb⟩
theorem lget_one {w : World} {lo : Nat} {A : Option Addr} {c : Nat} (h : Bs w lo A 8 c (bodyN nA)) :
    Calls Try.prog 42 #[.agg #[.int .i64 1, .slice A 8 c]] w fun e w' =>
      ∃ K ck V cv D cd, e = .returned (.tuple #[.agg #[.bool true, .slice K 2 ck, .slice V 2 cv, .slice D 0 cd], .int .i64 0]) ∧ NdR w' w.heap.size nA K 2 ck V 2 cv D 0 cd ∧ Below w.heap.size w w' := by
  have hg : getN 1 (bodyN nA) = some nA := getN_putN nA nA_may (by decide)
  have h1 := nget_any 1 h
  rw [hg] at h1
  refine h1.mono ?_
  rintro e w' ⟨K, nk, ck, V, nv, cv, D, nd, cd, he, hr, hb⟩
  obtain rfl : 2 = nk := hr.nk_eq
  obtain rfl : 2 = nv := hr.nv_eq
  obtain rfl : 0 = nd := hr.nd_eq
  exact ⟨K, ck, V, cv, D, cd, he, hr, hb⟩
theorem lplace_1 {w : World} {lo : Nat} {K V D : Option Addr} {ck cv cd : Nat} (h : NdR w lo nI K 2 ck V 0 cv D 2 cd) :
    Calls Try.prog 27 #[.agg #[.bool false, .slice K 2 ck, .slice V 0 cv, .slice D 2 cd], .string ⟨#[100]⟩] w fun e w' => e = .returned (.int .i64 1) ∧ Below w.heap.size w w' :=
  (nplace_inner (s := nI) rfl ⟨#[100]⟩ h).mono fun e w' ⟨he, hb⟩ => ⟨by rw [he, nI_place1]; rfl, hb⟩
theorem lplace_0 {w : World} {lo : Nat} {K V D : Option Addr} {ck cv cd : Nat} (h : NdR w lo nI K 2 ck V 0 cv D 2 cd) :
    Calls Try.prog 27 #[.agg #[.bool false, .slice K 2 ck, .slice V 0 cv, .slice D 2 cd], .string ⟨#[97]⟩] w fun e w' => e = .returned (.int .i64 0) ∧ Below w.heap.size w w' :=
  (nplace_inner (s := nI) rfl ⟨#[97]⟩ h).mono fun e w' ⟨he, hb⟩ => ⟨by rw [he, nI_place0]; rfl, hb⟩
theorem lsize_one {w : World} {lo : Nat} {K V D : Option Addr} {ck cv cd : Nat} (h : NdR w lo nA K 2 ck V 2 cv D 0 cd) :
    Calls Try.prog 47 #[.agg #[.bool true, .slice K 2 ck, .slice V 2 cv, .slice D 0 cd]] w fun e w' => e = .returned (.int .i64 8) ∧ Below w.heap.size w w' :=
  (nsize_any nA h).mono fun e w' ⟨he, hb⟩ => ⟨by rw [he, nA_size], hb⟩

end Go.Proofs.Ytdakohbfibcjeaa
