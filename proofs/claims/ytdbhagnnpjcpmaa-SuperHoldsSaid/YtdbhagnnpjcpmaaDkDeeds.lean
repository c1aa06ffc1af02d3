/- The program's disk and the document's: what they have in common behind any deeds. No condition. -/
import Derived.Test.YtdbhagnnpjcpmaaRfPower
import Derived.Test.YtdbhagnnpjcpmaaDkRots
import Derived.Test.YtdbhagnnpjcpmaaDkLaws
namespace Go.Proofs.Ytdbhagnnpjcpmaa
set_option linter.unusedVariables false
open Go.RowKit Go.Maps

/-- the program's disk, the document's, and how many deeds were asked -/
structure Rel (s t : Dsk) (c : Nat) : Prop where
  n_ : t.n = s.n
  cut_ : t.cut = s.cut
  lies_ : ∀ k, k < s.n → t.lies k = s.lies k
  vers_ : ∀ k, k < s.n → t.vers k = s.vers k
  left_ : s.cut = true → -(c : Int) ≤ s.left ∧ max s.left 0 = t.left ∧ s.left ≤ 1073741824
  cnt : ∀ k, k < s.n → (s.vers k).length ≤ c
section
variable {s t : Dsk} {c : Nat}
theorem rel_new (n : Nat) : Rel (newD n) (newD n) 0 := ⟨rfl, rfl, fun _ _ => rfl, fun _ _ => rfl, fun h => (by cases h), fun _ _ => Nat.le_refl _⟩
theorem Rel.idle (h : Rel s t c) : Rel s t (c + 1) := ⟨h.n_, h.cut_, h.lies_, h.vers_, fun e => by obtain ⟨a, b, d⟩ := h.left_ e; exact ⟨by omega, b, d⟩, fun k hk => by have := h.cnt k hk; omega⟩
theorem Rel.has (h : Rel s t c) {k : Nat} (hk : k < s.n) : hasD t k = hasD s k := by unfold hasD; rw [h.vers_ k hk, h.lies_ k hk]
theorem Rel.dirty (h : Rel s t c) : dirtyL t = dirtyL s := by
  unfold dirtyL
  rw [h.n_]
  refine List.filter_congr fun k hk => ?_
  rw [h.vers_ k (List.mem_range.1 hk)]
theorem Rel.done (h : Rel s t c) (hc : c ≤ 1099511627776) : rdoneOk t = doneOk s ∧ (doneOk s = true → Rel (doneS s) (rdec t) (c + 1)) ∧ (doneOk s = false → Rel (doneS s) t (c + 1)) := by
  cases e : s.cut with
  | false =>
    have e1 : rdoneOk t = true := by unfold rdoneOk; rw [h.cut_, e]; rfl
    have e2 : doneOk s = true := by unfold doneOk; rw [e]; rfl
    have e3 : doneS s = s := by unfold doneS; rw [e]; rfl
    refine ⟨by rw [e1, e2], fun _ => ?_, fun h => by rw [e2] at h; cases h⟩
    rw [e3]
    exact ⟨h.n_, h.cut_, h.lies_, h.vers_, fun h => (by rw [e] at h; cases h), fun k hk => by have := h.cnt k hk; omega⟩
  | true =>
    obtain ⟨l1, l2, l3⟩ := h.left_ e
    have hw : wrap64 (s.left - 1) = s.left - 1 := by unfold wrap64; omega
    have e2 : doneOk s = decide (0 ≤ s.left - 1) := by unfold doneOk; rw [e, hw]; rfl
    have e1 : rdoneOk t = !decide (t.left = 0) := by unfold rdoneOk; rw [h.cut_, e]; rfl
    have e3 : doneS s = { s with left := s.left - 1 } := by unfold doneS; rw [e, hw]; rfl
    by_cases hp : 0 ≤ s.left - 1
    · have hwt : wrap64 (t.left - 1) = t.left - 1 := by unfold wrap64; omega
      refine ⟨by rw [e1, e2, decide_eq_true hp, decide_eq_false (by omega)]; rfl, fun _ => ?_, fun h => by rw [e2, decide_eq_true hp] at h; cases h⟩
      rw [e3]
      refine ⟨h.n_, h.cut_, h.lies_, h.vers_, fun _ => ?_, fun k hk => Nat.le_succ_of_le (h.cnt k hk)⟩
      show -((c + 1 : Nat) : Int) ≤ s.left - 1 ∧ max (s.left - 1) 0 = wrap64 (t.left - 1) ∧ s.left - 1 ≤ 1073741824
      rw [hwt]
      omega
    · refine ⟨by rw [e1, e2, decide_eq_false hp, decide_eq_true (by omega)]; rfl, fun h => (by rw [e2, decide_eq_false hp] at h; cases h), fun _ => ?_⟩
      rw [e3]
      refine ⟨h.n_, h.cut_, h.lies_, h.vers_, fun _ => ?_, fun k hk => Nat.le_succ_of_le (h.cnt k hk)⟩
      show -((c + 1 : Nat) : Int) ≤ s.left - 1 ∧ max (s.left - 1) 0 = t.left ∧ s.left - 1 ≤ 1073741824
      omega
theorem Rel.write (h : Rel s t c) (hc : c ≤ 1099511627776) (k : Nat) (x : List UInt8) : Rel (writeD s k x) (rwriteD t k x) (c + 1) := by
  obtain ⟨h1, h2, h3⟩ := h.done hc
  unfold writeD rwriteD
  rw [h1]
  have hv : ∀ j, j < s.n → ((doneS s).vers j).length ≤ c := fun j hj => by
    have : (doneS s).vers = s.vers := by unfold doneS; split <;> rfl
    rw [this]; exact h.cnt j hj
  have hnn : (doneS s).n = s.n := by unfold doneS; split <;> rfl
  cases e : doneOk s with
  | false => exact h3 e
  | true =>
    have r := h2 e
    refine ⟨r.n_, r.cut_, r.lies_, fun j hj => ?_, r.left_, fun j hj => ?_⟩
    · show (if j = k then _ else _) = (if j = k then _ else _)
      by_cases ej : j = k
      · subst ej
        rw [if_pos rfl, if_pos rfl, r.vers_ j hj]
      · rw [if_neg ej, if_neg ej, r.vers_ j hj]
    · show (if j = k then _ else _ : List (List UInt8)).length ≤ c + 1
      have hj' : j < s.n := by rw [← hnn]; exact hj
      have := hv j hj'
      by_cases ej : j = k
      · subst ej
        rw [if_pos rfl, List.length_append]
        simp
        omega
      · rw [if_neg ej]; omega
theorem Rel.flush (h : Rel s t c) (hc : c ≤ 1099511627776) : Rel (flushD s) (rflushD t) (c + 1) := by
  obtain ⟨h1, h2, h3⟩ := h.done hc
  have hnn : (doneS s).n = s.n := by unfold doneS; split <;> rfl
  unfold flushD rflushD
  rw [h1]
  cases e : doneOk s with
  | false => exact h3 e
  | true =>
    have r := h2 e
    refine ⟨r.n_, r.cut_, fun j hj => ?_, fun j hj => ?_, r.left_, fun j hj => Nat.zero_le _⟩
    · have hj' : j < s.n := by rw [← hnn]; exact hj
      show (if j < t.n then hasD (rdec t) j else _) = (if j < s.n then hasD (doneS s) j else _)
      rw [if_pos (by rw [h.n_]; exact hj'), if_pos hj']
      exact r.has hj
    · have hj' : j < s.n := by rw [← hnn]; exact hj
      show (if j < t.n then [] else _) = []
      rw [if_pos (by rw [h.n_]; exact hj')]
theorem Rel.step (h : Rel s t c) (ps : List Int) (i k : Nat) : Rel (powerStep s ps i k) (powerStep t ps i k) c := by
  refine ⟨by rw [step_n, step_n]; exact h.n_, by rw [step_cut, step_cut]; exact h.cut_, fun j hj => ?_, fun j hj => ?_, fun e => ?_, fun j hj => ?_⟩
  · rw [step_n] at hj
    rw [← upd_power, ← upd_power]
    show (if j = k then _ else _) = (if j = k then _ else _)
    by_cases ej : j = k
    · subst ej
      rw [if_pos rfl, if_pos rfl]
      unfold pickX
      rw [h.vers_ j hj, h.lies_ j hj]
    · rw [if_neg ej, if_neg ej]; exact h.lies_ j hj
  · rw [step_n] at hj
    rw [step_vers, step_vers, h.vers_ j hj]
  · rw [step_cut] at e
    have h1 : ∀ u : Dsk, (powerStep u ps i k).left = u.left := fun u => by unfold powerStep delV; split <;> rfl
    rw [h1, h1]
    exact h.left_ e
  · rw [step_n] at hj
    rw [step_vers]
    split
    · exact Nat.zero_le _
    · exact h.cnt j hj
theorem Rel.powerTo (h : Rel s t c) (ps : List Int) : ∀ i, Rel (powerTo s ps i) (powerTo t ps i) c
  | 0 => ⟨h.n_, rfl, h.lies_, h.vers_, fun e => (by cases e), h.cnt⟩
  | i + 1 => by
    rw [Go.Proofs.Ytdbhagnnpjcpmaa.powerTo, Go.Proofs.Ytdbhagnnpjcpmaa.powerTo, h.dirty]
    exact (h.powerTo ps i).step ps i _
theorem Rel.power (h : Rel s t c) (ps : List Int) : Rel (powerD s ps) (powerD t ps) c := by
  unfold powerD
  rw [h.dirty]
  exact h.powerTo ps _
theorem Rel.rot (h : Rel s t c) {k i : Nat} (hk : k < s.n) : Rel (rotD s k i) (rotD t k i) c := by
  rw [← upd_rot, ← upd_rot]
  refine ⟨h.n_, h.cut_, fun j hj => ?_, fun j hj => ?_, h.left_, fun j hj => ?_⟩
  · show (if j = k then _ else _) = (if j = k then _ else _)
    rw [h.lies_ k hk, h.lies_ j hj]
  · show (if j = k then _ else _) = (if j = k then _ else _)
    rw [h.vers_ k hk, h.vers_ j hj]
  · show (if j = k then _ else _ : List (List UInt8)).length ≤ c
    split
    · rw [List.length_map]; exact h.cnt k hk
    · exact h.cnt j hj
theorem Rel.cut (h : Rel s t c) {n : Int} (hn : 0 ≤ n ∧ n ≤ 1073741824) : Rel (cutD s n) (rcutD t n) c := by
  refine ⟨h.n_, rfl, h.lies_, h.vers_, fun _ => ?_, h.cnt⟩
  show -(c : Int) ≤ cutLeft s n ∧ max (cutLeft s n) 0 = (if t.cut = true ∧ t.left < n then t.left else n) ∧ cutLeft s n ≤ 1073741824
  unfold cutLeft
  rw [h.cut_]
  cases e : s.cut with
  | false =>
    simp only [Bool.false_eq_true, if_false, false_and]
    omega
  | true =>
    obtain ⟨l1, l2, l3⟩ := h.left_ e
    simp only [if_true, true_and]
    rw [← l2]
    split <;> omega
end
end Go.Proofs.Ytdbhagnnpjcpmaa
namespace Go.Proofs.Ytdbhagnnpjcpmaa
open Go.RowKit Go.Maps

structure Two (w : World) (bd br : Nat) (d : Dw) (r : Rw) (s t : Dsk) : Prop where
  dk : Dk w bd d s
  rk : Rk w br r t
  le : bd ≤ br
section
variable {w w' : World} {bd br : Nat} {d d' : Dw} {r r' : Rw} {s s' t t' : Dsk}
theorem Two.below (h : Two w bd br d r s t) (hb : Below w.heap.size w w') : Two w' bd br d r s t := ⟨h.dk.below hb (Nat.le_refl _), h.rk.below hb (Nat.le_refl _), h.le⟩
theorem Two.onD (h : Two w bd br d r s t) (c : Ch w w' bd d d' s') : Two w' bd br d' r s' t :=
  ⟨c.dk, h.rk.kept (F := d.foot) c.K (fun b hb => (two_apart (w' := w) h.dk h.rk).1 b hb) (two_apart (w' := w) h.dk h.rk).2, h.le⟩
theorem Two.onR (h : Two w bd br d r s t) (c : Rch w w' br r r' t.n t') : Two w' bd br d r' s t' :=
  ⟨h.dk.kept c.K (fun b hb x => (two_apart (w' := w) h.dk h.rk).1 b x hb), c.rk, h.le⟩
theorem Two.belD (h : Two w bd br d r s t) (c : Ch w w' bd d d' s') : Below bd w w' := c.bel h.dk
theorem Two.belR (h : Two w bd br d r s t) (c : Rch w w' br r r' t.n t') : Below bd w w' := (c.bel h.rk).mono h.le
theorem Two.base (h : Two w bd br d r s t) : bd ≤ w.heap.size := by have := h.dk.foot_base d.g (.inl rfl); omega
theorem Two.offD (h : Two w bd br d r s t) {b : Nat} (hb : b < bd) : ¬ d.foot b := fun x => by have := (h.dk.foot_base b x).1; omega
theorem Two.offR (h : Two w bd br d r s t) {b : Nat} (hb : b < bd) : ¬ r.foot t.n b := fun x => by have := (h.rk.foot_base b x).1; have := h.le; omega
theorem Two.newD (h : Two w bd br d r s t) {b : Nat} (hb : w.heap.size ≤ b) : ¬ d.foot b := fun x => by have := (h.dk.foot_base b x).2; omega
theorem Two.newR (h : Two w bd br d r s t) {b : Nat} (hb : w.heap.size ≤ b) : ¬ r.foot t.n b := fun x => by have := (h.rk.foot_base b x).2; omega
/-- a block that was made meanwhile is written to -/
theorem Ch.poke (h : Ch w w' bd d d' s') {g : Nat} {w2 : World} (K : Kept (fun b => b = g) w' w2) (hg : ¬ d'.foot g) (hn : w.heap.size ≤ g) : Ch w w2 bd d d' s' :=
  ⟨h.dk.kept K (fun b hb e => hg (by rw [← e]; exact hb)), h.g, h.K.trans K (fun b hb x => by omega), h.foot⟩
theorem Rch.poke (h : Rch w w' br r r' t.n t') {g : Nat} {w2 : World} (K : Kept (fun b => b = g) w' w2) (hn : w.heap.size ≤ g) (hk : Rk w2 br r' t') : Rch w w2 br r r' t.n t' :=
  ⟨hk, h.n_, h.g, h.K.trans K (fun b hb x => by omega), h.foot⟩
end
theorem D8Ok.below {w w' : World} {x : D8} {B : Nat} (h : D8Ok w x) (hb : Below B w w') (hB : 0 < x.pn → ∀ b, ablk x.pA = some b → b < B) : D8Ok w' x :=
  ⟨h.k, h.a, fun hn => by
    have hp : 0 < x.pn := by rw [length_iz, h.pl] at hn; exact hn
    obtain ⟨b, o, e, h0, h1, h2⟩ := h.p hn
    have hbB := hB hp b (by rw [e]; rfl)
    exact ⟨b, o, e, h0, Nat.lt_of_lt_of_le h1 hb.size, fun q hq => (World.cell?_of_block (a := ⟨b, o + q, none⟩) (hb.block b hbB)).trans (h2 q hq)⟩, h.pl, h.pz⟩

/-- a deed of the program's disk -/
def sdoK (s : Dsk) (x : D8) : Nat → Dsk
  | 0 => if (0 ≤ x.at_ ∧ x.at_ < (s.n : Int)) ∧ deedN x.at_ x.sh = 256 then writeD s x.at_.toNat (deedB x.at_ x.fl x.la x.sh) else s
  | 1 => flushD s
  | 2 => powerD s x.ps
  | 3 => if 0 ≤ x.at_ ∧ x.at_ < 2048 * (s.n : Int) then rotD s (x.at_.toNat / 2048) (x.at_.toNat % 2048) else s
  | 4 => s
  | 5 => if 0 ≤ x.at_ ∧ x.at_ ≤ 1073741824 then cutD s x.at_ else s
  | _ => s
/-- a deed of the document's disk -/
def tdoK (s : Dsk) (x : D8) : Nat → Dsk
  | 0 => if (0 ≤ x.at_ ∧ x.at_ < (s.n : Int)) ∧ deedN x.at_ x.sh = 256 then rwriteD s x.at_.toNat (deedB x.at_ x.fl x.la x.sh) else s
  | 1 => rflushD s
  | 2 => powerD s x.ps
  | 3 => if 0 ≤ x.at_ ∧ x.at_ < 2048 * (s.n : Int) then rotD s (x.at_.toNat / 2048) (x.at_.toNat % 2048) else s
  | 4 => s
  | 5 => if 0 ≤ x.at_ ∧ x.at_ ≤ 1073741824 then rcutD s x.at_ else s
  | _ => s
def sdo (s : Dsk) (x : D8) : Dsk := sdoK s x (pickN x.K 6)
def tdo (s : Dsk) (x : D8) : Dsk := tdoK s x (pickN x.K 6)
theorem flushD_n (s : Dsk) : (flushD s).n = s.n := by unfold flushD doneS clearD; split <;> split <;> rfl
theorem sdo_n (s : Dsk) (x : D8) : (sdo s x).n = s.n := by
  unfold sdo
  have hk := pickN_lt x.K (n := 6) (by omega)
  generalize pickN x.K 6 = kd at *
  obtain rfl | rfl | rfl | rfl | rfl | rfl : kd = 0 ∨ kd = 1 ∨ kd = 2 ∨ kd = 3 ∨ kd = 4 ∨ kd = 5 := by omega
  · show (if _ then _ else _ : Dsk).n = _
    split
    · exact writeD_n _ _ _
    · rfl
  · exact flushD_n s
  · exact (power_all s x.ps).1
  · show (if _ then _ else _ : Dsk).n = _
    split <;> rfl
  · rfl
  · show (if _ then _ else _ : Dsk).n = _
    split <;> rfl
theorem Rel.step1 {s t : Dsk} {c : Nat} (h : Rel s t c) : Rel s t (c + 1) := h.idle
theorem Rel.do_ {s t : Dsk} {c : Nat} (h : Rel s t c) (hc : c ≤ 1099511627776) (x : D8) : Rel (sdo s x) (tdo t x) (c + 1) := by
  unfold sdo tdo
  have hk := pickN_lt x.K (n := 6) (by omega)
  generalize pickN x.K 6 = kd at *
  have hup : ∀ {s' t' : Dsk}, Rel s' t' c → Rel s' t' (c + 1) := fun h => h.idle
  obtain rfl | rfl | rfl | rfl | rfl | rfl : kd = 0 ∨ kd = 1 ∨ kd = 2 ∨ kd = 3 ∨ kd = 4 ∨ kd = 5 := by omega
  · show Rel (if _ then _ else _) (if _ then _ else _) _
    rw [h.n_]
    split
    · exact h.write hc _ _
    · exact h.idle
  · exact h.flush hc
  · exact hup (h.power _)
  · show Rel (if _ then _ else _) (if _ then _ else _) _
    rw [h.n_]
    split
    · exact hup (h.rot (by omega))
    · exact h.idle
  · exact h.idle
  · show Rel (if _ then _ else _) (if _ then _ else _) _
    split
    · next e => exact hup (h.cut e)
    · exact h.idle
end Go.Proofs.Ytdbhagnnpjcpmaa
namespace Go.Proofs.Ytdbhagnnpjcpmaa
set_option linter.unusedVariables false
open Go.RowKit Go.Maps

def rotZ (n : Nat) (a : Int) : Int := if 0 ≤ a ∧ a < 2048 * (n : Int) then 0 else 2
def cutZ (a : Int) : Int := if 0 ≤ a ∧ a ≤ 1073741824 then 0 else 1
def wrZ (n : Nat) (a : Int) (m : Nat) : Int := if 0 ≤ a ∧ a < (n : Int) then (if m = 256 then 0 else 1) else 2
section
variable {w : World} {base : Nat} {d : Dw} {r : Rw} {s : Dsk} {x : D8}
theorem d_rot (h : Dk w base d s) (hv : ∀ k, k < s.n → (s.vers k).length < 549755813887) (x : D8) :
    Calls Try.prog 22 #[.pointer (some ⟨d.g, 0, none⟩), .int .i64 x.at_] w fun e w' => e = .returned (.int .i64 (rotZ s.n x.at_)) ∧ ∃ d', Ch w w' base d d' (sdoK s x 3) := by
  by_cases hin : 0 ≤ x.at_ ∧ x.at_ < 2048 * (s.n : Int)
  · have h1 : rotZ s.n x.at_ = 0 := if_pos hin
    have h2 : sdoK s x 3 = rotD s (x.at_.toNat / 2048) (x.at_.toNat % 2048) := if_pos hin
    have hk : x.at_.toNat / 2048 < s.n := by omega
    have R := drot_any h hk (Nat.mod_lt x.at_.toNat (by omega : 0 < 2048)) (hv _ hk)
    rw [show ((x.at_.toNat / 2048 * 2048 + x.at_.toNat % 2048 : Nat) : Int) = x.at_ from by omega] at R
    rw [h1, h2]
    exact R.mono fun e w' ⟨a, b⟩ => ⟨a, d, b⟩
  · have h1 : rotZ s.n x.at_ = 2 := if_neg hin
    have h2 : sdoK s x 3 = s := if_neg hin
    rw [h1, h2]
    exact (drot_far h (by omega)).mono fun e w' ⟨a, b⟩ => ⟨a, d, by rw [b]; exact Ch.init h⟩
theorem r_rot (h : Rk w base r s) (hv : ∀ k, k < s.n → (s.vers k).length < 549755813887) (x : D8) :
    Calls Try.prog 23 #[.pointer (some ⟨r.g, 0, none⟩), .int .i64 x.at_] w fun e w' => e = .returned (.int .i64 (rotZ s.n x.at_)) ∧ ∃ r', Rch w w' base r r' s.n (tdoK s x 3) := by
  by_cases hin : 0 ≤ x.at_ ∧ x.at_ < 2048 * (s.n : Int)
  · have h1 : rotZ s.n x.at_ = 0 := if_pos hin
    have h2 : tdoK s x 3 = rotD s (x.at_.toNat / 2048) (x.at_.toNat % 2048) := if_pos hin
    have hk : x.at_.toNat / 2048 < s.n := by omega
    have R := rrot_ok h hk (Nat.mod_lt x.at_.toNat (by omega : 0 < 2048)) (by have := hv _ hk; omega)
    rw [show ((x.at_.toNat / 2048 * 2048 + x.at_.toNat % 2048 : Nat) : Int) = x.at_ from by omega] at R
    rw [h1, h2]
    exact R
  · have h1 : rotZ s.n x.at_ = 2 := if_neg hin
    have h2 : tdoK s x 3 = s := if_neg hin
    rw [h1, h2]
    exact (rrot_far h (by omega)).mono fun e w' ⟨a, b⟩ => ⟨a, r, by rw [b]; exact Rch.init h⟩
theorem d_write (h : Dk w base d s) (hv : ∀ k, k < s.n → (s.vers k).length < 549755813887) (x : D8) {g : Nat} (hx : Blk w g 5 (bvs (deedB x.at_ x.fl x.la x.sh))) (hf : ¬ d.foot g) :
    Calls Try.prog 16 #[.pointer (some ⟨d.g, 0, none⟩), .int .i64 x.at_, .slice (some ⟨g, 0, none⟩) (deedN x.at_ x.sh) (deedN x.at_ x.sh)] w fun e w' => e = .returned (.int .i64 (wrZ s.n x.at_ (deedN x.at_ x.sh))) ∧ ∃ d', Ch w w' base d d' (sdoK s x 0) := by
  by_cases hin : 0 ≤ x.at_ ∧ x.at_ < (s.n : Int)
  · obtain ⟨k, hk⟩ : ∃ k : Nat, x.at_ = (k : Int) := ⟨x.at_.toNat, by omega⟩
    have hks : k < s.n := by omega
    by_cases hm : deedN x.at_ x.sh = 256
    · have h1 : wrZ s.n x.at_ (deedN x.at_ x.sh) = 0 := by unfold wrZ; rw [if_pos hin, if_pos hm]
      have h2 : sdoK s x 0 = writeD s k (deedB x.at_ x.fl x.la x.sh) := by show (if _ then _ else _) = _; rw [if_pos ⟨hin, hm⟩, hk]; rfl
      rw [h1, h2]
      have hl : (deedB x.at_ x.fl x.la x.sh).length = 256 := (deedB_len _ _ _ _).trans hm
      have W := dwrite_ok h hks (hv k hks) (hx.bs0 0 256 256 (Nat.zero_le _) (Nat.le_refl _) (by omega) hl) hf
      rw [hm, hk]
      rw [hk] at W
      exact W.mono fun e w' ⟨a, b⟩ => ⟨a, Ch.of b⟩
    · have h1 : wrZ s.n x.at_ (deedN x.at_ x.sh) = 1 := by unfold wrZ; rw [if_pos hin, if_neg hm]
      have h2 : sdoK s x 0 = s := if_neg (fun e => hm e.2)
      rw [h1, h2]
      have W := dwrite_bad (A := some ⟨g, 0, none⟩) (c := deedN x.at_ x.sh) h hks hm
      rw [← hk] at W
      exact W.mono fun e w' ⟨a, b⟩ => ⟨a, d, by rw [b]; exact Ch.init h⟩
  · have h1 : wrZ s.n x.at_ (deedN x.at_ x.sh) = 2 := if_neg hin
    have h2 : sdoK s x 0 = s := if_neg (fun e => hin e.1)
    rw [h1, h2]
    exact (dwrite_far h (by omega) _).mono fun e w' ⟨a, b⟩ => ⟨a, d, by rw [b]; exact Ch.init h⟩
theorem r_write (h : Rk w base r s) (hv : ∀ k, k < s.n → (s.vers k).length < 549755813887) (x : D8) {g : Nat} (hx : Blk w g 5 (bvs (deedB x.at_ x.fl x.la x.sh))) (hf : ¬ r.foot s.n g) :
    Calls Try.prog 17 #[.pointer (some ⟨r.g, 0, none⟩), .int .i64 x.at_, .slice (some ⟨g, 0, none⟩) (deedN x.at_ x.sh) (deedN x.at_ x.sh)] w fun e w' => e = .returned (.int .i64 (wrZ s.n x.at_ (deedN x.at_ x.sh))) ∧ ∃ r', Rch w w' base r r' s.n (tdoK s x 0) := by
  by_cases hin : 0 ≤ x.at_ ∧ x.at_ < (s.n : Int)
  · obtain ⟨k, hk⟩ : ∃ k : Nat, x.at_ = (k : Int) := ⟨x.at_.toNat, by omega⟩
    have hks : k < s.n := by omega
    by_cases hm : deedN x.at_ x.sh = 256
    · have h1 : wrZ s.n x.at_ (deedN x.at_ x.sh) = 0 := by unfold wrZ; rw [if_pos hin, if_pos hm]
      have h2 : tdoK s x 0 = rwriteD s k (deedB x.at_ x.fl x.la x.sh) := by show (if _ then _ else _) = _; rw [if_pos ⟨hin, hm⟩, hk]; rfl
      rw [h1, h2]
      have hl : (deedB x.at_ x.fl x.la x.sh).length = 256 := (deedB_len _ _ _ _).trans hm
      have W := rwrite_ok h hks (by have := hv k hks; omega) (hx.bs0 0 256 256 (Nat.zero_le _) (Nat.le_refl _) (by omega) hl) (fun b e => by injection e with e; rw [← e]; exact hf)
      rw [hm, hk]
      rw [hk] at W
      exact W
    · have h1 : wrZ s.n x.at_ (deedN x.at_ x.sh) = 1 := by unfold wrZ; rw [if_pos hin, if_neg hm]
      have h2 : tdoK s x 0 = s := if_neg (fun e => hm e.2)
      rw [h1, h2]
      have W := rwrite_bad (A := some ⟨g, 0, none⟩) (c := deedN x.at_ x.sh) h hks hm
      rw [← hk] at W
      exact W.mono fun e w' ⟨a, b⟩ => ⟨a, r, by rw [b]; exact Rch.init h⟩
  · have h1 : wrZ s.n x.at_ (deedN x.at_ x.sh) = 2 := if_neg hin
    have h2 : tdoK s x 0 = s := if_neg (fun e => hin e.1)
    rw [h1, h2]
    exact (rwrite_far h (by omega) _).mono fun e w' ⟨a, b⟩ => ⟨a, r, by rw [b]; exact Rch.init h⟩
end
theorem rd_lt {w : World} {lo m : Nat} {A : Option Addr} {ps : List Int} (h : Rd w lo A (iz ps)) (hl : ps.length = m) (hm : 0 < m) : ∀ b, ablk A = some b → b < w.heap.size := fun b e => by
  obtain ⟨b', o, rfl, _, h2, _⟩ := h (by rw [length_iz, hl]; exact hm)
  injection e with e
  rw [← e]
  exact h2
theorem D8Ok.lt {w : World} {x : D8} (h : D8Ok w x) : 0 < x.pn → ∀ b, ablk x.pA = some b → b < w.heap.size := fun hn => rd_lt h.p h.pl hn
theorem rd_below {w w' : World} {lo m : Nat} {A : Option Addr} {ps : List Int} (h : Rd w lo A (iz ps)) (hb : Below w.heap.size w w') : Rd w' lo A (iz ps) := h.below hb (Nat.le_refl _)
end Go.Proofs.Ytdbhagnnpjcpmaa
