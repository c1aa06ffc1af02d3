/- What a cache and its disk have of a block: what the calls change of it. No condition. -/
import Derived.Test.YtjndopmjlbhajaaCaQ
import Derived.Test.YtjndopmjlbhajaaCaL
namespace Go.Proofs.Ytjndopmjlbhajaa
set_option linter.unusedVariables false

/-- what is read of a block -/
def cont (t : Dsk) (s : Ca) (m : Nat) : Nat × Nat × List UInt8 := match s.blocks m with
  | some x => (0, x.k, x.b)
  | none => readB t m
/-- clean blocks are as on the disk -/
def Cons (t : Dsk) (s : Ca) : Prop := ∀ m x, s.blocks m = some x → s.dirty m = false → readB t m = (0, x.k, x.b)
section
variable {t : Dsk} {s s' : Ca} {n m N : Nat} {x : Bk}
theorem cont_some (h : s.blocks m = some x) : cont t s m = (0, x.k, x.b) := by unfold cont; rw [h]
theorem cont_none (h : s.blocks m = none) : cont t s m = readB t m := by unfold cont; rw [h]
/-- clean blocks are dropped: nothing else is read -/
theorem cont_sub (hc : Cons t s) (hb : ∀ m, s'.blocks m = s.blocks m ∨ (s'.blocks m = none ∧ s.dirty m = false)) (hd : s'.dirty = s.dirty) : (∀ m, cont t s' m = cont t s m) ∧ Cons t s' := by
  refine ⟨fun m => ?_, fun m x hx hm => ?_⟩
  · rcases hb m with e | ⟨e, e2⟩
    · unfold cont; rw [e]
    · rw [cont_none e]
      cases h : s.blocks m with
      | none => rw [cont_none h]
      | some x => rw [cont_some h, hc m x h e2]
  · rw [hd] at hm
    rcases hb m with e | ⟨e, e2⟩
    · exact hc m x (by rw [← e]; exact hx) hm
    · rw [e] at hx; cases hx
theorem asked_cont (h : AskOk N s n) (hc : Cons t s) : (∀ m, cont t (askedC s n) m = cont t s m) ∧ Cons t (askedC s n) := by
  refine cont_sub hc (fun m => ?_) (asked_same h).1
  rw [(asked_eq h).1]
  split
  · unfold dropC
    obtain ⟨o, ho⟩ : ∃ o, o = (askC s n).order := ⟨_, rfl⟩
    rw [← ho]
    cases hr : o with
    | nil => exact .inl rfl
    | cons y r =>
      show (if (m : Int) = (y : Int) then none else s.blocks m) = _ ∨ ((if (m : Int) = (y : Int) then none else s.blocks m) = none ∧ _)
      by_cases e : (m : Int) = (y : Int)
      · rw [if_pos e]
        right
        refine ⟨rfl, ?_⟩
        have hy : m ∈ outN s.order (n : Int) ++ [n] := by
          have : m = y := by omega
          rw [this, show outN s.order (n : Int) ++ [n] = o from by rw [ho]; rfl, hr]
          exact List.mem_cons_self
        rcases List.mem_append.1 hy with q | q
        · cases hd : s.dirty m with
          | false => rfl
          | true => exact absurd (mem_outN.1 q).1 (h.apart m hd)
        · rw [List.mem_singleton] at q; rw [q]; exact h.clean
      · rw [if_neg e]; exact .inl rfl
  · exact .inl rfl
theorem getC_some (h1 : 50 ≤ n) (h2 : n < t.n) (hb : s.blocks n = some x) : getC t s (n : Int) = (0, x, if s.dirty n then s else askedC s n) := by
  unfold getC
  rw [if_pos (by omega), show (n : Int).toNat = n from rfl, hb]
theorem getC_read (h1 : 50 ≤ n) (h2 : n < t.n) (hb : s.blocks n = none) (hr : (readB t n).1 = 0) : getC t s (n : Int) = (0, ⟨(readB t n).2.1, (readB t n).2.2⟩, if s.dirty n then putB s n ⟨(readB t n).2.1, (readB t n).2.2⟩ else askedC (putB s n ⟨(readB t n).2.1, (readB t n).2.2⟩) n) := by
  unfold getC
  rw [if_pos (by omega), show (n : Int).toNat = n from rfl, hb]
  exact if_pos hr
theorem getC_bad (h1 : 50 ≤ n) (h2 : n < t.n) (hb : s.blocks n = none) (hr : (readB t n).1 ≠ 0) : getC t s (n : Int) = ((readB t n).1, nilB, s) := by
  unfold getC
  rw [if_pos (by omega), show (n : Int).toNat = n from rfl, hb]
  exact if_neg hr
theorem cont_putB (hc : Cons t s) (hb : s.blocks n = none) (hr : (readB t n).1 = 0) : (∀ m, cont t (putB s n ⟨(readB t n).2.1, (readB t n).2.2⟩) m = cont t s m) ∧ Cons t (putB s n ⟨(readB t n).2.1, (readB t n).2.2⟩) := by
  obtain ⟨r, hrd⟩ : ∃ r, r = readB t n := ⟨_, rfl⟩
  rw [← hrd] at hr ⊢
  have hrr : r = (0, r.2.1, r.2.2) := by rw [← hr]
  refine ⟨fun m => ?_, fun m y hy hm => ?_⟩
  · by_cases e : m = n
    · subst e
      rw [cont_some (x := ⟨r.2.1, r.2.2⟩) (show (if m = m then _ else _) = _ from if_pos rfl), cont_none hb, ← hrd]
      exact hrr.symm
    · unfold cont
      rw [show (putB s n ⟨r.2.1, r.2.2⟩).blocks m = s.blocks m from if_neg e]
  · have hy : (if m = n then some (⟨r.2.1, r.2.2⟩ : Bk) else s.blocks m) = some y := hy
    by_cases e : m = n
    · subst e
      rw [if_pos rfl] at hy
      injection hy with hy2
      rw [← hy2, ← hrd]
      exact hrr
    · rw [if_neg e] at hy
      exact hc m y hy hm
/-- what Get tells -/
theorem get_cont (h : CaOk t.n s) (hc : Cons t s) (h1 : 50 ≤ n) (h2 : n < t.n) :
    (getC t s (n : Int)).1 = (cont t s n).1 ∧ ((cont t s n).1 = 0 → (getC t s (n : Int)).2.1 = ⟨(cont t s n).2.1, (cont t s n).2.2⟩) ∧ ((cont t s n).1 ≠ 0 → (getC t s (n : Int)).2.1 = nilB) ∧ (∀ m, cont t (getC t s (n : Int)).2.2 m = cont t s m) ∧ Cons t (getC t s (n : Int)).2.2 := by
  cases hb : s.blocks n with
  | some x =>
    rw [cont_some hb, getC_some h1 h2 hb]
    refine ⟨rfl, fun _ => rfl, fun e => absurd rfl e, ?_⟩
    show (∀ m, cont t (if s.dirty n then s else askedC s n) m = _) ∧ Cons t (if s.dirty n then s else askedC s n)
    cases hd : s.dirty n with
    | true => exact ⟨fun _ => rfl, hc⟩
    | false => exact asked_cont (h.ask (by rw [hb]; rfl) hd) hc
  | none =>
    rw [cont_none hb]
    by_cases hr : (readB t n).1 = 0
    · rw [getC_read h1 h2 hb hr]
      obtain ⟨a1, a2⟩ := ask_new h hb h1 h2 (x := ⟨(readB t n).2.1, (readB t n).2.2⟩) (readB_ok hr)
      refine ⟨hr.symm, fun _ => rfl, fun e => absurd hr e, ?_⟩
      rw [a2]
      have hpc := cont_putB hc hb hr
      obtain ⟨b1, b2⟩ := asked_cont a1 hpc.2
      exact ⟨fun m => (b1 m).trans (hpc.1 m), b2⟩
    · rw [getC_bad h1 h2 hb hr]
      exact ⟨rfl, fun e => absurd e hr, fun _ => rfl, fun _ => rfl, hc⟩
/-- what Put changes -/
theorem put_cont (h : CaOk t.n s) (hc : Cons t s) (h1 : 50 ≤ n) (h2 : n < t.n) {kd : Int} {l : List UInt8} :
    (putR t s (n : Int) kd l).1 = (if mayB n kd l.length then 0 else 1) ∧ (∀ m, cont t (putR t s (n : Int) kd l).2 m = if m = n ∧ mayB n kd l.length then (0, kd.toNat, l) else cont t s m) ∧ Cons t (putR t s (n : Int) kd l).2 := by
  unfold putR
  rw [if_pos (by omega), show (n : Int).toNat = n from rfl]
  by_cases hm : mayB n kd l.length
  · rw [if_pos hm, if_pos hm]
    refine ⟨rfl, fun m => ?_, fun m y hy hd => ?_⟩
    · by_cases e : m = n
      · subst e
        rw [if_pos ⟨rfl, hm⟩, cont_some (x := ⟨kd.toNat, l⟩) (show (if m = m then _ else _) = _ from if_pos rfl)]
      · rw [if_neg (fun q => e q.1)]
        unfold cont
        rw [show (putC s n ⟨kd.toNat, l⟩).blocks m = (if m = n then some ⟨kd.toNat, l⟩ else if (m : Int) = (n : Int) then none else s.blocks m) from rfl, if_neg e, if_neg (by omega)]
    · have hd : (if m = n then true else if (m : Int) = (n : Int) then false else s.dirty m) = false := hd
      have hy : (if m = n then some (⟨kd.toNat, l⟩ : Bk) else if (m : Int) = (n : Int) then none else s.blocks m) = some y := hy
      by_cases e : m = n
      · rw [if_pos e] at hd; cases hd
      · rw [if_neg e, if_neg (by omega)] at hd hy
        exact hc m y hy hd
  · rw [if_neg hm, if_neg hm]
    exact ⟨rfl, fun m => (if_neg (fun q => hm q.2)).symm, hc⟩
theorem readB_write (hc : t.cut = false) {y : List UInt8} : readB (writeD t n y) m = if m = n then gBlk (m : Int) y else readB t m := by
  unfold readB
  by_cases e : m = n
  · subst e
    rw [if_pos rfl, hasD_write hc]
  · rw [if_neg e, write_new hc]
    unfold hasD
    rw [show (writeS t n y).vers m = t.vers m from if_neg e]
    rfl
/-- a dirty block is written: it is clean, and as it was -/
theorem write_cont (h : CaOk t.n s) (hn4 : t.n ≤ 4096) (hc : Cons t s) (hcut : t.cut = false) (hd : s.dirty n = true) (hx : s.blocks n = some x) :
    (∀ m, cont (writeD t n (blkSector n x.k x.b)) (delD s (n : Int)) m = cont t s m) ∧ Cons (writeD t n (blkSector n x.k x.b)) (delD s (n : Int)) := by
  have hk := h.blk n x hx
  have hg : gBlk (n : Int) (blkSector n x.k x.b) = (0, x.k, x.b) := gBlk_own (by omega) hk.2.2.1 hk.2.2.2.1 hk.2.2.2.2
  refine ⟨fun m => ?_, fun m y hy hm => ?_⟩
  · cases hb : s.blocks m with
    | some y => rw [cont_some hb, cont_some (s := delD s (n : Int)) hb]
    | none =>
      have e : m ≠ n := fun e => by rw [e, hx] at hb; cases hb
      rw [cont_none hb, cont_none (s := delD s (n : Int)) hb, readB_write hcut, if_neg e]
  · have hy : s.blocks m = some y := hy
    have hm : (if (m : Int) = (n : Int) then false else s.dirty m) = false := hm
    rw [readB_write hcut]
    by_cases e : m = n
    · subst e
      have hy2 : x = y := by have h2 := hx.symm.trans hy; injection h2
      rw [if_pos rfl, ← hy2, hg]
    · rw [if_neg (by omega)] at hm
      rw [if_neg e]
      exact hc m y hy hm
theorem writeD_cut (hc : t.cut = false) {y : List UInt8} : (writeD t n y).cut = false := by
  rw [write_new hc]; exact hc
theorem flushTo_cont (h : CaOk t.n s) (hn4 : t.n ≤ 4096) (hc : Cons t s) (hcut : t.cut = false) : ∀ i, i ≤ (dirtyN t.n s).length → (flushTo t s (dirtyN t.n s) i).1.cut = false ∧ (∀ m, cont (flushTo t s (dirtyN t.n s) i).1 (flushTo t s (dirtyN t.n s) i).2 m = cont t s m) ∧ Cons (flushTo t s (dirtyN t.n s) i).1 (flushTo t s (dirtyN t.n s) i).2
  | 0, _ => ⟨hcut, fun _ => rfl, hc⟩
  | i + 1, hi => by
    obtain ⟨c1, c2, c3⟩ := flushTo_cont h hn4 hc hcut i (by omega)
    have ho := (flushTo_ok h i (by omega)).1
    have hd := flushTo_dirty h (i := i) (by omega)
    have hpn := flushTo_n t s (dirtyN t.n s) i
    rw [flushTo]
    obtain ⟨p, hp⟩ : ∃ p, p = flushTo t s (dirtyN t.n s) i := ⟨_, rfl⟩
    obtain ⟨n, hn⟩ : ∃ n, n = (dirtyN t.n s).getD i 0 := ⟨_, rfl⟩
    rw [← hp] at c1 c2 c3 ho hd hpn ⊢
    rw [← hn] at hd ⊢
    rw [← hpn] at ho
    have hx : ∃ x, p.2.blocks n = some x := by
      have := (ho.cov n).2 (.inl hd)
      cases hx : p.2.blocks n with
      | none => rw [hx] at this; cases this
      | some x => exact ⟨x, rfl⟩
    obtain ⟨x, hx⟩ := hx
    have hsec : secOf p.2 n = blkSector n x.k x.b := by unfold secOf; rw [hx]; rfl
    show (writeD p.1 n (secOf p.2 n)).cut = false ∧ (∀ m, cont (writeD p.1 n (secOf p.2 n)) (askedC (delD p.2 (n : Int)) n) m = _) ∧ Cons (writeD p.1 n (secOf p.2 n)) (askedC (delD p.2 (n : Int)) n)
    rw [hsec]
    obtain ⟨w1, w2⟩ := write_cont ho (by rw [hpn]; exact hn4) c3 c1 hd hx
    obtain ⟨a1, a2⟩ := asked_cont (ask_flush ho hd) w2
    exact ⟨writeD_cut c1, fun m => (a1 m).trans ((w1 m).trans (c2 m)), a2⟩
theorem flush_cont (h : CaOk t.n s) (hn4 : t.n ≤ 4096) (hc : Cons t s) (hcut : t.cut = false) : (flushC t s).1.cut = false ∧ (∀ m, cont (flushC t s).1 (flushC t s).2 m = cont t s m) ∧ Cons (flushC t s).1 (flushC t s).2 :=
  flushTo_cont h hn4 hc hcut _ (Nat.le_refl _)
theorem cons_new {N r : Nat} : Cons (newD N) (newC r) := fun m x hx => by cases hx
theorem cont_new {N r m : Nat} : cont (newD N) (newC r) m = (6, 0, []) := readB_new
end
end Go.Proofs.Ytjndopmjlbhajaa
namespace Go.Proofs.Ytjndopmjlbhajaa
open Go.RowKit Go.Maps
set_option linter.unusedSimpArgs false
set_option linter.unusedVariables false

/-- what a round holds -/
def RS (w wr : World) (base kg room i : Nat) : Prop := ∃ (d : Dw) (k : Cw) (t : Dsk) (s : Ca), CD wr base d k t s ∧ t.n = 60 ∧ CaOk t.n s ∧ (∀ j, (t.vers j).length ≤ 60 * i) ∧ s.room = room ∧ k.g = kg ∧ Below base w wr
theorem get_room {t : Dsk} {s : Ca} (h : CaOk t.n s) (z : Int) : (getC t s z).2.2.room = s.room := by
  have e : ∀ s2 : Ca, ∀ m, AskOk t.n s2 m → (askedC s2 m).room = s2.room := fun s2 m ha => (asked_same ha).2
  unfold getC
  by_cases hz : 50 ≤ z ∧ z < (t.n : Int)
  · rw [if_pos hz]
    cases hb : s.blocks z.toNat with
    | some x =>
      show (if s.dirty z.toNat then s else askedC s z.toNat).room = _
      cases hd : s.dirty z.toNat with
      | true => rfl
      | false => exact e _ _ (h.ask (by rw [hb]; rfl) hd)
    | none =>
      by_cases hr : (readB t z.toNat).1 = 0
      · simp only [hr, if_true]
        obtain ⟨h1, h2⟩ := ask_new h hb (by omega) (by omega) (x := ⟨(readB t z.toNat).2.1, (readB t z.toNat).2.2⟩) (readB_ok hr)
        rw [h2]
        exact e _ _ h1
      · simp only [hr, if_false]
  · rw [if_neg hz]
theorem put_room {t : Dsk} {s : Ca} {z kd : Int} {l : List UInt8} : (putR t s z kd l).2.room = s.room := by
  unfold putR
  split
  · split <;> rfl
  · rfl
set_option maxRecDepth 100000 in
set_option maxHeartbeats 8000000 in
theorem room_any {A : Option Addr} {n c : Nat} {f : Nat → Dc} {rm : Int} {w : World} (hr : -9223372036854775808 ≤ rm ∧ rm ≤ 9223372036854775807) (hd : Dcs w A n f) (hn : n ≤ 1048576) :
    Calls Try.prog 6 #[.int .i64 rm, .slice A n c] w fun e w' => e = .returned (.bool true) ∧ Below w.heap.size w w' := by
  have D0 := dnew_ok 60 (by omega) w
  push_cast at D0
  have D := Lib.hid D0
  have HDs := Lib.hid hd
  have hzd := zeroDc
  have R0 := fun W => pick13_any rm hr (n := 6) (by omega) (by omega) W
  have hpl := pickN_lt rm (n := 6) (by omega)
  obtain ⟨rk, hrk⟩ : ∃ z, z = pickN rm 6 := ⟨_, rfl⟩
  rw [← hrk] at R0 hpl
  push_cast at R0
  have R := Lib.hid R0
  clear D0 hd R0 hrk
  go_enter Try.func6, Try.ntmps6
  go_upto_region 4 with ((with_reducible refine Calls.mono D.out ?_); rintro e w1 ⟨d, rfl, hd1, hb1⟩)
  have N0 := cnew_ok hd1 hb1.size (room := 1 + rk) (by omega) (by omega)
  push_cast at N0
  have N := Lib.hid N0
  have HB1 := Lib.hid hb1
  clear N0 hd1 hb1 D
  go_upto_region 8 with (first | ((with_reducible refine Calls.mono (R.out _) ?_); rintro e wp ⟨rfl, rfl⟩) | ((with_reducible refine Calls.mono N.out ?_); rintro e w2 ⟨k, rfl, hcd2, hb2⟩))
  obtain ⟨kg, hkg⟩ : ∃ z, z = k.g := ⟨_, rfl⟩
  rw [← hkg]
  have HI : Hid (RS w w2 w.heap.size kg (1 + rk) 0) := Lib.hid ⟨d, k, _, _, hcd2, rfl, new_ok ⟨by omega, by omega⟩, fun j => Nat.le_refl _, rfl, hkg.symm, HB1.out.trans (hb2.mono HB1.out.size)⟩
  clear hcd2 hb2 N HB1 hkg R
  obtain ⟨room, hroom⟩ : ∃ z, z = 1 + rk := ⟨_, rfl⟩
  have hri : (1 : Int) + (rk : Int) = (room : Int) := by omega
  rw [← hroom] at HI
  rw [hri]
  clear hri hroom
  go_wp2
  go_loopw [9] (fun s9 wr => ∃ i : Nat, i ≤ n ∧ s9 = .int .i64 i ∧ RS w wr w.heap.size kg room i) (fun s9 _ => n - (intOf s9).toNat)
  case atStart => exact ⟨0, by omega, rfl, HI.out⟩
  case round =>
    clear HI
    obtain ⟨i, hi, rfl, d, k, t, s, hC, htn, hO, hv, hrm, hkg, hB⟩ := hrel
    have HC := Lib.hid hC
    have HO := Lib.hid hO
    have HTn := Lib.hid htn
    have HV := Lib.hid hv
    have HRm := Lib.hid hrm
    have HKg := Lib.hid hkg
    have HB := Lib.hid hB
    clear hC hO htn hv hrm hkg hB
    by_cases hlt : i < n
    · obtain ⟨b, o, rfl, _, hbl, hrg⟩ := rd_elem (k := 5) HDs.out.rd (fun _ _ => rfl) (by omega) hlt
      have hok := HDs.out.ok i hlt
      have hrw := range_kept hrg (HB.out.block b hbl)
      obtain ⟨x, hx⟩ : ∃ x, x = f i := ⟨_, rfl⟩
      rw [← hx] at hrw hok
      have HRg := Lib.hid hrw
      have HOk := Lib.hid hok
      clear hrg hok hrw hx
      have HN : Hid (Blk (wr.alloc (.cells #[.int .i64 0, .int .i64 0, .int .i64 0, .slice none 0 0, .slice none 0 0] 37)) wr.heap.size 37 [.int .i64 0, .int .i64 0, .int .i64 0, .slice none 0 0, .slice none 0 0]) := Lib.hid (Blk.new wr _ [.int .i64 0, .int .i64 0, .int .i64 0, .slice none 0 0, .slice none 0 0])
      go_upto_region 12 with (first
        | (((with_reducible refine wpList_load_mid (op := ⟨some 45, _, _, _, _, _⟩) ?_ 37 (.tmp 44) ?_ b (o + i * 5) ?_ (dcc x) _ ?_ Try.underlying37 ?_ ?_ ?_); rfl; rfl; (first | rfl | (go_simp; rfl)); exact HRg.out; rfl; (rw [sizeDc]; rfl)))
        | (((with_reducible refine row_put (o := ⟨none, _, _, _, _, _⟩) ?_ ?_ 37 (.tmp 10) (.tmp 45) ?_ wr.heap.size ?_ (dcc x) ?_ 37 [.int .i64 0, .int .i64 0, .int .i64 0, .slice none 0 0, .slice none 0 0] ?_ ?_ ?_ ?_ ?_); rfl; rfl; rfl; rfl; rfl; exact HN.out; (rw [sizeDc]; rfl); rfl; (intro u hu; simp [dcc] at hu; rcases hu with rfl | rfl | rfl | rfl | rfl <;> rfl); (intro w9 X9 g9))))
      have hb9 : Below wr.heap.size wr w9 := ((Below.refl _ _).alloc (Nat.le_refl _) _).grown g9 (by simp) (by intro k hk; cases hk; exact Nat.le_refl _)
      obtain ⟨g8, hg8⟩ : ∃ g, g = wr.heap.size := ⟨_, rfl⟩
      have X9b := X9.out
      rw [← hg8] at X9b
      rw [← hg8]
      have hnf : ¬ footC d k g8 := fun y => by have := (HC.out.foot_base _ y).2; omega
      have HC9 := Lib.hid (HC.out.below hb9 (Nat.le_refl _))
      have HB9 := Lib.hid (HB.out.trans (hb9.mono HB.out.size))
      have P0 := pick13_any x.K HOk.out.k (n := 3) (by omega) (by omega) w9
      have hkl := pickN_lt x.K (n := 3) (by omega)
      obtain ⟨kd, hkd⟩ : ∃ kd, kd = pickN x.K 3 := ⟨_, rfl⟩
      rw [← hkd] at P0 hkl
      push_cast at P0
      have HPk := Lib.hid P0
      have xc0 := X9b.cell 0
      have xc1 := X9b.cell 1
      have xc2 := X9b.cell 2
      have xc3 := X9b.cell 3
      simp only [dcc, List.getElem?_cons_zero, List.getElem?_cons_succ] at xc0 xc1 xc2 xc3
      have hbd : Bs w9 0 x.bA x.b.length x.bc x.b := (HOk.out.b.below HB9.out (Nat.le_refl _))
      have hoff : 0 < x.b.length → ∀ b, ablk x.bA = some b → ¬ hardC d k b := fun hm b e y => by
        obtain ⟨b', o', e2, _, h4⟩ := HOk.out.b.at_ hm
        rw [e2] at e; injection e with e; have e : b' = b := e
        have := (HC.out.foot_base b (hard_foot y)).1
        omega
      have G0 := get_any_c HC9.out (HO.out) (z := x.N)
      have Q0 := put_any_c HC9.out (HO.out) (z := x.N) (kd := x.kd) HOk.out.n hbd hoff
      have F0 := flush_any_c HC9.out HO.out (fun j _ => by have := HV.out j; omega)
      rw [HKg.out] at G0 Q0 F0
      have F := Lib.hid F0
      have G := Lib.hid G0
      have Q := Lib.hid Q0
      clear hkd P0 X9 X9b g9 hb9 hbd hoff G0 Q0 F0 HC HB HRg HN hg8 hnf
      go_upto_block 2 with ((with_reducible refine Calls.mono HPk.out ?_); rintro e wa ⟨rfl, rfl⟩)
      clear HPk
      go_cut [48] (fun _ wx => RS w wx w.heap.size kg room (i + 1))
      case first =>
        obtain hkd | hkd | hkd : (kd : Int) = 0 ∨ (kd : Int) = 1 ∨ (kd : Int) = 2 := by omega
        all_goals rw [hkd]
        all_goals clear hkd hkl
        · go_wp2_with ((with_reducible refine Calls.mono G.out ?_); rintro e w3 hG; obtain ⟨k3, A3, c3, rfl, hc3, ho3, hf3⟩ := hG)
          go_meet
          exact ⟨d, k3, t, _, hc3.cd, HTn.out, get_c_ok HO.out x.N, fun j => by have := HV.out j; omega, (get_room HO.out x.N).trans HRm.out, hc3.gk.trans HKg.out, HB9.out.trans (hc3.bel HC9.out)⟩
        · go_wp2_with ((with_reducible refine Calls.mono Q.out ?_); rintro e w3 hQ; obtain ⟨rfl, k3, hc3⟩ := hQ)
          go_meet
          exact ⟨d, k3, t, _, hc3.cd, HTn.out, put_ca_ok HO.out, fun j => by have := HV.out j; omega, put_room.trans HRm.out, hc3.gk.trans HKg.out, HB9.out.trans (hc3.bel HC9.out)⟩
        · go_wp2_with ((with_reducible refine Calls.mono F.out ?_); rintro e w3 ⟨rfl, d3, k3, hc3⟩)
          go_meet
          have hfo := flushC_ok HO.out
          have hfr : (flushC t s).2.room = s.room := (flushTo_ok HO.out _ (Nat.le_refl _)).2.2.2
          refine ⟨d3, k3, _, _, hc3.cd, hfo.2.1.trans HTn.out, by rw [hfo.2.1]; exact hfo.1, fun j => ?_, hfr.trans HRm.out, hc3.gk.trans HKg.out, HB9.out.trans (hc3.bel HC9.out)⟩
          have h1 := flushTo_len t s (dirtyN t.n s) j (dirtyN t.n s).length
          have h2 : (dirtyN t.n s).length ≤ 60 := Nat.le_trans (List.length_filter_le _ _) (by rw [List.length_range, HTn.out]; exact Nat.le_refl _)
          have h3 := HV.out j
          show ((flushTo t s (dirtyN t.n s) (dirtyN t.n s).length).1.vers j).length ≤ _
          omega
      case rest =>
        obtain ⟨d4, k4, t4, s4, hC, htn, hO, hv, hrm, hkg, hB⟩ := hcut
        have L0 := clean_any hC (by have := hO.len; have := hO.room; omega)
        rw [hkg] at L0
        have L := Lib.hid L0
        have hle : s4.order.length ≤ room := by rw [← hrm]; exact hO.len
        have hleI : ¬ (room : Int) < (s4.order.length : Int) := by omega
        have hleN : decide (room < s4.order.length) = false := decide_eq_false (by omega)
        have HJ : Hid (∀ W, Below wc.heap.size wc W → RS w W w.heap.size kg room (i + 1)) := Lib.hid fun W hb => ⟨d4, k4, t4, s4, hC.below hb (Nat.le_refl _), htn, hO, hv, hrm, hkg, hB.trans (hb.mono hB.size)⟩
        clear L0 hC htn hO hv hrm hkg hB HO HTn HV HRm HKg HC9 HB9 xc0 xc1 xc2 xc3 G Q F hkl hle
        go_wp2_with ((with_reducible refine Calls.mono L.out ?_); rintro e w6 ⟨A6, c6, rfl, ho6, hb6⟩)
        go_roundw
        case rel => exact ⟨i + 1, by omega, by norm_cast, HJ.out _ hb6⟩
        case measure => simp only [intOf]; omega
    · obtain rfl : i = n := by omega
      have LV := Lib.hid (lives13_any wr)
      clear hlt hzd
      go_wp2_with ((with_reducible refine Calls.mono LV.out ?_); rintro e w3 ⟨rfl, hb3⟩)
      go_ret
      exact ⟨rfl, HB.out.trans (hb3.mono HB.out.size)⟩
end Go.Proofs.Ytjndopmjlbhajaa
