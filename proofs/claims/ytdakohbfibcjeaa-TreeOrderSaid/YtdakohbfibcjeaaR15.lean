/- kistref15's May, Get, Same: their walks. No condition. -/
import Derived.Test.YtdakohbfibcjeaaSc
import Derived.OwnWalk
namespace Go.Proofs.Ytdakohbfibcjeaa
open Go.RowKit Go.Maps
set_option linter.unusedSimpArgs false
set_option linter.unusedVariables false

instance (e : Ent) : Decidable (okE e) := by unfold okE; infer_instance
/-- entries that lie in memory -/
def EsR (w : World) (A : Option Addr) (n c : Nat) (es : List Ent) : Prop := Rd w 0 A (entC es) ∧ es.length = n ∧ n ≤ c ∧ c ≤ 9223372036854775807
theorem entC_get (es : List Ent) (i : Nat) (h : i < es.length) : (entC es)[i * 2]? = some (.string es[i].1) ∧ (entC es)[i * 2 + 1]? = some (.string es[i].2) := by
  induction es generalizing i with
  | nil => simp at h
  | cons x es ih =>
    have e : entC (x :: es) = .string x.1 :: .string x.2 :: entC es := by unfold entC; rw [List.flatMap_cons]; rfl
    rw [e]
    cases i with
    | zero => exact ⟨rfl, rfl⟩
    | succ i =>
      have := ih i (by simpa using h)
      rw [show (i + 1) * 2 = i * 2 + 1 + 1 by omega]
      simpa using this
theorem EsR.at_ {w : World} {A : Option Addr} {n c : Nat} {es : List Ent} (h : EsR w A n c es) {i : Nat} (hi : i < n) :
    ∃ b o, A = some ⟨b, o, none⟩ ∧ b < w.heap.size ∧ ∃ k v, es[i]? = some (k, v) ∧ w.cell? ⟨b, o + i * 2, none⟩ = some (.string k) ∧ w.cell? ⟨b, o + i * 2 + 1, none⟩ = some (.string v) := by
  obtain ⟨h1, h2, h3, h4⟩ := h
  have hl := entC_len es
  obtain ⟨b, o, rfl, _, hb, hc⟩ := h1 (by omega)
  obtain ⟨g1, g2⟩ := entC_get es i (by omega)
  have c1 := hc (i * 2) (by omega)
  have c2 := hc (i * 2 + 1) (by omega)
  rw [← List.getElem?_eq_getElem, g1] at c1
  rw [← List.getElem?_eq_getElem, g2] at c2
  exact ⟨b, o, rfl, hb, es[i].1, es[i].2, List.getElem?_eq_getElem (by omega), c1, by rw [Nat.add_assoc]; exact c2⟩
theorem EsR.below {w w' : World} {B : Nat} {A : Option Addr} {n c : Nat} {es : List Ent} (h : EsR w A n c es) (hb : Below B w w') (hB : w.heap.size ≤ B) : EsR w' A n c es := ⟨h.1.below hb hB, h.2⟩
theorem EsR.kept {F : Nat → Prop} {w w' : World} {A : Option Addr} {n c : Nat} {es : List Ent} (h : EsR w A n c es) (K : Kept F w w') (hf : ∀ b, ablk A = some b → ¬ F b) : EsR w' A n c es := ⟨h.1.kept K (fun _ => hf), h.2⟩
theorem own_esr {w : World} {base n c : Nat} {A : Option Addr} {es : List Ent} (h : Own w base 27 2 A n c (entC es)) : EsR w A n c es := ⟨(by have := h.rd; exact this.weak (Nat.zero_le _)), by have := h.len; rw [entC_len] at this; omega, h.cap⟩
set_option maxHeartbeats 2000000 in
theorem may15_any (k v : ByteArray) (w : World) : Calls Try.prog 5 #[.string k, .string v] w fun e w' => e = .returned (.bool (decide (okE (k, v)))) ∧ w = w' := by
  by_cases h1 : k = .empty
  · subst h1
    have e : decide (okE (.empty, v)) = false := decide_eq_false (fun h => h.1 rfl)
    have h2 : ByteArray.empty.toList = [] := toList_nil
    rw [e]
    clear e
    go_enter Try.func5, Try.ntmps5
    go_wp2
    go_ret
    exact ⟨rfl, rfl⟩
  · have hke : k.toList.isEmpty = false := by rw [toList_empty]; exact decide_eq_false h1
    by_cases h2 : k.size ≤ 24
    · by_cases h3 : v.size ≤ 24
      · have e : decide (okE (k, v)) = true := decide_eq_true ⟨h1, h2, h3⟩
        have i2 : (k.size : Int) ≤ 24 := by omega
        have i3 : (v.size : Int) ≤ 24 := by omega
        rw [e]
        clear e h1 h2 h3
        go_enter Try.func5, Try.ntmps5
        go_wp2
        go_ret
        exact ⟨rfl, rfl⟩
      · have e : decide (okE (k, v)) = false := decide_eq_false (fun h => h3 h.2.2)
        have i2 : (k.size : Int) ≤ 24 := by omega
        have i3 : ¬ (v.size : Int) ≤ 24 := by omega
        rw [e]
        clear e h1 h2 h3
        go_enter Try.func5, Try.ntmps5
        go_wp2
        go_ret
        exact ⟨rfl, rfl⟩
    · have e : decide (okE (k, v)) = false := decide_eq_false (fun h => h2 h.2.1)
      have i2 : ¬ (k.size : Int) ≤ 24 := by omega
      rw [e]
      clear e h1 h2
      go_enter Try.func5, Try.ntmps5
      go_wp2
      go_ret
      exact ⟨rfl, rfl⟩
set_option maxHeartbeats 2000000 in
theorem get15_any {A : Option Addr} {n c : Nat} {es : List Ent} (q : ByteArray) {w : World} (h : EsR w A n c es) : Calls Try.prog 6 #[.slice A n c, .string q] w fun e w' => ∃ v, e = .returned (.tuple #[.string v, .bool (decide (∃ e ∈ es, e.1 = q))]) ∧ w = w' := by
  have hsz : (Try.prog.info? 27).map (·.size) = some 2 := by kernel_rfl
  have hn : n ≤ 9223372036854775807 := by have := h.2.2; omega
  have H := Lib.hid h
  clear h
  go_enter Try.func6, Try.ntmps6
  go_wp2
  go_loopw [6] (fun s6 wr => ∃ i : Nat, i ≤ n ∧ s6 = .int .i64 i ∧ (∀ j k v, j < i → es[j]? = some (k, v) → k ≠ q) ∧ w = wr) (fun s6 _ => n - (intOf s6).toNat)
  case atStart => exact ⟨0, Nat.zero_le _, rfl, fun j k v hj => absurd hj (by omega), rfl⟩
  case round =>
    obtain ⟨i, hi, rfl, hne, rfl⟩ := hrel
    by_cases hlt : i < n
    · obtain ⟨b, o, rfl, _, k, v, hk, c0, c1⟩ := H.out.at_ hlt
      have HNe := Lib.hid hne
      have HK := Lib.hid hk
      have hii : (i : Int) < (n : Int) := by omega
      have hib : (0 : Int) ≤ (i : Int) ∧ (i : Int) < (n : Int) := by omega
      clear hne hk
      by_cases hq : k = q
      · subst hq
        have hqq : (k.toList == k.toList) = true := beq_self_eq_true _
        have hd : decide (∃ e ∈ es, e.1 = k) = true := decide_eq_true ⟨(k, v), List.mem_of_getElem? HK.out, rfl⟩
        have HD := Lib.hid hd
        clear hd
        go_wp2
        go_ret2
        exact ⟨v, by rw [HD.out]; rfl, rfl⟩
      · have hqq : (k.toList == q.toList) = false := by rw [toList_inj]; exact decide_eq_false hq
        have hrel2 : ∀ j k v, j < i + 1 → es[j]? = some (k, v) → k ≠ q := fun j k' v' hj hk' => by
          by_cases e : j = i
          · subst e
            rw [HK.out] at hk'; cases hk'; exact hq
          · exact HNe.out j k' v' (by omega) hk'
        have HR2 := Lib.hid hrel2
        clear hrel2 hq
        go_wp2
        go_roundw
        case rel => exact ⟨i + 1, by omega, by go_num, HR2.out, (by first | trivial | rfl)⟩
        case measure => simp [intOf]; omega
    · obtain rfl : i = n := by omega
      have hd : decide (∃ e ∈ es, e.1 = q) = false := decide_eq_false (fun ⟨e, he, hq⟩ => by
        obtain ⟨j, hj, rfl⟩ := List.mem_iff_getElem.1 he
        exact hne j _ _ (by have := H.out.2.1; omega) (List.getElem?_eq_getElem hj) hq)
      have HD := Lib.hid hd
      clear hd hne
      go_wp2
      go_ret2
      exact ⟨_, by rw [HD.out]; rfl, rfl⟩
set_option maxHeartbeats 2000000 in
theorem same15_any {A B : Option Addr} {n c c' : Nat} {es : List Ent} {w : World} (h : EsR w A n c es) (k : EsR w B n c' es) : Calls Try.prog 9 #[.slice A n c, .slice B n c'] w fun e w' => e = .returned (.bool true) ∧ ∃ q, w' = w.drewN q := by
  have hsz : (Try.prog.info? 27).map (·.size) = some 2 := by kernel_rfl
  have hn : n ≤ 9223372036854775807 := by have := h.2.2; omega
  have H := Lib.hid h
  have K := Lib.hid k
  clear h k
  go_enter Try.func9, Try.ntmps9
  go_wp2
  go_loopw [5] (fun s6 wr => ∃ i : Nat, i ≤ n ∧ s6 = .int .i64 i ∧ ∃ q, wr = w.drewN q) (fun s6 _ => n - (intOf s6).toNat)
  case atStart => exact ⟨0, Nat.zero_le _, rfl, 0, rfl⟩
  case round =>
    obtain ⟨i, hi, rfl, q, rfl⟩ := hrel
    by_cases hlt : i < n
    · obtain ⟨b, o, rfl, _, k, v, hk, c0, c1⟩ := H.out.at_ hlt
      obtain ⟨b2, o2, rfl, _, k2, v2, hk2, c2, c3⟩ := K.out.at_ hlt
      rw [hk] at hk2
      cases hk2
      have hii : (i : Int) < (n : Int) := by omega
      have hib : (0 : Int) ≤ (i : Int) ∧ (i : Int) < (n : Int) := by omega
      clear hk
      go_upto_region 6 with fail
      go_quiet (fail)
      go_wp2
      go_roundw
      case rel => exact ⟨i + 1, by omega, by go_num, _, rfl⟩
      case measure => simp [intOf]; omega
    · obtain rfl : i = n := by omega
      go_wp2
      go_ret
      exact ⟨rfl, _, rfl⟩
end Go.Proofs.Ytdakohbfibcjeaa
