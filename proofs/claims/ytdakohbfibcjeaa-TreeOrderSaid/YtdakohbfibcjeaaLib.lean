/- The references' Same, over bytes that lie in memory. -/
import Derived.Test.YtdakohbfibcjeaaTvA
import Derived.Test.YtdakohbfibcjeaaProg
namespace Go.Proofs.Ytdakohbfibcjeaa
open Go.RowKit

theorem info5 : (Try.prog.info? 5).map (fun i => (i.zero, i.size, i.bytes)) = some (some (.int .u8 0), 1, 1) := by kernel_rfl
theorem size5 : (Try.prog.info? 5).map (·.size) = some 1 := by kernel_rfl

theorem own_bs {w : World} {base : Nat} {e : TypeId} {A : Option Addr} {n c : Nat} {l : List UInt8} (h : Own w base e 1 A n c (bvs l)) : Bs w base A n c l :=
  ⟨by simpa using h.len1, h.cap.1, h.cap.2, h.rd⟩

theorem conv_bs {P : Program} (src e dst : TypeId) (hs : P.underlying src = some (.slice e)) (he : P.underlying e = some (.int .u8)) (hd : P.underlying dst = some .string)
    {w : World} {lo : Nat} {A : Option Addr} {m c : Nat} {l : List UInt8} (h : Bs w lo A m c l) : (convert src dst (.slice A m c)).run P w = .ok (.string ⟨l.toArray⟩) w := by
  obtain ⟨rfl, _, _, hr⟩ := h
  rcases Nat.eq_zero_or_pos l.length with h0 | h0
  · obtain rfl := List.eq_nil_of_length_eq_zero h0
    rw [run_convert_bytes_string w src dst e _ _ c hs he hd]
    cases A <;> simp [Conv.bytesToString, loadCells]
    all_goals rfl
  · obtain ⟨b, o, rfl, _, _, hc⟩ := hr (by simpa using h0)
    refine run_convert_bytes_back w src dst e ⟨b, o, none⟩ c l hs he hd fun j hj => ?_
    rw [Addr.add_lit, hc j (by simpa using hj), bvs_get]

theorem list_beq (a b : List UInt8) : (a == b) = decide (a = b) := by rw [Bool.eq_iff_iff]; simp

theorem rd_none {w : World} {lo : Nat} {xs : List Value} (h : Rd w lo none xs) : xs = [] := by
  rcases Nat.eq_zero_or_pos xs.length with h0 | h0
  · exact List.eq_nil_of_length_eq_zero h0
  · obtain ⟨_, _, h, _⟩ := h h0
    cases h

end Go.Proofs.Ytdakohbfibcjeaa
