/- What a Put of a superblock leaves, by kistref10.Put. -/
import Derived.Test.YtdbhagnnpjcpmaaSupGets
import Derived.Test.YtdbhagnnpjcpmaaSupPutR
namespace Go.Proofs.Ytdbhagnnpjcpmaa
open Go.RowKit

theorem rsput_any (s : Sup) {A : Option Addr} {n c lo : Nat} {w : World} (hr : Vr w lo A n c s.vs) :
    Calls Try.prog 15 #[.agg #[.int .i64 s.gen, .int .i64 s.sec, .int .i64 s.next, .slice A n c]] w (SPut w s) := by
  by_cases h : supOk s
  · obtain ⟨gen, sec, next, vs⟩ := s
    have h' := h
    obtain ⟨⟨h1, h2, h3, h4, h5, h6, h7⟩, _⟩ := h'
    simp only at h1 h3 h5
    obtain ⟨G, rfl⟩ := Int.eq_ofNat_of_zero_le (show 0 ≤ gen by omega)
    obtain ⟨S, rfl⟩ := Int.eq_ofNat_of_zero_le (show 0 ≤ sec by omega)
    obtain ⟨N, rfl⟩ := Int.eq_ofNat_of_zero_le (show 0 ≤ next by omega)
    exact (rsput_ok G S N vs hr h).mono fun e w' h2 => .inl ⟨h, h2⟩
  · exact (rsput_no s hr h).mono fun e w' h2 => .inr ⟨h, h2⟩

end Go.Proofs.Ytdbhagnnpjcpmaa
