/- append(xs, text...) where xs is the call's own. No condition. -/
import Derived.Test.YtnjpibbmgbiofaaOwn
import Derived.Lib.AppendStr
namespace Go.Proofs.Ytnjpibbmgbiofaa
open Go.RowKit

theorem strCells_bvs (s : ByteArray) : Lib.strCells s = bvs s.toList := by
  rw [ByteArray.toList_eq]; rfl
section
variable {P : Program}
theorem run_app_str (w : World) (base : Nat) (t u ty : TypeId) (ht : P.underlying t = some (.slice 5)) (hu : P.underlying u = some .string) (hi : (P.info? 5).map (fun i => (i.zero, i.size, i.bytes)) = some (some (.int .u8 0), 1, 1))
    (A : Option Addr) (n c : Nat) (xs : List Value) (hown : Own w base 5 1 A n c xs) (s : ByteArray) (hbytes : n + s.size ≤ 140737488355328) (hbase : base ≤ w.heap.size) :
    ∃ A' c' w', (Builtin.append_ #[t, u] ty #[.slice A n c, .string s]).run P w = .ok (.slice A' (n + s.size) c') w' ∧ Own w' base 5 1 A' (n + s.size) c' (xs ++ bvs s.toList) ∧ w.grownBy w' (ablk A) := by
  obtain ⟨i, hi', hz, hsz, hby⟩ := info_parts hi
  obtain ⟨v', w', hr, h2, h3, _⟩ := Lib.run_append_own_string (P := P) w base t u ty 5 i ht hu hi' hz hsz hby _ n xs hown s (by simp [maxLen]; omega) hbytes hbase
  rw [strCells_bvs] at h2
  have hv : ∃ A' c', v' = .slice A' (n + s.size) c' := by
    rcases h2.2 with ⟨h2, h0⟩ | ⟨g, cap, cur, h2, _⟩
    · exact ⟨none, 0, by rw [h2, h0]⟩
    · exact ⟨_, _, h2⟩
  obtain ⟨A', c', rfl⟩ := hv
  exact ⟨A', c', w', hr, h2, by cases A <;> exact h3⟩

theorem wpOp_app_str {w : World} {o : Oper} {a : Act} {K : Act → World → Prop} {Q : Exit → Act → World → Prop} (d x : Operand) (t u : TypeId)
    (ho : o.op = .call { callee := .builtin .append, args := #[d, x], argTypes := #[t, u] })
    (ht : P.underlying t = some (.slice 5)) (hu : P.underlying u = some .string) (hi : (P.info? 5).map (fun i => (i.zero, i.size, i.bytes)) = some (some (.int .u8 0), 1, 1))
    {base : Nat} {A : Option Addr} {n c : Nat} {xs : List Value} (hd : a.eval d = .slice A n c) (hown : Own w base 5 1 A n c xs) {s : ByteArray} (hx : a.eval x = .string s) (hbytes : n + s.size ≤ 140737488355328) (hbase : base ≤ w.heap.size)
    (h : ∀ A' c' w', Own w' base 5 1 A' (n + s.size) c' (xs ++ bvs s.toList) → w.grownBy w' (ablk A) → K (a.put o.dst (.slice A' (n + s.size) c')) w') : o.wp P a w K Q := by
  obtain ⟨A', c', w', hrun, h2, h3⟩ := run_app_str (P := P) w base t u o.type ht hu hi A n c xs hown s hbytes hbase
  unfold Oper.wp execOp
  simp only [ho, resolve, invoke, builtin, Sem.run_bind, Sem.run_pure, Result.andThen_ok, List.map_toArray, List.map_cons, List.map_nil, hd, hx, hrun]
  exact h A' c' w' h2 h3
theorem step_app_str {w : World} {ops : Array Oper} {o : Oper} {a : Act} {K : Act → World → Prop} {Q : Exit → Act → World → Prop} {E : Prop} (hgd : o.guard = none) (d x : Operand) (t u : TypeId)
    (ho : o.op = .call { callee := .builtin .append, args := #[d, x], argTypes := #[t, u] })
    (ht : P.underlying t = some (.slice 5)) (hu : P.underlying u = some .string) (hi : (P.info? 5).map (fun i => (i.zero, i.size, i.bytes)) = some (some (.int .u8 0), 1, 1))
    {base : Nat} {A : Option Addr} {n c : Nat} {xs : List Value} (hd : a.eval d = .slice A n c) (hown : Own w base 5 1 A n c xs) {s : ByteArray} (hx : a.eval x = .string s) (hbytes : n + s.size ≤ 140737488355328) (hbase : base ≤ w.heap.size)
    (h : ∀ A' c' w', Own w' base 5 1 A' (n + s.size) c' (xs ++ bvs s.toList) → w.grownBy w' (ablk A) → K (a.put o.dst (.slice A' (n + s.size) c')) w') :
    if Region.wanted o (yielded ops a.tmps) = true then Oper.wp P o a w K Q else E := by
  have hw : Region.wanted o (yielded ops a.tmps) = true := by simp [Region.wanted, hgd]
  rw [if_pos hw]
  exact wpOp_app_str d x t u ho ht hu hi hd hown hx hbytes hbase h
end
end Go.Proofs.Ytnjpibbmgbiofaa
