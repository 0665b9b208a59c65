/- topo: the contract of Ports. -/
import Derived.Test.YtcbileongahhiaaGreatTopo2
namespace Go.Proofs.YtcbileongahhiaaGreat.Ev
open Go Go.Proofs
set_option linter.unusedVariables false
set_option linter.unusedSimpArgs false

theorem ports_succ (T : TopoL) (sw : Int) (n : Nat) : T.ports sw (n + 1) = T.ports sw n ++ (if (look (sw, (n : Int) + 1) T.ends).isSome then [(n : Int) + 1] else []) := by
  simp only [TopoL.ports, List.range_succ, List.map_append, List.filter_append, List.map_cons, List.map_nil]
  congr 1
  simp only [List.filter_cons, List.filter_nil]

theorem ports_len (T : TopoL) (sw : Int) (n : Nat) : (T.ports sw n).length ≤ n := by
  unfold TopoL.ports
  refine Nat.le_trans (List.length_filter_le _ _) ?_
  simp

theorem ports_ok {m : Mem} {b eb hb : Nat} {cv : AV} {T : TopoL} {sw : Int} (h : IsTopo m b eb hb cv T) : ContrR Tryz.prog 0 82 [.ptr b 0, .int .i64 sw] m (fun v m' => Ext m m' ∧ OwnS m' m.next v 3 1 (T.ports sw 16).length ((T.ports sw 16).map (.int .i64))) := by
  refine contrR_go (call := tab0) mixed sane Tryz.func82 rfl (by rw [Tryz.ntmps82]; exact Nat.le_of_ble_eq_true rfl) tab0_ok fun Q hQ hfr => ?_
  simp -implicitDefEqProofs [cells_row h.self]
  refine runLoop_by (fun n e m' => Ext m m' ∧ e 0 = some (.ptr b 0) ∧ e 1 = some (.int .i64 sw) ∧ ∃ k out, k ≤ 16 ∧ n = 16 - k ∧ e 6 = some (.int .i64 ((k : Int) + 1)) ∧ e 5 = some out ∧ OwnS m' m.next out 3 1 (T.ports sw k).length ((T.ports sw k).map (.int .i64))) 16 ?_ ?_
  · refine ⟨Ext.refl, rfl, rfl, 0, .nils, by omega, rfl, rfl, rfl, .inl ⟨rfl, rfl, rfl⟩⟩
  rintro L hL1 hL2 hL3 n e m' ⟨hx, e0, e1, k, out, hk, rfl, e6, e5, hown⟩ hf'
  have h' := h.ext hfr hx
  have hxn := hx.1
  have hlen := ports_len T sw k
  have hb' := hf'.lt h'.self
  have heb := hf'.lt h'.ends
  have hne : ∀ k, ¬ b = m'.next + k := fun k => by omega
  have hne0 : ¬ b = m'.next := by omega
  have hee0 : ¬ eb = m'.next := by omega
  by_cases hk16 : k < 16
  · have hle : ((k : Int) + 1) ≤ 16 := by omega
    have hw : IntKind.i64.wrap ((k : Int) + 1 + 1) = (k : Int) + 1 + 1 := wrap_i64 (by omega)
    have hs := ports_succ T sw k
    cases hl : look (sw, (k : Int) + 1) T.ends with
    | none =>
      rw [hl] at hs
      simp only [Option.isSome_none, Bool.false_eq_true, if_false, List.append_nil] at hs
      simp -implicitDefEqProofs [cells_row h'.self, h'.ends, e0, e1, e5, e6, hle, hl, hw, hne, hne0, hee0, hL1]
      refine ⟨15 - k, by omega, by (repeat' first | with_reducible exact Ext.refl | with_reducible assumption | with_reducible apply Ext.grow | with_reducible apply Ext.new | with_reducible refine Ext.set ?_ ?_ | with_reducible refine Ext.kill ?_ ?_ | (simp only [next_new, next_set, next_grow, next_kill]; omega) | omega), k + 1, ?_⟩
      refine ⟨by omega, by omega, by simp, ?_⟩
      rw [hs]
      rcases hown with h1 | ⟨ob, h0, h1, h2, h3, h4⟩
      · exact .inl h1
      · refine .inr ⟨ob, h0, ?_, h2, h3, ?_⟩
        · rw [get_set_ne (by omega), get_new_ne (by omega)]; exact h1
        · simp only [next_set, next_new]; omega
    | some p =>
      rw [hl] at hs
      simp only [Option.isSome_some, if_true] at hs
      rcases hown with ⟨rfl, h1, h2⟩ | ⟨ob, rfl, h1, h2, h3, h4⟩
      · simp -implicitDefEqProofs [cells_row h'.self, h'.ends, e0, e1, e5, e6, hle, hl, hw, hne, hne0, hee0, encEnd, hL1]
        refine ⟨15 - k, by omega, by (repeat' first | with_reducible exact Ext.refl | with_reducible assumption | with_reducible apply Ext.grow | with_reducible apply Ext.new | with_reducible refine Ext.set ?_ ?_ | with_reducible refine Ext.kill ?_ ?_ | (simp only [next_new, next_set, next_grow, next_kill]; omega) | omega), k + 1, ?_⟩
        refine ⟨by omega, by omega, by simp, ?_⟩
        rw [hs]
        refine .inr ⟨m'.next + 1 + 1, by simp [h1], by simp -implicitDefEqProofs [h2], by simp [h1], by omega, by simp⟩
      · have hob : ∀ k, ¬ ob = m'.next + k := fun k => by omega
        have hob0 : ¬ ob = m'.next := by omega
        have hsz : ((T.ports sw k).length + 1) * 8 ≤ 1099511627776 ∧ (T.ports sw k).length + 1 ≤ 1099511627776 := by omega
        have hns : ¬ ((T.ports sw k).length + 1 ≤ (T.ports sw k).length) := by omega
        simp -implicitDefEqProofs [cells_row h'.self, h'.ends, e0, e1, e5, e6, hle, hl, hw, hne, hne0, hee0, encEnd, h1, h2, hob, hob0, cells_row h1, hL1, hsz, hns]
        refine ⟨15 - k, by omega, by (repeat' first | with_reducible exact Ext.refl | with_reducible assumption | with_reducible apply Ext.grow | with_reducible apply Ext.new | with_reducible refine Ext.set ?_ ?_ | with_reducible refine Ext.kill ?_ ?_ | (simp only [next_new, next_set, next_grow, next_kill]; omega) | omega), k + 1, ?_⟩
        refine ⟨by omega, by omega, by simp, ?_⟩
        rw [hs]
        refine .inr ⟨m'.next + 1 + 1, by simp, by simp -implicitDefEqProofs [List.take_of_length_le], by simp, by omega, by simp⟩
  · simp -implicitDefEqProofs [e0, e1, e5, e6, show ¬ ((k : Int) + 1) ≤ 16 by omega, hL2]
    obtain rfl : k = 16 := by omega
    exact hQ _ _ _ rfl ⟨hx, hown⟩
end Go.Proofs.YtcbileongahhiaaGreat.Ev
