/- device: the contracts of State and Port of a new switch. -/
import Derived.Test.YtcbileongahhiaaGreatDev25
namespace Go.Proofs.YtcbileongahhiaaGreat.Ev
open Go Go.Proofs
set_option linter.unusedVariables false
set_option linter.unusedSimpArgs false

theorem state_ok {m : Mem} {d : Nat} (h : IsDev m d liveAll) (hd : d + 5 < m.next) : Contr Tryz.prog 0 35 [.ptr (d + 5) 0] m (.str []) m := by
  obtain ⟨mg, hr⟩ : ∃ mg, stateRun = some (.str [], mg) := run_some stateRun_v
  have hn := stateRun_n
  have hm := stateRun_m
  rw [hr] at hn hm
  simp only [Option.map_some, Option.some.injEq, List.cons.injEq, and_true] at hn hm
  have hn := Nat.le_of_ble_eq_true hn
  have key := contr_read (m := m) (old := [d, d + 1, d + 2, d + 3, d + 4, d + 5]) mixed sane primsOk (prims_none (by decide)) hr
    (by intro b hb; unfold devMem; exact ((((((Fresh.new (m := ⟨.nil, 0⟩) (fun b _ => rfl)).new).new).new).new).new) b hb) rfl (by simp) (by simp; omega) ?_ ?_ hn rfl
  · have e : AV.renL (emb [d, d + 1, d + 2, d + 3, d + 4, d + 5] m.next) [.ptr 5 0] = [.ptr (d + 5) 0] := rfl
    rw [e] at key
    exact key
  · intro b hb
    have hb' : b = 0 ∨ b = 1 ∨ b = 2 ∨ b = 3 ∨ b = 4 ∨ b = 5 := by simp at hb; omega
    rcases hb' with rfl | rfl | rfl | rfl | rfl | rfl
    · exact ⟨_, rfl, h.flows⟩
    · exact ⟨_, rfl, h.gmap⟩
    · exact ⟨_, rfl, h.groups⟩
    · exact ⟨_, rfl, h.live⟩
    · exact ⟨_, rfl, h.meters⟩
    · exact ⟨_, rfl, h.self⟩
  · intro b hb
    have hb' : b = 0 ∨ b = 1 ∨ b = 2 ∨ b = 3 ∨ b = 4 ∨ b = 5 := by simp at hb; omega
    rcases hb' with rfl | rfl | rfl | rfl | rfl | rfl
    · exact hm.1
    · exact hm.2.1
    · exact hm.2.2.1
    · exact hm.2.2.2.1
    · exact hm.2.2.2.2.1
    · exact hm.2.2.2.2.2

theorem has_ok {m : Mem} {d : Nat} {live : List Bool} {p : Nat} (h : IsDev m d live) (hp : 1 ≤ p) (hp2 : p ≤ 16) : Contr Tryz.prog 0 99 [.ptr (d + 5) 0, .int .i64 p] m (.bool true) m := by
  refine contr_go (call := tab0) mixed sane Tryz.func99 rfl (by rw [Tryz.ntmps99]; exact Nat.le_of_ble_eq_true rfl) tab0_ok fun hfr => ?_
  have h1 : (1 : Int) ≤ (p : Int) := by omega
  have h2 : (p : Int) < 17 := by omega
  simp -implicitDefEqProofs [cells_row h.self, h1, h2]
  exact fin_flat hfr Ext.refl trivial rfl rfl rfl

theorem port_ok {m : Mem} {d : Nat} {live : List Bool} {p : Nat} {b : Bool} (h : IsDev m d live) (hl : live.length = 17) (hp : 1 ≤ p) (hp2 : p ≤ 16) :
    ContrR Tryz.prog 0 42 [.ptr (d + 5) 0, .int .i64 p, .bool b] m fun v m' => m'.next = m.next ∧ (∀ c, c ≠ d + 3 → m'.get c = m.get c) ∧ IsDev m' d (live.set p b) := by
  refine contrR_go (call := tab0) mixed sane Tryz.func42 rfl (by rw [Tryz.ntmps42]; exact Nat.le_of_ble_eq_true rfl) tab0_ok fun Q hQ hfr => ?_
  simp -implicitDefEqProofs
  refine ⟨_, (has_ok h hp hp2).rel, ?_⟩
  rintro _ _ ⟨rfl, rfl⟩ hf1
  have hp3 : p < 17 := by omega
  have hat : m.cells (d + 3) p 1 = some [.bool live[p]] := by
    rw [cells_row h.live, if_pos (by simp; omega), ← List.map_drop, List.drop_eq_getElem_cons (by omega)]; rfl
  by_cases hb : live[p] = b
  · simp -implicitDefEqProofs [cells_row h.self, hp3, hat, hb]
    refine hQ _ _ _ rfl ⟨rfl, fun _ _ => rfl, ?_⟩
    rw [show live.set p b = live by rw [← hb]; exact List.set_getElem_self (by omega)]
    exact h
  · have hp4 : p + 1 ≤ 17 := by omega
    simp -implicitDefEqProofs [cells_row h.self, hp3, hat, hb, h.live, hl, hp4]
    obtain ⟨str, hsay⟩ := say_ok (m := m.set (d + 3) (.row true (some 0) 4 (List.take p (List.map AV.bool live) ++ AV.bool b :: List.drop (p + 1) (List.map AV.bool live)))) (b := b) hp hp2
    refine ⟨_, hsay.rel, ?_⟩
    rintro _ _ ⟨rfl, rfl⟩ hf2
    have hset : List.take p (List.map AV.bool live) ++ AV.bool b :: List.drop (p + 1) (List.map AV.bool live) = (live.set p b).map .bool := by
      rw [List.map_set, List.set_eq_take_append_cons_drop, if_pos (by simp; omega)]
    refine hQ _ _ _ rfl ⟨rfl, fun c hc => get_set_ne hc, ?_⟩
    rw [hset]
    exact ⟨(get_set_ne (by omega)).trans h.flows, (get_set_ne (by omega)).trans h.gmap, (get_set_ne (by omega)).trans h.groups, get_set_same, (get_set_ne (by omega)).trans h.meters, (get_set_ne (by omega)).trans h.self⟩
end Go.Proofs.YtcbileongahhiaaGreat.Ev
