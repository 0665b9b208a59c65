/- net: Port as a call in a region that draws; the contract of Fail. -/
import Derived.Test.YtcbileongahhiaaGreatNet2
namespace Go.Proofs.YtcbileongahhiaaGreat.Ev
open Go Go.Proofs
set_option linter.unusedVariables false
set_option linter.unusedSimpArgs false

theorem fin_self {P : Program} {fn : Func} {m m1 : Mem} {v : AV} {e : Env} {vs : List AV} (hf : Fresh m1) (hn : m.next ≤ m1.next) (hres : resultsE P e m1 fn.results.toList = some vs) (hv : tupled vs = v) : Fin P fn m v m1 .ret e m1 :=
  ⟨trivial, vs, hres, by rw [hv]; exact Weak.refl hf hn⟩

def PortR (args : List AV) (m : Mem) (v : AV) (m' : Mem) : Prop :=
  ∀ (d : Nat) (live : List Bool) (p : Nat) (b : Bool), args = [.ptr (d + 5) 0, .int .i64 p, .bool b] → IsDev m d live → live.length = 17 → 1 ≤ p → p ≤ 16 → m'.next = m.next ∧ (∀ c, c ≠ d + 3 → m'.get c = m.get c) ∧ IsDev m' d (live.set p b)

theorem IsDev.uniq {m : Mem} {d : Nat} {l1 l2 : List Bool} (h1 : IsDev m d l1) (h2 : IsDev m d l2) : l1 = l2 := by
  have h := h1.live
  rw [h2.live] at h
  simp only [Option.some.injEq, Blk.row.injEq, true_and] at h
  have : ∀ (a b : List Bool), a.map AV.bool = b.map AV.bool → a = b := by
    intro a
    induction a with
    | nil => intro b hb; cases b with | nil => rfl | cons x y => cases hb
    | cons x y ih =>
      intro b hb
      cases b with
      | nil => cases hb
      | cons u w =>
        simp only [List.map_cons, List.cons.injEq, AV.bool.injEq] at hb
        rw [hb.1, ih w hb.2]
  exact (this _ _ h).symm

theorem port_contr {m : Mem} {d : Nat} {live : List Bool} {p : Nat} {b : Bool} (h : IsDev m d live) (hl : live.length = 17) (hp : 1 ≤ p) (hp2 : p ≤ 16) :
    ∃ r : AV × Mem, Contr Tryz.prog 0 42 [.ptr (d + 5) 0, .int .i64 p, .bool b] m r.1 r.2 ∧ PortR [.ptr (d + 5) 0, .int .i64 p, .bool b] m r.1 r.2 := by
  have hp3 : p < 17 := by omega
  have hat : m.cells (d + 3) p 1 = some [.bool live[p]] := by
    rw [cells_row h.live, if_pos (by simp; omega), ← List.map_drop, List.drop_eq_getElem_cons (by omega)]; rfl
  have hset : List.take p (List.map AV.bool live) ++ AV.bool b :: List.drop (p + 1) (List.map AV.bool live) = (live.set p b).map .bool := by
    rw [List.map_set, List.set_eq_take_append_cons_drop, if_pos (by simp; omega)]
  have hpost : ∀ m' : Mem, m'.next = m.next → (∀ c, c ≠ d + 3 → m'.get c = m.get c) → IsDev m' d (live.set p b) → ∀ v, PortR [.ptr (d + 5) 0, .int .i64 p, .bool b] m v m' := by
    intro m' h1 h2 h3 v d' live' p' b' he hD hl' hp' hp2'
    simp only [List.cons.injEq, AV.ptr.injEq, AV.int.injEq, AV.bool.injEq, and_true, true_and] at he
    obtain ⟨e1, e2, e3⟩ := he
    obtain rfl : d' = d := by omega
    obtain rfl : p' = p := by omega
    subst e3
    rw [IsDev.uniq hD h]
    exact ⟨h1, h2, h3⟩
  by_cases hb : live[p] = b
  · refine ⟨(.str [], m), ?_, hpost m rfl (fun _ _ => rfl) ?_ _⟩
    · refine contr_go (call := tab0) mixed sane Tryz.func42 rfl (by rw [Tryz.ntmps42]; exact Nat.le_of_ble_eq_true rfl) tab0_ok fun hfr => ?_
      simp -implicitDefEqProofs
      refine ⟨_, (has_ok h hp hp2).rel, ?_⟩
      rintro _ _ ⟨rfl, rfl⟩ hf1
      simp -implicitDefEqProofs [cells_row h.self, hp3, hat, hb]
      exact fin_self hf1 (Nat.le_refl _) rfl rfl
    · rw [show live.set p b = live by rw [← hb]; exact List.set_getElem_self (by omega)]
      exact h
  · obtain ⟨str, hsay⟩ := say_ok (m := m.set (d + 3) (.row true (some 0) 4 (List.take p (List.map AV.bool live) ++ AV.bool b :: List.drop (p + 1) (List.map AV.bool live)))) (b := b) hp hp2
    refine ⟨(.str str, _), ?_, hpost (m.set (d + 3) (.row true (some 0) 4 (List.take p (List.map AV.bool live) ++ AV.bool b :: List.drop (p + 1) (List.map AV.bool live)))) rfl (fun c hc => get_set_ne hc) ?_ _⟩
    · refine contr_go (call := tab0) mixed sane Tryz.func42 rfl (by rw [Tryz.ntmps42]; exact Nat.le_of_ble_eq_true rfl) tab0_ok fun hfr => ?_
      simp -implicitDefEqProofs
      refine ⟨_, (has_ok h hp hp2).rel, ?_⟩
      rintro _ _ ⟨rfl, rfl⟩ hf1
      have hp4 : p + 1 ≤ 17 := by omega
      simp -implicitDefEqProofs [cells_row h.self, hp3, hat, hb, h.live, hl, hp4]
      refine ⟨_, hsay.rel, ?_⟩
      rintro _ _ ⟨rfl, rfl⟩ hf2
      exact fin_self hf2 (Nat.le_refl _) rfl rfl
    · rw [hset]
      exact ⟨(get_set_ne (by omega)).trans h.flows, (get_set_ne (by omega)).trans h.gmap, (get_set_ne (by omega)).trans h.groups, get_set_same, (get_set_ne (by omega)).trans h.meters, (get_set_ne (by omega)).trans h.self⟩

open Classical in
/-- Port, as a function of what it is given -/
noncomputable def portSpec : Spec := fun args m =>
  if h : ∃ r : AV × Mem, Contr Tryz.prog 0 42 args m r.1 r.2 ∧ PortR args m r.1 r.2 then some h.choose else none
theorem portSpec_ok : SpecOk Tryz.prog 0 42 portSpec := by
  intro args m v m' h
  unfold portSpec at h
  split at h
  · rename_i hex
    injection h with h
    have := hex.choose_spec.1
    rw [h] at this
    exact this
  · cases h
theorem portSpec_at {m : Mem} {d : Nat} {live : List Bool} {p : Nat} {b : Bool} (h : IsDev m d live) (hl : live.length = 17) (hp : 1 ≤ p) (hp2 : p ≤ 16) :
    ∃ v m', portSpec [.ptr (d + 5) 0, .int .i64 p, .bool b] m = some (v, m') ∧ m'.next = m.next ∧ (∀ c, c ≠ d + 3 → m'.get c = m.get c) ∧ IsDev m' d (live.set p b) := by
  have hex := port_contr (b := b) h hl hp hp2
  refine ⟨hex.choose.1, hex.choose.2, ?_, hex.choose_spec.2 d live p b rfl h hl hp hp2⟩
  unfold portSpec
  rw [dif_pos hex]
end Go.Proofs.YtcbileongahhiaaGreat.Ev
