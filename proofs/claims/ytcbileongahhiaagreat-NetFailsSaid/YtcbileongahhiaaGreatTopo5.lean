/- topo: the contract of New. -/
import Derived.Test.YtcbileongahhiaaGreatTopo4
namespace Go.Proofs.YtcbileongahhiaaGreat.Ev
open Go Go.Proofs
set_option linter.unusedVariables false
set_option linter.unusedSimpArgs false

def joinAll : TopoL → Nat → List LinkL → Option TopoL
  | T, _, [] => some T
  | T, n, x :: xs => if rightL x T.size = true then (T.join ((n : Int) + 1) x).bind fun T' => joinAll T' (n + 1) xs else none

def newT (size : Int) (links : List LinkL) : Option TopoL :=
  if size < 1 ∨ 32 < size ∨ 64 < links.length then none else joinAll ⟨size, [], []⟩ 0 links

theorem join_size {T T' : TopoL} {n : Int} {x : LinkL} (h : T.join n x = some T') : T'.size = T.size := by
  unfold TopoL.join at h
  split at h <;> split at h
  all_goals first
    | (cases h; done)
    | (injection h with h; rw [← h])

theorem right_host {x : LinkL} {size : Int} (h : rightL x size = true) : x.b < 0 → -64 ≤ x.b := by
  intro hb
  unfold rightL at h
  repeat' split at h
  all_goals first | omega | simp_all

def NewPost (m : Mem) (size : Int) (links : List LinkL) (v : AV) (m' : Mem) : Prop :=
  Ext m m' ∧ (newT size links = none → v = .tup [.nilp, .int .i64 42]) ∧
    ∀ T, newT size links = some T → ∃ b eb hb cv, v = .tup [.ptr b 0, .int .i64 0] ∧ IsTopo m' b eb hb cv T

theorem OwnS.ext {m m' : Mem} {lo E esz n : Nat} {v : AV} {cells : List AV} (h : OwnS m lo v E esz n cells) (hx : Ext m m') : OwnS m' lo v E esz n cells := by
  rcases h with h | ⟨b, h1, h2, h3, h4, h5⟩
  · exact .inl h
  · exact .inr ⟨b, h1, (hx.2 b h5).trans h2, h3, h4, Nat.lt_of_lt_of_le h5 hx.1⟩

theorem ext_below {m m' m2 : Mem} (h : Ext m m') (k : Below' m.next m' m2) : Ext m m2 := ⟨Nat.le_trans h.1 k.2.1, fun b hb => (k.2.2 b hb).trans (h.2 b hb)⟩

set_option maxHeartbeats 1000000 in
theorem new_ok {m : Mem} {size : Int} {s : AV} {links : List LinkL} (hs : Sl m s 5 (links.map LinkL.av)) :
    ContrR Tryz.prog 0 23 [.int .i64 size, s] m (NewPost m size links) := by
  refine contrR_go (call := tab0) mixed sane Tryz.func23 rfl (by rw [Tryz.ntmps23]; exact Nat.le_of_ble_eq_true rfl) tab0_ok fun Q hQ hfr => ?_
  have hQ' : ∀ e m1 v w, e 4 = some v → e 5 = some w → NewPost m size links (.tup [v, w]) m1 → Q .ret e m1 := fun e m1 v w h1 h2 h3 => hQ e m1 [v, w] (by rw [Tryz.results23]; simp [h1, h2]) h3
  clear hQ
  have hlenv : (∃ n, lenAV s = some n ∧ n = links.length) := by
    rcases hs with ⟨rfl, h⟩ | ⟨b, off, cap, ex, rfl, _⟩
    · exact ⟨0, rfl, by simpa using (congrArg List.length h).symm⟩
    · exact ⟨_, rfl, by simp⟩
  have hbad : size < 1 ∨ 32 < size ∨ 64 < links.length → newT size links = none := fun h => by unfold newT; rw [if_pos h]
  have fin0 : ∀ {e : Env} {m1 : Mem}, e 4 = some .nilp → e 5 = some (.int .i64 42) → newT size links = none → Ext m m1 → Q .ret e m1 := by
    intro e m1 h4 h5 hn hx
    refine hQ' _ _ _ _ h4 h5 ⟨hx, fun _ => rfl, fun T hT => ?_⟩
    rw [hn] at hT; cases hT
  by_cases h1 : size < 1
  · simp -implicitDefEqProofs [h1]
    exact fin0 rfl rfl (hbad (.inl h1)) Ext.refl
  by_cases h2 : 32 < size
  · simp -implicitDefEqProofs [h1, h2]
    exact fin0 rfl rfl (hbad (.inr (.inl h2))) Ext.refl
  by_cases h3 : 64 < links.length
  · have h3' : (64 : Int) < (links.length : Int) := by omega
    rcases hs with ⟨rfl, h⟩ | ⟨b, off, cap, ex, rfl, _⟩
    · have : links = [] := by simpa using h
      subst this
      simp at h3
    · simp -implicitDefEqProofs [h1, h2, h3, h3']
      exact fin0 rfl rfl (hbad (.inr (.inr h3))) Ext.refl
  have hnew : newT size links = joinAll ⟨size, [], []⟩ 0 links := by unfold newT; rw [if_neg (by omega)]
  have h3' : ¬ (64 : Int) < (links.length : Int) := by omega
  have hlen : links.length < 1000000 := by omega
  have hs0 := hs
  rcases hs with ⟨rfl, h⟩ | ⟨sb, off, cap, ex, rfl, hc, hrow⟩
  · obtain rfl : links = [] := by simpa using h
    simp -implicitDefEqProofs [h1, h2]
    refine runLoop_by (fun n e m' => e = _ ∧ m' = _) 0 ⟨rfl, rfl⟩ ?_
    rintro L hL1 hL2 hL3 n e m' ⟨rfl, rfl⟩ hf'
    simp -implicitDefEqProofs [hL2]
    refine hQ' _ _ _ _ rfl rfl ⟨by (repeat' first | with_reducible exact Ext.refl | with_reducible assumption | with_reducible apply Ext.grow | with_reducible apply Ext.new | with_reducible refine Ext.set ?_ ?_ | with_reducible refine Ext.kill ?_ ?_ | (simp only [next_new, next_set, next_grow, next_kill]; omega) | omega), fun hn => ?_, fun T hT => ?_⟩
    · rw [hnew] at hn; simp [joinAll] at hn
    · rw [hnew] at hT
      simp only [joinAll, Option.some.injEq] at hT
      subst hT
      exact ⟨_, m.next, m.next + 1, .nils, rfl, ⟨by simp -implicitDefEqProofs [Nat.add_assoc], by simp -implicitDefEqProofs [Nat.add_assoc, mapEs], by simp -implicitDefEqProofs [Nat.add_assoc, mapEs]⟩⟩
  · simp -implicitDefEqProofs [h1, h2, h3, h3']
    obtain ⟨I, hI⟩ : ∃ I : Nat → Env → Mem → Prop, I = (fun n e m' => Ext m m' ∧ e 0 = some (.int .i64 size) ∧ e 25 = some (.slc sb off links.length cap 5 ex) ∧ e 26 = some (.int .i64 links.length) ∧ ∃ k T b eb hb cv cs, k ≤ links.length ∧ n = links.length - k ∧ e 27 = some (.int .i64 (k : Nat)) ∧ e 6 = some (.ptr b 0) ∧
      IsTopo m' b eb hb cv T ∧ OwnS m' m.next cv 120 1 k cs ∧ m.next ≤ b ∧ m.next ≤ eb ∧ m.next ≤ hb ∧ eb ≠ hb ∧ (∀ c o l k e ex, cv = .slc c o l k e ex → c ≠ b) ∧ T.size = size ∧ joinAll ⟨size, [], []⟩ 0 links = joinAll T k (links.drop k)) := ⟨_, rfl⟩
    refine runLoop_by I links.length ?_ ?_
    · rw [hI]
      refine ⟨by (repeat' first | with_reducible exact Ext.refl | with_reducible assumption | with_reducible apply Ext.grow | with_reducible apply Ext.new | with_reducible refine Ext.set ?_ ?_ | with_reducible refine Ext.kill ?_ ?_ | (simp only [next_new, next_set, next_grow, next_kill]; omega) | omega), rfl, by simp, by simp, 0, ⟨size, [], []⟩, m.next + 1 + 1, m.next, m.next + 1, .nils, [], by omega, by omega, rfl, rfl, ⟨by simp -implicitDefEqProofs [Nat.add_assoc], by simp -implicitDefEqProofs [Nat.add_assoc, mapEs], by simp -implicitDefEqProofs [Nat.add_assoc, mapEs]⟩, .inl ⟨rfl, rfl, rfl⟩, by omega, by omega, by omega, by omega, (by intro c o l k e ex h; cases h), rfl, rfl⟩
    intro L hL1 hL2 hL3 n e m' hin hf'
    rw [hI] at hin
    obtain ⟨hx, e0, e25, e26, k, T, b, eb, hb, cv, cs, hk, rfl, e27, e6, hT, hown, hbl, hel, hhl, heh, hcb, hsz, hj⟩ := hin
    have hxn := hx.1
    have hw : IntKind.i64.wrap ((k : Int) + 1) = (k : Int) + 1 := wrap_i64 (by omega)
    by_cases hkl : k < links.length
    · have hat := (hx.sl hfr hs0)
      have hat : m'.cells sb (off + k * 5) 5 = some (LinkL.av links[k]) := by
        have h5 := Sl.at (by simpa using hat) (i := k) (by simpa using hkl)
        rw [h5]; simp
      have hsn : ¬ sb = m'.next := by
        obtain ⟨o, fz, t, l, h6, _⟩ := cells_some hat
        have := hf'.lt h6
        omega
      have hdrop : links.drop k = links[k] :: links.drop (k + 1) := by rw [List.drop_eq_getElem_cons hkl]
      rw [hdrop, joinAll, hsz] at hj
      simp -implicitDefEqProofs [e0, e25, e26, e27, e6, hkl, hat, hsn, LinkL.av]
      refine ⟨_, (right_ok (x := links[k]) (size := size)).rel, ?_⟩
      rintro _ _ ⟨rfl, rfl⟩ hf2
      cases hr : rightL links[k] size with
      | false =>
        simp -implicitDefEqProofs [e0, e25, e26, e27, e6, hL3]
        rw [hr] at hj
        simp only [Bool.false_eq_true, if_false] at hj
        exact fin0 rfl rfl (hnew.trans hj) (by (repeat' first | with_reducible exact Ext.refl | with_reducible assumption | with_reducible apply Ext.grow | with_reducible apply Ext.new | with_reducible refine Ext.set ?_ ?_ | with_reducible refine Ext.kill ?_ ?_ | (simp only [next_new, next_set, next_grow, next_kill]; omega) | omega))
      | true =>
        rw [hr] at hj
        simp only [if_true] at hj
        simp -implicitDefEqProofs [e0, e25, e26, e27, e6]
        have hxM : Ext m' ((m'.new (.row true (some 0) 122 [.int .i64 0, .int .i64 0, .int .i64 0, .int .i64 0, .flt .f64 0])).set m'.next (.row true (some 0) 122 [.int .i64 links[k].a, .int .i64 links[k].pa, .int .i64 links[k].b, .int .i64 links[k].pb, .flt .f64 links[k].c])) := by (repeat' first | with_reducible exact Ext.refl | with_reducible assumption | with_reducible apply Ext.grow | with_reducible apply Ext.new | with_reducible refine Ext.set ?_ ?_ | with_reducible refine Ext.kill ?_ ?_ | (simp only [next_new, next_set, next_grow, next_kill]; omega) | omega)
        refine ⟨_, join_ok (lo := m.next) (x := links[k]) (hT.ext hf' hxM) (hown.ext hxM) (by omega) (right_host hr) hbl hel hhl heh hcb (by simp only [next_set, next_new]; omega), ?_⟩
        rintro _ m2 ⟨hb2, rfl, hjT⟩ hf3
        have hx2 := ext_below ((hx.trans hxM)) hb2
        cases hjn : T.join ((k : Int) + 1) links[k] with
        | none =>
          rw [hjn] at hj
          simp -implicitDefEqProofs [e0, e25, e26, e27, e6, hL3]
          exact fin0 rfl rfl (hnew.trans hj) hx2
        | some T' =>
          rw [hjn] at hj
          obtain ⟨cv', hT', hown', hcb'⟩ := hjT T' hjn
          simp -implicitDefEqProofs [e0, e25, e26, e27, e6, hL1, hw]
          refine ⟨links.length - (k + 1), by omega, ?_⟩
          rw [hI]
          exact ⟨hx2, by simp [e0], by simp [e25], by simp [e26], k + 1, T', b, eb, hb, cv', _, by omega, rfl, by simp, by simp [e6], hT', hown', hbl, hel, hhl, heh, hcb', (join_size hjn).trans hsz, hj⟩
    · obtain rfl : k = links.length := by omega
      simp -implicitDefEqProofs [e26, e27, e6, hL2]
      rw [List.drop_length, joinAll] at hj
      refine hQ' _ _ _ _ rfl rfl ⟨hx, fun hn => ?_, fun T' hT' => ?_⟩
      · rw [hnew, hj] at hn; cases hn
      · rw [hnew, hj] at hT'
        injection hT' with hT'
        subst hT'
        exact ⟨b, eb, hb, cv, rfl, hT⟩
end Go.Proofs.YtcbileongahhiaaGreat.Ev
