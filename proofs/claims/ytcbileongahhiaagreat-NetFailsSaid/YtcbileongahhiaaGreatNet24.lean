/- Layer 24: few, at, State; what a topology has and that ports come back; the walk of NetFails; its arguments, read. -/
import Derived.Test.YtcbileongahhiaaGreatNet4
import Derived.Test.YtcbileongahhiaaGreatAwake24
import Derived.Test.YtcbileongahhiaaGreatEvArgs
/- net: the contracts of few, at and State. -/
namespace Go.Proofs.YtcbileongahhiaaGreat.Ev
open Go Go.Proofs
set_option linter.unusedVariables false
set_option linter.unusedSimpArgs false

theorem few_ok {m : Mem} {sz : Int} {s sd : AV} {n : Nat} (hl : (s = .nils ∧ n = 0) ∨ ∃ b off cap ex, s = .slc b off n cap 5 ex) :
    Contr Tryz.prog 0 24 [.agg [.int .i64 sz, s, sd], .agg [.int .i64 0, .int .i64 0, .str [], .int .i64 0, .nils, .bool false]] m (.bool (decide (n ≤ 20) && decide (sz ≤ 6))) m := by
  refine contr_go (call := tab0) mixed sane Tryz.func24 rfl (by rw [Tryz.ntmps24]; exact Nat.le_of_ble_eq_true rfl) tab0_ok fun hfr => ?_
  by_cases h1 : n ≤ 20
  · have h1' : (n : Int) ≤ 20 := by omega
    by_cases h2 : sz ≤ 6
    · rcases hl with ⟨rfl, rfl⟩ | ⟨b, off, cap, ex, rfl⟩
      · simp -implicitDefEqProofs [h2]
        exact fin_flat hfr (by (repeat' first | with_reducible exact Ext.refl | with_reducible assumption | with_reducible apply Ext.grow | with_reducible apply Ext.new | with_reducible refine Ext.set ?_ ?_ | with_reducible refine Ext.kill ?_ ?_ | (simp only [next_new, next_set, next_grow, next_kill]; omega) | omega)) trivial rfl rfl rfl
      · simp -implicitDefEqProofs [h1, h1', h2]
        exact fin_flat hfr (by (repeat' first | with_reducible exact Ext.refl | with_reducible assumption | with_reducible apply Ext.grow | with_reducible apply Ext.new | with_reducible refine Ext.set ?_ ?_ | with_reducible refine Ext.kill ?_ ?_ | (simp only [next_new, next_set, next_grow, next_kill]; omega) | omega)) trivial rfl rfl rfl
    · rcases hl with ⟨rfl, rfl⟩ | ⟨b, off, cap, ex, rfl⟩
      · simp -implicitDefEqProofs [h2]
        exact fin_flat hfr (by (repeat' first | with_reducible exact Ext.refl | with_reducible assumption | with_reducible apply Ext.grow | with_reducible apply Ext.new | with_reducible refine Ext.set ?_ ?_ | with_reducible refine Ext.kill ?_ ?_ | (simp only [next_new, next_set, next_grow, next_kill]; omega) | omega)) trivial rfl rfl rfl
      · simp -implicitDefEqProofs [h1, h1', h2]
        exact fin_flat hfr (by (repeat' first | with_reducible exact Ext.refl | with_reducible assumption | with_reducible apply Ext.grow | with_reducible apply Ext.new | with_reducible refine Ext.set ?_ ?_ | with_reducible refine Ext.kill ?_ ?_ | (simp only [next_new, next_set, next_grow, next_kill]; omega) | omega)) trivial rfl rfl rfl
  · have h1' : ¬ (n : Int) ≤ 20 := by omega
    rcases hl with ⟨rfl, rfl⟩ | ⟨b, off, cap, ex, rfl⟩
    · omega
    · simp -implicitDefEqProofs [h1, h1']
      exact fin_flat hfr (by (repeat' first | with_reducible exact Ext.refl | with_reducible assumption | with_reducible apply Ext.grow | with_reducible apply Ext.new | with_reducible refine Ext.set ?_ ?_ | with_reducible refine Ext.kill ?_ ?_ | (simp only [next_new, next_set, next_grow, next_kill]; omega) | omega)) trivial rfl rfl rfl

section
variable {m : Mem} {lo tb nb sb lb wb : Nat} {ex : Bool} {dl : List Nat} {ll : List (Int × LkL)} {dn : List (Int × Bool)} {lives : Nat → List Bool}

theorem at_ok (h : IsNet m lo tb nb sb lb wb ex dl ll dn lives) {i d : Nat} (hd : dl[i]? = some d) :
    Contr Tryz.prog 0 84 [.ptr nb 0, .int .i64 ((i : Int) + 1)] m (.ptr (d + 5) 0) m := by
  refine contr_go (call := tab0) mixed sane Tryz.func84 rfl (by rw [Tryz.ntmps84]; exact Nat.le_of_ble_eq_true rfl) tab0_ok fun hfr => ?_
  have hi := (List.getElem?_eq_some_iff.1 hd).1
  have hdd : dl[i] = d := (List.getElem?_eq_some_iff.1 hd).2
  have hsw : m.cells sb (i + 1) 1 = some [.ptr (dl[i] + 5) 0] := by
    rw [cells_row h.sw, if_pos (by simp; omega), List.drop_succ_cons, ← List.map_drop, List.drop_eq_getElem_cons hi]; rfl
  rw [hdd] at hsw
  have hit : ((i : Int) + 1).toNat = i + 1 := by omega
  have hi0 : (0 : Int) ≤ (i : Int) + 1 := by omega
  have h1 : ¬ ((i : Int) + 1 < 1) := by omega
  have h2 : ¬ ((dl.length : Int) + 1 ≤ (i : Int) + 1) := by omega
  have h3 : ¬ ((dl.length : Int) ≤ (i : Int)) := by omega
  have h4 : ¬ (dl.length ≤ i) := by omega
  simp -implicitDefEqProofs [cells_row h.net, hsw, hit, hi0, hi, h1, h2, h3, h4]
  exact fin_self hfr (Nat.le_refl _) rfl rfl

theorem netState_ok (h : IsNet m lo tb nb sb lb wb ex dl ll dn lives) {i d : Nat} (hd : dl[i]? = some d) (hlv : lives i = liveAll) :
    ContrR Tryz.prog 0 47 [.ptr nb 0, .int .i64 ((i : Int) + 1)] m fun v m' => v = .str [] ∧ m' = m := by
  refine contrR_go (call := tab0) mixed sane Tryz.func47 rfl (by rw [Tryz.ntmps47]; exact Nat.le_of_ble_eq_true rfl) tab0_ok fun Q hQ hfr => ?_
  have D := (h.devs i d hd).1
  rw [hlv] at D
  simp -implicitDefEqProofs
  refine ⟨_, (at_ok h hd).rel, ?_⟩
  rintro _ _ ⟨rfl, rfl⟩ hf1
  refine ⟨_, (state_ok D (hf1.lt D.self)).rel, ?_⟩
  rintro _ _ ⟨rfl, rfl⟩ hf2
  exact hQ _ _ _ rfl ⟨rfl, rfl⟩
end
end Go.Proofs.YtcbileongahhiaaGreat.Ev

/- The plain law: what a topology of links has, and that ports come back. -/
namespace Go.Proofs.YtcbileongahhiaaGreat.Ev
open Go Go.Proofs
set_option linter.unusedVariables false
set_option linter.unusedSimpArgs false

/-- what is so of a topology behind some links -/
structure TopoOk (T : TopoL) (size : Int) (done : List LinkL) : Prop where
  of : ∀ sw p to port k, look (sw, p) T.ends = some (to, port, k) → ∃ (i : Nat) (x : LinkL), done[i]? = some x ∧ k = (i : Int) + 1 ∧ ((sw = x.a ∧ p = x.pa ∧ to = x.b) ∨ (sw = x.b ∧ p = x.pb ∧ to = x.a ∧ 0 < x.b))
  at_ : ∀ (i : Nat) x, done[i]? = some x → look (x.a, x.pa) T.ends = some (x.b, x.pb, (i : Int) + 1)
  right : ∀ x ∈ done, rightL x size = true
  size : T.size = size

theorem right_pos {x : LinkL} {size : Int} (h : rightL x size = true) (hb : ¬ x.b < 0) : 0 < x.b ∧ x.b ≠ x.a := by
  unfold rightL at h
  repeat' split at h
  all_goals first | omega | (cases h; done) | skip
  all_goals (constructor <;> omega)

theorem right_a {x : LinkL} {size : Int} (h : rightL x size = true) : 1 ≤ x.a ∧ x.a ≤ size ∧ 1 ≤ x.pa ∧ x.pa ≤ 16 := by
  unfold rightL at h
  repeat' split at h
  all_goals first | omega | (cases h; done) | skip
  all_goals omega

theorem TopoOk.push {T T' : TopoL} {size : Int} {done : List LinkL} {x : LinkL} (h : TopoOk T size done) (hr : rightL x size = true) (hj : T.join ((done.length : Int) + 1) x = some T') : TopoOk T' size (done ++ [x]) := by
  have hsz := (join_size hj).trans h.size
  unfold TopoL.join at hj
  have hold : ∀ {i : Nat} {y : LinkL}, done[i]? = some y → (done ++ [x])[i]? = some y := fun {i y} hi => by
    rw [List.getElem?_append_left (List.getElem?_eq_some_iff.1 hi).1]; exact hi
  have hlast : (done ++ [x])[done.length]? = some x := by simp
  have hidx : ∀ {i : Nat} {y : LinkL}, (done ++ [x])[i]? = some y → (i = done.length ∧ y = x) ∨ done[i]? = some y := fun {i y} hi => by
    by_cases hlt : i < done.length
    · rw [List.getElem?_append_left hlt] at hi; exact .inr hi
    · rw [List.getElem?_append_right (by omega)] at hi
      have h0 : i - done.length = 0 := by
        by_cases h0 : i - done.length = 0
        · exact h0
        · rw [List.getElem?_eq_none (by simp; omega)] at hi; cases hi
      rw [h0] at hi
      simp at hi
      exact .inl ⟨by omega, hi.symm⟩
  have hright : ∀ y ∈ done ++ [x], rightL y size = true := fun y hy => by
    rcases List.mem_append.1 hy with hy | hy
    · exact h.right y hy
    · simp at hy; subst hy; exact hr
  split at hj
  · rename_i hb
    split at hj
    · cases hj
    · rename_i hno
      injection hj with hj
      subst hj
      simp only [Bool.or_eq_true, Option.isSome_iff_ne_none, not_or, Classical.not_not, ne_eq] at hno
      refine ⟨fun sw p to port k hl => ?_, fun i y hi => ?_, hright, hsz⟩
      · rw [look_putAt] at hl
        split at hl
        · rename_i e
          injection e with e1 e2
          injection hl with hl
          injection hl with l1 l2
          injection l2 with l2 l3
          exact ⟨done.length, x, hlast, l3.symm, .inl ⟨e1, e2, l1.symm⟩⟩
        · obtain ⟨i, y, h1, h2, h3⟩ := h.of _ _ _ _ _ hl
          exact ⟨i, y, hold h1, h2, h3⟩
      · rw [look_putAt]
        rcases hidx hi with ⟨rfl, rfl⟩ | hi
        · rw [if_pos rfl]
        · have := h.at_ i y hi
          rw [if_neg (fun e => by rw [e, hno.2] at this; cases this)]
          exact this
  · rename_i hb
    have hp := right_pos hr hb
    split at hj
    · cases hj
    · rename_i hno
      injection hj with hj
      subst hj
      simp only [Bool.or_eq_true, Option.isSome_iff_ne_none, not_or, Classical.not_not, ne_eq] at hno
      refine ⟨fun sw p to port k hl => ?_, fun i y hi => ?_, hright, hsz⟩
      · rw [look_putAt] at hl
        split at hl
        · rename_i e
          injection e with e1 e2
          injection hl with hl
          injection hl with l1 l2
          injection l2 with l2 l3
          exact ⟨done.length, x, hlast, l3.symm, .inl ⟨e1, e2, l1.symm⟩⟩
        · rw [look_putAt] at hl
          split at hl
          · rename_i e
            injection e with e1 e2
            injection hl with hl
            injection hl with l1 l2
            injection l2 with l2 l3
            exact ⟨done.length, x, hlast, l3.symm, .inr ⟨e1, e2, l1.symm, hp.1⟩⟩
          · obtain ⟨i, y, h1, h2, h3⟩ := h.of _ _ _ _ _ hl
            exact ⟨i, y, hold h1, h2, h3⟩
      · rw [look_putAt]
        rcases hidx hi with ⟨rfl, rfl⟩ | hi
        · rw [if_pos rfl]
        · have := h.at_ i y hi
          rw [if_neg (fun e => by rw [e, hno.2] at this; cases this), look_putAt, if_neg (fun e => by rw [e, hno.1] at this; cases this)]
          exact this

theorem joinAll_ok {size : Int} : ∀ (rest : List LinkL) {T T' : TopoL} {done : List LinkL}, TopoOk T size done → joinAll T done.length rest = some T' → TopoOk T' size (done ++ rest)
  | [], T, T', done, h, hj => by
    simp only [joinAll, Option.some.injEq] at hj
    subst hj
    simpa using h
  | x :: rest, T, T', done, h, hj => by
    simp only [joinAll] at hj
    split at hj
    · rename_i hr
      rw [h.size] at hr
      cases hjn : T.join ((done.length : Int) + 1) x with
      | none => rw [hjn] at hj; cases hj
      | some T2 =>
        rw [hjn] at hj
        simp only [Option.bind_some] at hj
        have h2 := h.push hr hjn
        have := joinAll_ok rest (done := done ++ [x]) h2 (by simpa using hj)
        simpa using this
    · cases hj

theorem newT_ok {size : Int} {links : List LinkL} {T : TopoL} (h : newT size links = some T) : TopoOk T size links ∧ 1 ≤ size ∧ size ≤ 32 ∧ links.length ≤ 64 := by
  unfold newT at h
  split at h
  · cases h
  · rename_i hno
    have h0 : TopoOk ⟨size, [], []⟩ size [] := ⟨fun sw p to port k hl => (by cases hl), fun i x hi => (by simp at hi), fun x hx => (by cases hx), rfl⟩
    have := joinAll_ok links h0 h
    exact ⟨by simpa using this, by omega, by omega, by omega⟩

theorem mem_pairs {T : TopoL} : ∀ {N : Nat} {q : PlL}, q ∈ pairs T N ↔ ∃ i p : Nat, q = ((i : Int) + 1, (p : Int)) ∧ i < N ∧ 1 ≤ p ∧ p ≤ 16 ∧ (look ((i : Int) + 1, (p : Int)) T.ends).isSome
  | 0, q => by simp [pairs]
  | N + 1, q => by
    simp only [pairs, List.mem_append, mem_pairs (N := N), pairsAt, TopoL.ports, List.mem_map, List.mem_filter, List.mem_range]
    constructor
    · rintro (⟨i, p, h1, h2, h3, h4, h5⟩ | ⟨p, ⟨⟨j, hj, rfl⟩, h2⟩, rfl⟩)
      · exact ⟨i, p, h1, by omega, h3, h4, h5⟩
      · exact ⟨N, j + 1, by simp, by omega, by omega, by omega, by simpa using h2⟩
    · rintro ⟨i, p, rfl, h2, h3, h4, h5⟩
      by_cases hi : i < N
      · exact .inl ⟨i, p, rfl, hi, h3, h4, h5⟩
      · obtain rfl : i = N := by omega
        refine .inr ⟨(p : Int), ⟨⟨p - 1, by omega, by omega⟩, h5⟩, rfl⟩

/-- a number has ends just if it is a link of two switches -/
theorem ends_iff {size : Int} {links : List LinkL} {T : TopoL} {N : Nat} (h : TopoOk T size links) (hN : size = (N : Int)) (k : Int) :
    (pairs T N).filter (sel T k) ≠ [] ↔ ∃ (i : Nat) (x : LinkL), links[i]? = some x ∧ k = (i : Int) + 1 ∧ 0 < x.b := by
  constructor
  · intro hne
    obtain ⟨q, hq⟩ := List.exists_mem_of_ne_nil _ hne
    rw [List.mem_filter] at hq
    obtain ⟨h1, h2⟩ := hq
    simp only [sel, Bool.and_eq_true, decide_eq_true_eq] at h2
    cases hl : look (q.1, q.2) T.ends with
    | none =>
      have hp : (T.peer q.1 q.2).1 = 0 := by unfold TopoL.peer; rw [hl]; rfl
      have := h2.1
      rw [hp] at this
      exact absurd this (by decide)
    | some e =>
      obtain ⟨to, port, k'⟩ := e
      have hp : T.peer q.1 q.2 = (to, port, k') := by unfold TopoL.peer; rw [hl]; rfl
      rw [hp] at h2
      obtain ⟨h3, rfl⟩ := h2
      obtain ⟨i, x, g1, g2, g3⟩ := h.of _ _ _ _ _ hl
      refine ⟨i, x, g1, g2, ?_⟩
      rcases g3 with ⟨_, _, rfl⟩ | ⟨_, _, _, g4⟩
      · exact h3
      · exact g4
  · rintro ⟨i, x, hi, rfl, hb⟩ hnil
    have hr := right_a (h.right x (List.mem_of_getElem? hi))
    have hl := h.at_ i x hi
    have hmem : ((x.a, x.pa) : PlL) ∈ (pairs T N).filter (sel T ((i : Int) + 1)) := by
      rw [List.mem_filter]
      refine ⟨mem_pairs.2 ⟨(x.a - 1).toNat, x.pa.toNat, ?_, by omega, by omega, by omega, ?_⟩, ?_⟩
      · have e1 : (((x.a - 1).toNat : Nat) : Int) + 1 = x.a := by omega
        have e2 : ((x.pa.toNat : Nat) : Int) = x.pa := by omega
        rw [e1, e2]
      · have e1 : (((x.a - 1).toNat : Nat) : Int) + 1 = x.a := by omega
        have e2 : ((x.pa.toNat : Nat) : Int) = x.pa := by omega
        rw [e1, e2, hl]; rfl
      · simp [sel, TopoL.peer, hl, hb]
    rw [hnil] at hmem
    cases hmem

/-! ports that die, and live again -/
theorem setLives_append (f : Nat → List Bool) (A B : List PlL) (v : Bool) : setLives f (A ++ B) v = setLives (setLives f A v) B v := by
  simp [setLives]

theorem setLives_get (v : Bool) : ∀ (A : List PlL) (f : Nat → List Bool), (∀ q ∈ A, 0 ≤ q.2) → ∀ (i p : Nat), (setLives f A v i)[p]? = if (((i : Int) + 1, (p : Int)) : PlL) ∈ A then (f i)[p]?.map (fun _ => v) else (f i)[p]?
  | [], f, _, i, p => by simp [setLives]
  | q :: A, f, hq, i, p => by
    have e : setLives f (q :: A) v = setLives (setLive f q v) A v := rfl
    rw [e, setLives_get v A _ (fun r hr => hq r (by simp [hr])) i p]
    have h0 := hq q (by simp)
    have hone : (setLive f q v i)[p]? = if (((i : Int) + 1, (p : Int)) : PlL) = q then (f i)[p]?.map (fun _ => v) else (f i)[p]? := by
      unfold setLive
      by_cases h1 : (i : Int) + 1 = q.1
      · rw [if_pos h1, List.getElem?_set]
        by_cases h2 : q.2.toNat = p
        · have : (((i : Int) + 1, (p : Int)) : PlL) = q := by ext <;> simp <;> omega
          rw [if_pos h2, if_pos this, h2]
          cases hg : (f i)[p]? with
          | none =>
            have := List.getElem?_eq_none_iff.1 hg
            rw [if_neg (by omega)]; rfl
          | some y =>
            have := (List.getElem?_eq_some_iff.1 hg).1
            rw [if_pos this]; rfl
        · rw [if_neg h2, if_neg (fun e => h2 (by rw [← e]; simp))]
      · rw [if_neg h1, if_neg (fun e => h1 (by rw [← e]))]
    rw [hone]
    by_cases h1 : (((i : Int) + 1, (p : Int)) : PlL) = q
    · rw [if_pos h1]
      by_cases h2 : (((i : Int) + 1, (p : Int)) : PlL) ∈ A
      · rw [if_pos h2, if_pos (by simp [h2]), Option.map_map]; rfl
      · rw [if_neg h2, if_pos (by simp [h1])]
    · rw [if_neg h1]
      by_cases h2 : (((i : Int) + 1, (p : Int)) : PlL) ∈ A
      · rw [if_pos h2, if_pos (by simp [h2])]
      · rw [if_neg h2, if_neg (by simp [h1, h2])]

theorem lives_back (A : List PlL) (hA : ∀ q ∈ A, 1 ≤ q.2 ∧ q.2 ≤ 16) (i : Nat) : setLives (setLives (fun _ => liveAll) A false) A true i = liveAll := by
  have h0 : ∀ q ∈ A, 0 ≤ q.2 := fun q hq => by have := hA q hq; omega
  refine List.ext_getElem? fun p => ?_
  rw [setLives_get true A _ h0, setLives_get false A _ h0]
  by_cases hm : (((i : Int) + 1, (p : Int)) : PlL) ∈ A
  · rw [if_pos hm, if_pos hm]
    have hp := hA _ hm
    simp only at hp
    have h1 : p = 1 ∨ p = 2 ∨ p = 3 ∨ p = 4 ∨ p = 5 ∨ p = 6 ∨ p = 7 ∨ p = 8 ∨ p = 9 ∨ p = 10 ∨ p = 11 ∨ p = 12 ∨ p = 13 ∨ p = 14 ∨ p = 15 ∨ p = 16 := by omega
    rcases h1 with rfl | rfl | rfl | rfl | rfl | rfl | rfl | rfl | rfl | rfl | rfl | rfl | rfl | rfl | rfl | rfl <;> rfl
  · rw [if_neg hm, if_neg hm]
end Go.Proofs.YtcbileongahhiaaGreat.Ev

/- The law of layer 24: a link that fails and lives again leaves each switch as it was. -/
namespace Go.Proofs.YtcbileongahhiaaGreat.Ev
open Go Go.Proofs
set_option linter.unusedVariables false
set_option linter.unusedSimpArgs false

theorem pairs_mem_ok {T : TopoL} {N : Nat} {ll : List (Int × LkL)} (hll : ∀ k, linksOf ll k = (pairs T N).filter (sel T k)) {dl : List Nat} (hdl : dl.length = N) (k : Int) :
    ∀ p ∈ linksOf ll k, ∃ i q : Nat, p = ((i : Int) + 1, (q : Int)) ∧ i < dl.length ∧ 1 ≤ q ∧ q ≤ 16 := by
  intro p hp
  rw [hll, List.mem_filter] at hp
  obtain ⟨i, q, h1, h2, h3, h4, _⟩ := mem_pairs.1 hp.1
  exact ⟨i, q, h1, by omega, h3, h4⟩

theorem links_len {T : TopoL} {N : Nat} {ll : List (Int × LkL)} (hll : ∀ k, linksOf ll k = (pairs T N).filter (sel T k)) (hN : N ≤ 32) (k : Int) : (linksOf ll k).length < 1000 := by
  rw [hll]
  have h1 := List.length_filter_le (sel T k) (pairs T N)
  have h2 := pairs_len T N
  omega

theorem sl_keep {m1 mm : Mem} {v : AV} {esz : Nat} {rows : List (List AV)} (h : Sl m1 v esz rows) (hf : Fresh m1) (hk : ∀ c, c < m1.next → mm.get c = m1.get c) : Sl mm v esz rows := by
  rcases h with h | ⟨b, off, cap, ex, rfl, hc, hl⟩
  · exact .inl h
  · refine Sl.keep (.inr ⟨b, off, cap, ex, rfl, hc, hl⟩) ?_
    rintro b' _ _ _ _ _ h
    injection h with h1
    subst h1
    obtain ⟨o, fz, e, l, h1, _⟩ := cells_some hc
    exact hk _ (hf.lt h1)

theorem take_flat {ks : List Int} {j : Nat} (hj : j < ks.length) (f : Int → List PlL) : (ks.take (j + 1)).flatMap f = (ks.take j).flatMap f ++ f ks[j] := by
  rw [List.take_add_one, List.getElem?_eq_getElem hj, List.flatMap_append]
  simp

set_option maxHeartbeats 4000000 in
theorem netFails_ok {m : Mem} {sz : Int} {s sd ids : AV} {links : List LinkL} {ks : List Int} (hs : Sl m s 5 (links.map LinkL.av)) (hk : Sl m ids 1 (ks.map fun k => [AV.int .i64 k])) :
    ContrR Tryz.prog 0 10 [.agg [.int .i64 sz, s, sd], ids] m fun v m' => v = .bool true := by
  refine contrR_go (call := tab0) mixed sane Tryz.func10 rfl (by rw [Tryz.ntmps10]; exact Nat.le_of_ble_eq_true rfl) tab0_ok fun Q hQ hfr => ?_
  have d11 : ancsAt 11 Tryz.f10 = [0, 0, 3, 7, 15, 31, 63, 63, 255, 511, 63, 1087, 3135, 8191, 16383, 32767] := by kernel_rfl
  have d12 : ancsAt 12 Tryz.f10 = [0, 1, 0, 4, 12, 28, 12, 12, 204, 460, 972, 1996, 4092, 8188, 16380, 32764, 65532, 131071, 262143, 524287, 1048575, 2097151, 4194303, 8388607, 16777215, 33554431] := by kernel_rfl
  simp only [ancsAt, Tryz.f10, opsAt, Option.or_some, Option.none_or, Option.some_or, Option.or_none, Option.getD_none, Option.getD_some, if_true, if_false, reduceIte, Nat.reduceEqDiff] at d11 d12
  have hQ' : ∀ e m1, e 4 = some (.bool true) → Q .ret e m1 := fun e m1 h1 => hQ e m1 [.bool true] (by rw [Tryz.results10]; simp [h1]) rfl
  clear hQ
  have hlens : (s = .nils ∧ links.length = 0) ∨ ∃ b off cap ex, s = .slc b off links.length cap 5 ex := by
    rcases hs with ⟨rfl, h⟩ | ⟨b, off, cap, ex, rfl, _⟩
    · exact .inl ⟨rfl, by simpa using congrArg List.length h⟩
    · exact .inr ⟨b, off, cap, ex, by simp⟩
  simp -implicitDefEqProofs
  refine ⟨_, new_ok (size := sz) (links := links) (Ext.sl (by (repeat' first | with_reducible exact Ext.refl | with_reducible assumption | with_reducible apply Ext.grow | with_reducible apply Ext.new | with_reducible refine Ext.set ?_ ?_ | with_reducible refine Ext.kill ?_ ?_ | (simp only [next_new, next_set, next_grow, next_kill]; omega) | omega)) hfr hs), ?_⟩
  rintro _ m1 ⟨hx1, hnone, hsome⟩ hf1
  have hfew := few_ok (m := m1) (sz := sz) (s := s) (sd := sd) hlens
  have hbx : m1.get m.next = some (.row true (some 0) 63 [.int .i64 sz, s, sd]) := hx1.get (by (repeat' first | with_reducible assumption | with_reducible apply Fresh.new | with_reducible refine Fresh.set ?_ ?_ | with_reducible apply Fresh.kill | with_reducible apply Fresh.grow | (simp only [next_new, next_set, next_grow, next_kill]; omega) | omega)) get_new_same
  have hlenI : lenAV ids = some ks.length := by
    rcases hk with ⟨rfl, h⟩ | ⟨b, off, cap, ex, rfl, _⟩
    · have := congrArg List.length h
      simp at this
      rw [this]; rfl
    · simp [lenAV]
  have hlenS : lenAV s = some links.length := by
    rcases hlens with ⟨rfl, h⟩ | ⟨b, off, cap, ex, rfl⟩
    · rw [h]; rfl
    · rfl
  obtain ⟨fb, hfb⟩ : ∃ fb, fb = (decide (links.length ≤ 20) && decide (sz ≤ 6)) := ⟨_, rfl⟩
  rw [← hfb] at hfew
  cases hT : newT sz links with
  | none =>
    rw [hnone hT]
    simp -implicitDefEqProofs [cells_row hbx]
    refine ⟨_, hfew.rel, ?_⟩
    rintro _ _ ⟨rfl, rfl⟩ hf2
    cases fb
    all_goals
      simp -implicitDefEqProofs
      refine ⟨_, awake24_ok.rel, ?_⟩
      rintro _ _ ⟨rfl, rfl⟩ hf3
      exact hQ' _ _ rfl
  | some T =>
    obtain ⟨tb, eb, hb, cv, rfl, hTopo⟩ := hsome T hT
    simp -implicitDefEqProofs [cells_row hbx]
    refine ⟨_, hfew.rel, ?_⟩
    rintro _ _ ⟨rfl, rfl⟩ hf2
    cases fb with
    | false =>
      simp -implicitDefEqProofs
      refine ⟨_, awake24_ok.rel, ?_⟩
      rintro _ _ ⟨rfl, rfl⟩ hf3
      exact hQ' _ _ rfl
    | true =>
      obtain ⟨hOk, hsz1, hsz2, hl64⟩ := newT_ok hT
      have hszN : T.size = ((sz.toNat : Nat) : Int) := by rw [hOk.size]; omega
      obtain ⟨N, hN⟩ : ∃ N : Nat, N = sz.toNat := ⟨_, rfl⟩
      rw [← hN] at hszN
      have hszN' : sz = (N : Int) := by omega
      have hN32 : N ≤ 32 := by omega
      have hend := ends_iff hOk hszN'
      have hbxl : m.next < m1.next := hf1.lt hbx
      have hsl1 : Sl m1 s 5 (links.map LinkL.av) := Ext.sl hx1 (by (repeat' first | with_reducible assumption | with_reducible apply Fresh.new | with_reducible refine Fresh.set ?_ ?_ | with_reducible apply Fresh.kill | with_reducible apply Fresh.grow | (simp only [next_new, next_set, next_grow, next_kill]; omega) | omega)) (Ext.sl (by (repeat' first | with_reducible exact Ext.refl | with_reducible assumption | with_reducible apply Ext.grow | with_reducible apply Ext.new | with_reducible refine Ext.set ?_ ?_ | with_reducible refine Ext.kill ?_ ?_ | (simp only [next_new, next_set, next_grow, next_kill]; omega) | omega)) hfr hs)
      have hkl1 : Sl m1 ids 1 (ks.map fun k => [AV.int .i64 k]) := Ext.sl hx1 (by (repeat' first | with_reducible assumption | with_reducible apply Fresh.new | with_reducible refine Fresh.set ?_ ?_ | with_reducible apply Fresh.kill | with_reducible apply Fresh.grow | (simp only [next_new, next_set, next_grow, next_kill]; omega) | omega)) (Ext.sl (by (repeat' first | with_reducible exact Ext.refl | with_reducible assumption | with_reducible apply Ext.grow | with_reducible apply Ext.new | with_reducible refine Ext.set ?_ ?_ | with_reducible refine Ext.kill ?_ ?_ | (simp only [next_new, next_set, next_grow, next_kill]; omega) | omega)) hfr hk)
      rcases hk with ⟨rfl, hk0⟩ | ⟨ib, ioff, icap, iex, rfl, hkc, hkr⟩
      · simp -implicitDefEqProofs
        refine ⟨_, netNew_ok hTopo hszN hN32, ?_⟩
        rintro _ m2 ⟨hx2, nb, sb, lb, wb, ex, dl, ll, rfl, hnet, hdl, hll⟩ hf3
        simp -implicitDefEqProofs
        refine runLoop_by (fun n e m' => e = _ ∧ m' = _) 0 ⟨rfl, rfl⟩ ?_
        rintro La ha1 ha2 ha3 n e m' ⟨rfl, rfl⟩ hf'
        simp -implicitDefEqProofs [ha2]
        refine runLoop_by (fun n e m' => e = _ ∧ m' = _) 0 ⟨rfl, rfl⟩ ?_
        rintro Lb hb1 hb2 hb3 n e m' ⟨rfl, rfl⟩ hf'
        simp -implicitDefEqProofs [hb2]
        obtain ⟨M, rfl⟩ : ∃ M, M = m' := ⟨_, rfl⟩
        have hnM := hnet
        have hlvM : ∀ i : Nat, (fun _ : Nat => liveAll) i = liveAll := fun _ => rfl
        have hbxM := hx2.get hf1 hbx
        have e2 : True := trivial
        have e7 : True := trivial
        obtain ⟨I3, hI3⟩ : ∃ I : Nat → Env → Mem → Prop, I = fun n e mm => mm = M ∧ e 2 = some (.ptr m.next 0) ∧ e 7 = some (.ptr nb 0) ∧ ∃ i, i ≤ N ∧ n = N - i ∧ e 13 = some (.int .i64 ((i : Nat) + 1 : Int)) := ⟨_, rfl⟩
        refine runLoop_by I3 N ?_ ?_
        · rw [hI3]
          exact ⟨rfl, by simp [e2], by simp [e7], 0, by omega, by omega, by simp⟩
        intro L hL1 hL2 hL3 n e mm hin hf'
        rw [hI3] at hin
        obtain ⟨rfl, e2, e7, i, hi, rfl, e13⟩ := hin
        by_cases hiN : i < N
        · have c1 : (i : Int) + 1 ≤ sz := by omega
          have hwi : IntKind.i64.wrap ((i : Int) + 1 + 1) = (i : Int) + 1 + 1 := wrap_i64 (by omega)
          have hdi : dl[i]? = some dl[i] := List.getElem?_eq_getElem (by omega)
          simp -implicitDefEqProofs [e2, e7, e13, cells_row hbxM, c1]
          refine ⟨_, netState_ok hnM hdi (hlvM i), ?_⟩
          rintro _ _ ⟨rfl, rfl⟩ hf4
          simp -implicitDefEqProofs [e2, e7, e13, hwi]
          rw [hL1]
          refine ⟨N - (i + 1), by omega, ?_⟩
          rw [hI3]
          exact ⟨rfl, by simp [e2], by simp [e7], i + 1, by omega, rfl, by simp⟩
        · have c1 : ¬ (i : Int) + 1 ≤ sz := by omega
          simp -implicitDefEqProofs [e2, e7, e13, cells_row hbxM, c1, hL2]
          refine ⟨_, awake24_ok.rel, ?_⟩
          rintro _ _ ⟨rfl, rfl⟩ hf4
          exact hQ' _ _ rfl
      · by_cases hk20 : ks.length ≤ 20
        rotate_left
        · have hk20' : (20 : Int) < (ks.length : Int) := by omega
          have hk20'' : 20 < ks.length := by omega
          simp -implicitDefEqProofs [hk20, hk20', hk20'']
          refine ⟨_, awake24_ok.rel, ?_⟩
          rintro _ _ ⟨rfl, rfl⟩ hf3
          exact hQ' _ _ rfl
        have hk20' : ¬ (20 : Int) < (ks.length : Int) := by omega
        have hk20'' : ¬ 20 < ks.length := by omega
        simp -implicitDefEqProofs [hk20, hk20', hk20'']
        refine ⟨_, netNew_ok hTopo hszN hN32, ?_⟩
        rintro _ m2 ⟨hx2, nb, sb, lb, wb, ex, dl, ll, rfl, hnet, hdl, hll⟩ hf3
        simp -implicitDefEqProofs
        obtain ⟨I1, hI1⟩ : ∃ I : Nat → Env → Mem → Prop, I = fun n e mm => Below' m1.next m2 mm ∧ e 1 = some (.slc ib ioff ks.length icap 1 iex) ∧ e 2 = some (.ptr m.next 0) ∧ e 7 = some (.ptr nb 0) ∧
            ∃ j dn, j ≤ ks.length ∧ n = ks.length - j ∧ e 9 = some (.int .i64 (j : Nat)) ∧ IsNet mm m1.next tb nb sb lb wb ex dl ll dn (setLives (fun _ => liveAll) ((ks.take j).flatMap (linksOf ll)) false) := ⟨_, rfl⟩
        obtain ⟨I2, hI2⟩ : ∃ I : Nat → Env → Mem → Prop, I = fun n e mm => Below' m1.next m2 mm ∧ e 1 = some (.slc ib ioff ks.length icap 1 iex) ∧ e 2 = some (.ptr m.next 0) ∧ e 7 = some (.ptr nb 0) ∧
            ∃ j dn, j ≤ ks.length ∧ n = ks.length - j ∧ e 12 = some (.int .i64 (j : Nat)) ∧ IsNet mm m1.next tb nb sb lb wb ex dl ll dn (setLives (setLives (fun _ => liveAll) (ks.flatMap (linksOf ll)) false) ((ks.take j).flatMap (linksOf ll)) true) := ⟨_, rfl⟩
        have hbel : ∀ {mm : Mem}, Below' m1.next m2 mm → ∀ c, c < m1.next → mm.get c = m1.get c := fun h c hc => (h.2.2 c hc).trans (hx2.2 c hc)
        refine runLoop_by I1 ks.length ?_ ?_
        · rw [hI1]
          exact ⟨Below'.refl hx2.1, by simp, by simp, by simp, 0, [], by omega, by omega, by simp, by simpa [setLives] using hnet⟩
        intro La ha1 ha2 ha3 n1 ea ma hina hfa
        rw [hI1] at hina
        obtain ⟨hba, e1, e2, e7, j, dn, hj, rfl, e9, hna⟩ := hina
        have hkS := sl_keep hkl1 hf1 (hbel hba)
        have hbxa : ma.get m.next = _ := (hbel hba _ hbxl).trans hbx
        by_cases hjl : j < ks.length
        · have hwj : IntKind.i64.wrap ((j : Int) + 1) = (j : Int) + 1 := wrap_i64 (by omega)
          have hat : ma.cells ib (ioff + j) 1 = some [.int .i64 ks[j]] := by
            have := Sl.at1 (by simpa using hkS) (i := j) (by simpa using hjl)
            rw [this]; simp
          simp -implicitDefEqProofs [e1, e2, e7, e9, hjl, hat]
          refine ⟨_, fail_ok hna (Nat.le_trans hba.1 hba.2.1) (pairs_mem_ok hll hdl _) (links_len hll hN32 _), ?_⟩
          rintro _ m3 ⟨hb3, rfl, dn3, hn3⟩ hf4
          have hbel3 : ∀ c, c < m1.next → m3.get c = m1.get c := fun c hc => (hb3.2.2 c hc).trans (hbel hba c hc)
          have hkS3 := sl_keep hkl1 hf1 hbel3
          have hbx3 : m3.get m.next = _ := (hbel3 _ hbxl).trans hbx
          have hsS3 := sl_keep hsl1 hf1 hbel3
          have hat3 : m3.cells ib (ioff + j) 1 = some [.int .i64 ks[j]] := by
            have := Sl.at1 (by simpa using hkS3) (i := j) (by simpa using hjl)
            rw [this]; simp
          have next : ∀ (e' : Env) (mm : Mem), Ext m3 mm → e' 1 = some (.slc ib ioff ks.length icap 1 iex) → e' 2 = some (.ptr m.next 0) → e' 7 = some (.ptr nb 0) → e' 9 = some (.int .i64 ((j : Int) + 1)) → ∃ n', n' < ks.length - j ∧ I1 n' e' mm := by
            intro e' mm hx h1 h2 h7 h9
            refine ⟨ks.length - (j + 1), by omega, ?_⟩
            rw [hI1]
            have hb30 := hb3.1
            have hb31 := hb3.2.1
            have hx0 := hx.1
            refine ⟨⟨hba.1, Nat.le_trans hba.2.1 (Nat.le_trans hb3.2.1 hx.1), fun c hc => (hx.2 c (by omega)).trans ((hb3.2.2 c hc).trans (hba.2.2 c hc))⟩, h1, h2, h7, j + 1, dn3, by omega, rfl, by simpa using h9, ?_⟩
            rw [take_flat hjl, setLives_append]
            exact IsNet.ext (by simpa using hn3) hf4 hx
          have hno : (¬ ∃ (i : Nat) (x : LinkL), links[i]? = some x ∧ ks[j] = (i : Int) + 1 ∧ 0 < x.b) → linksOf ll ks[j] = [] := by
            intro h
            rw [hll]
            by_cases hn : (pairs T N).filter (sel T ks[j]) = []
            · exact hn
            · exact absurd ((hend ks[j]).1 hn) h
          have hyes : (∃ (i : Nat) (x : LinkL), links[i]? = some x ∧ ks[j] = (i : Int) + 1 ∧ 0 < x.b) → ¬ linksOf ll ks[j] = [] := by
            intro h
            rw [hll]
            exact (hend ks[j]).2 h
          have him : ib < m3.next := (cells_some hat3).elim fun o h => h.elim fun fz h => h.elim fun E h => h.elim fun l h => hf4.lt h.1
          have hbm3 : m.next < m3.next := hf4.lt hbx3
          clear hna
          generalize ks[j] = k at *
          by_cases h1 : 1 ≤ k
          · by_cases h2 : k ≤ (links.length : Int)
            · obtain ⟨i, rfl⟩ : ∃ i : Nat, k = (i : Int) + 1 := ⟨(k - 1).toNat, by omega⟩
              have hil : i < links.length := by omega
              rcases hsS3 with ⟨rfl, h0⟩ | ⟨lb', lo', lc', lx', rfl, hlc, hlr⟩
              · have := congrArg List.length h0
                rw [List.length_map] at this
                rw [this] at hil
                exact absurd hil (Nat.not_lt_zero _)
              have hatl : m3.cells lb' (lo' + i * 5) 5 = some (LinkL.av links[i]) := by
                have := Sl.at (.inr ⟨lb', lo', lc', lx', rfl, hlc, hlr⟩) (i := i) (by simpa using hil)
                rw [this]; simp
              have hwi : IntKind.i64.wrap (i : Int) = (i : Int) := wrap_i64 (by omega)
              have hatl1 : m3.cells lb' (lo' + i * 5 + 2) 1 = some [.int .i64 links[i].b] := by
                obtain ⟨o, fz, E, l, g1, g2, g3⟩ := cells_some hatl
                rw [cells_of g1, if_pos (by omega)]
                have e : (l.drop (lo' + i * 5 + 2)).take 1 = (((l.drop (lo' + i * 5)).take 5).drop 2).take 1 := by
                  rw [List.drop_take, List.take_take, List.drop_drop]; rfl
                rw [e, ← g3]; rfl
              have hlm := (cells_some hatl).elim fun o h => h.elim fun fz h => h.elim fun E h => h.elim fun l h => hf4.lt h.1
              have hmax : foldInt (fun a b => if a < b then b else a) ((i : Int) + 1) [AV.int .i64 1] = some ((i : Int) + 1) := by
                have : ¬ ((i : Int) + 1 < 1) := by omega
                simp [foldInt, this]
              by_cases h3 : 0 < links[i].b
              · have hl0 := hyes ⟨i, links[i], List.getElem?_eq_getElem hil, rfl, h3⟩
                simp -implicitDefEqProofs [e1, e2, e7, e9, hjl, hat3, d11, d12, cells_row hbx3, hl0, h1, h2, h3, hil, hatl1, hwi, hwj, hmax, old_ne him, old_ne hbm3, old_ne hlm, LinkL.av, ha1]
                repeat' apply And.intro
                all_goals (try omega)
                exact next _ _ (by (repeat' first | with_reducible exact Ext.refl | with_reducible assumption | with_reducible apply Ext.grow | with_reducible apply Ext.new | with_reducible refine Ext.set ?_ ?_ | with_reducible refine Ext.kill ?_ ?_ | (simp only [next_new, next_set, next_grow, next_kill]; omega) | omega)) (by simp [e1]) (by simp [e2]) (by simp [e7]) (by simp)
              · have hl0 := hno (by
                  rintro ⟨i', x, hi', he, hb'⟩
                  obtain rfl : i = i' := by omega
                  rw [List.getElem?_eq_getElem hil] at hi'
                  injection hi' with hi'
                  subst hi'
                  exact h3 hb')
                simp -implicitDefEqProofs [e1, e2, e7, e9, hjl, hat3, d11, d12, cells_row hbx3, hl0, h1, h2, h3, hil, hatl1, hwi, hwj, hmax, old_ne him, old_ne hbm3, old_ne hlm, LinkL.av, ha1]
                repeat' apply And.intro
                all_goals (try omega)
                exact next _ _ (by (repeat' first | with_reducible exact Ext.refl | with_reducible assumption | with_reducible apply Ext.grow | with_reducible apply Ext.new | with_reducible refine Ext.set ?_ ?_ | with_reducible refine Ext.kill ?_ ?_ | (simp only [next_new, next_set, next_grow, next_kill]; omega) | omega)) (by simp [e1]) (by simp [e2]) (by simp [e7]) (by simp)
            · have hl0 := hno (by
                rintro ⟨i', x, hi', he, hb'⟩
                have := (List.getElem?_eq_some_iff.1 hi').1
                omega)
              clear hlenS
              rcases hlens with ⟨rfl, h0⟩ | ⟨sb', so', sc', sx', rfl⟩
              · have h2' : ¬ k ≤ 0 := by omega
                simp -implicitDefEqProofs [e1, e2, e7, e9, hjl, hat3, d11, d12, cells_row hbx3, hl0, h1, h2', hwj, old_ne him, old_ne hbm3, ha1]
                repeat' apply And.intro
                all_goals (try omega)
                exact next _ _ (by (repeat' first | with_reducible exact Ext.refl | with_reducible assumption | with_reducible apply Ext.grow | with_reducible apply Ext.new | with_reducible refine Ext.set ?_ ?_ | with_reducible refine Ext.kill ?_ ?_ | (simp only [next_new, next_set, next_grow, next_kill]; omega) | omega)) (by simp [e1]) (by simp [e2]) (by simp [e7]) (by simp)
              · simp -implicitDefEqProofs [e1, e2, e7, e9, hjl, hat3, d11, d12, cells_row hbx3, hl0, h1, h2, hwj, old_ne him, old_ne hbm3, ha1]
                repeat' apply And.intro
                all_goals (try omega)
                exact next _ _ (by (repeat' first | with_reducible exact Ext.refl | with_reducible assumption | with_reducible apply Ext.grow | with_reducible apply Ext.new | with_reducible refine Ext.set ?_ ?_ | with_reducible refine Ext.kill ?_ ?_ | (simp only [next_new, next_set, next_grow, next_kill]; omega) | omega)) (by simp [e1]) (by simp [e2]) (by simp [e7]) (by simp)
          · have hl0 := hno (by
              rintro ⟨i', x, hi', he, hb'⟩
              omega)
            simp -implicitDefEqProofs [e1, e2, e7, e9, hjl, hat3, d11, d12, cells_row hbx3, hl0, h1, hwj, old_ne him, old_ne hbm3, ha1]
            repeat' apply And.intro
            all_goals (try omega)
            exact next _ _ (by (repeat' first | with_reducible exact Ext.refl | with_reducible assumption | with_reducible apply Ext.grow | with_reducible apply Ext.new | with_reducible refine Ext.set ?_ ?_ | with_reducible refine Ext.kill ?_ ?_ | (simp only [next_new, next_set, next_grow, next_kill]; omega) | omega)) (by simp [e1]) (by simp [e2]) (by simp [e7]) (by simp)
        · obtain rfl : j = ks.length := by omega
          simp -implicitDefEqProofs [e1, e2, e7, e9, ha2]
          rw [List.take_length] at hna
          refine runLoop_by I2 ks.length ?_ ?_
          · rw [hI2]
            exact ⟨hba, by simp [e1], by simp [e2], by simp [e7], 0, dn, by omega, by omega, by simp, by simpa [setLives] using hna⟩
          intro Lb hb1 hb2 hb3 n1 ea mb hinb hfb'
          rw [hI2] at hinb
          obtain ⟨hbb, e1, e2, e7, j, dn, hj, rfl, e12, hnb⟩ := hinb
          have hkS := sl_keep hkl1 hf1 (hbel hbb)
          have hbxb : mb.get m.next = _ := (hbel hbb _ hbxl).trans hbx
          by_cases hjl : j < ks.length
          · have hwj : IntKind.i64.wrap ((j : Int) + 1) = (j : Int) + 1 := wrap_i64 (by omega)
            have hat : mb.cells ib (ioff + j) 1 = some [.int .i64 ks[j]] := by
              have := Sl.at1 (by simpa using hkS) (i := j) (by simpa using hjl)
              rw [this]; simp
            simp -implicitDefEqProofs [e1, e2, e7, e12, hjl, hat]
            refine ⟨_, fail_ok hnb (Nat.le_trans hbb.1 hbb.2.1) (pairs_mem_ok hll hdl _) (links_len hll hN32 _), ?_⟩
            rintro _ m3 ⟨hb3', rfl, dn3, hn3⟩ hf4
            simp -implicitDefEqProofs [e1, e2, e7, e12, hwj, hb1]
            refine ⟨ks.length - (j + 1), by omega, ?_⟩
            rw [hI2]
            refine ⟨⟨hbb.1, Nat.le_trans hbb.2.1 hb3'.2.1, fun c hc => (hb3'.2.2 c hc).trans (hbb.2.2 c hc)⟩, by simp [e1], by simp [e2], by simp [e7], j + 1, dn3, by omega, rfl, by simp, ?_⟩
            rw [take_flat hjl, setLives_append]
            simpa using hn3
          · obtain rfl : j = ks.length := by omega
            simp -implicitDefEqProofs [e1, e2, e7, e12, hb2]
            rw [List.take_length] at hnb
            have hA : ∀ q ∈ ks.flatMap (linksOf ll), 1 ≤ q.2 ∧ q.2 ≤ 16 := by
              intro q hq
              obtain ⟨k, _, hk⟩ := List.mem_flatMap.1 hq
              obtain ⟨i, p, rfl, _, h1, h2⟩ := pairs_mem_ok hll hdl k q hk
              simp only
              omega
            have hnM := hnb
            have hlvM := lives_back (ks.flatMap (linksOf ll)) hA
            have hbxM := hbxb
            obtain ⟨M, rfl⟩ : ∃ M, M = mb := ⟨_, rfl⟩
            obtain ⟨I3, hI3⟩ : ∃ I : Nat → Env → Mem → Prop, I = fun n e mm => mm = M ∧ e 2 = some (.ptr m.next 0) ∧ e 7 = some (.ptr nb 0) ∧ ∃ i, i ≤ N ∧ n = N - i ∧ e 13 = some (.int .i64 ((i : Nat) + 1 : Int)) := ⟨_, rfl⟩
            refine runLoop_by I3 N ?_ ?_
            · rw [hI3]
              exact ⟨rfl, by simp [e2], by simp [e7], 0, by omega, by omega, by simp⟩
            intro L hL1 hL2 hL3 n e mm hin hf'
            rw [hI3] at hin
            obtain ⟨rfl, e2, e7, i, hi, rfl, e13⟩ := hin
            by_cases hiN : i < N
            · have c1 : (i : Int) + 1 ≤ sz := by omega
              have hwi : IntKind.i64.wrap ((i : Int) + 1 + 1) = (i : Int) + 1 + 1 := wrap_i64 (by omega)
              have hdi : dl[i]? = some dl[i] := List.getElem?_eq_getElem (by omega)
              simp -implicitDefEqProofs [e2, e7, e13, cells_row hbxM, c1]
              refine ⟨_, netState_ok hnM hdi (hlvM i), ?_⟩
              rintro _ _ ⟨rfl, rfl⟩ hf4
              simp -implicitDefEqProofs [e2, e7, e13, hwi]
              rw [hL1]
              refine ⟨N - (i + 1), by omega, ?_⟩
              rw [hI3]
              exact ⟨rfl, by simp [e2], by simp [e7], i + 1, by omega, rfl, by simp⟩
            · have c1 : ¬ (i : Int) + 1 ≤ sz := by omega
              simp -implicitDefEqProofs [e2, e7, e13, cells_row hbxM, c1, hL2]
              refine ⟨_, awake24_ok.rel, ?_⟩
              rintro _ _ ⟨rfl, rfl⟩ hf4
              exact hQ' _ _ rfl
end Go.Proofs.YtcbileongahhiaaGreat.Ev

/- The arguments of the law of layer 24, read. -/
namespace Go.Proofs.YtcbileongahhiaaGreat.Ev
open Go Go.Proofs
set_option linter.unusedVariables false
set_option linter.unusedSimpArgs false
set_option maxRecDepth 100000

theorem list5 {α : Type} {l : List α} (h : l.length = 5) : ∃ c0 c1 c2 c3 c4, l = [c0, c1, c2, c3, c4] := by
  match l, h with
  | [a, b, c, d, e], _ => exact ⟨a, b, c, d, e, rfl⟩
theorem list3 {α : Type} {l : List α} (h : l.length = 3) : ∃ c0 c1 c2, l = [c0, c1, c2] := by
  match l, h with
  | [a, b, c], _ => exact ⟨a, b, c, rfl⟩

theorem slice_of {P : Program} {w : World} {r : Reach} {base : Nat} {t e : TypeId} {v : Value} (ht : P.underlying t = some (.slice e)) (h : Cell.okWide P w r base t v) : v.cells.toList = [v] ∧ v.oneCell' = true := by
  unfold Cell.okWide at h
  rw [ht] at h
  cases v
  all_goals first
    | exact ⟨rfl, rfl⟩
    | (exfalso
       simp only [Cell.ok, ht] at h)

section
variable {H : Type} {enc : TypeId × Value → H} {w : World}

theorem float_read {P : Program} {t : TypeId} {k : FloatKind} {fuel : Nat} {cs : List Value} {x : DataW H × List MemPlace} (ht : P.underlying t = some (.float k)) (h : DataW.trod enc P w 0 (fun _ => true) true fuel t cs = some x) : ∃ n, cs = [.float k n] := by
  cases fuel with
  | zero => simp [DataW.trod] at h
  | succ n =>
    rw [DataW.trod_step] at h
    unfold DataW.trodStep at h
    rw [ht] at h
    split at h <;> simp_all

theorem cells3 : Tryz.prog.cellsOf 3 = 1 := by kernel_rfl
theorem cellsF : Tryz.prog.cellsOf 120 = 1 := by kernel_rfl
theorem cells122 : Tryz.prog.cellsOf 122 = 5 := by kernel_rfl
theorem cells63 : Tryz.prog.cellsOf 63 = 3 := by kernel_rfl
theorem cells60 : Tryz.prog.cellsOf 60 = 1 := by kernel_rfl
theorem cells61 : Tryz.prog.cellsOf 61 = 1 := by kernel_rfl
theorem types63 : Tryz.prog.cellTypes Tryz.prog.depth 63 = some [3, 60, 61] := by kernel_rfl

theorem link_read {n : Nat} {cs : List Value} {y : DataW H × List MemPlace} (h : DataW.trod enc Tryz.prog w 0 (fun _ => true) true n 122 cs = some y) : ∃ x : LinkL, flatAVs cs = some x.av := by
  obtain ⟨xs, n', rfl, _, hlen, hxl, hf⟩ := DataW.trod_struct Tryz.underlying122 h
  rw [cells122] at hlen
  obtain ⟨c0, c1, c2, c3, c4, rfl⟩ := list5 hlen
  have hxl : xs.length = 5 := hxl
  have g0 : DataW.trod enc Tryz.prog w 0 (fun _ => true) true n' 3 (([c0, c1, c2, c3, c4].drop 0).take (Tryz.prog.cellsOf 3)) = xs[0]? := hf 0 _ rfl
  have g1 : DataW.trod enc Tryz.prog w 0 (fun _ => true) true n' 3 (([c0, c1, c2, c3, c4].drop 1).take (Tryz.prog.cellsOf 3)) = xs[1]? := hf 1 _ rfl
  have g2 : DataW.trod enc Tryz.prog w 0 (fun _ => true) true n' 3 (([c0, c1, c2, c3, c4].drop 2).take (Tryz.prog.cellsOf 3)) = xs[2]? := hf 2 _ rfl
  have g3 : DataW.trod enc Tryz.prog w 0 (fun _ => true) true n' 3 (([c0, c1, c2, c3, c4].drop 3).take (Tryz.prog.cellsOf 3)) = xs[3]? := hf 3 _ rfl
  have g4 : DataW.trod enc Tryz.prog w 0 (fun _ => true) true n' 120 (([c0, c1, c2, c3, c4].drop 4).take (Tryz.prog.cellsOf 120)) = xs[4]? := hf 4 _ rfl
  rw [cells3] at g0 g1 g2 g3
  rw [cellsF] at g4
  rw [List.getElem?_eq_getElem (by omega)] at g0 g1 g2 g3 g4
  obtain ⟨z0, h0, _⟩ := DataW.trod_int Tryz.underlying3 g0
  obtain ⟨z1, h1, _⟩ := DataW.trod_int Tryz.underlying3 g1
  obtain ⟨z2, h2, _⟩ := DataW.trod_int Tryz.underlying3 g2
  obtain ⟨z3, h3, _⟩ := DataW.trod_int Tryz.underlying3 g3
  obtain ⟨z4, h4⟩ := float_read Tryz.underlying120 g4
  injection h0 with h0
  injection h1 with h1
  injection h2 with h2
  injection h3 with h3
  injection h4 with h4
  subst h0; subst h1; subst h2; subst h3; subst h4
  exact ⟨⟨z0, z1, z2, z3, z4⟩, rfl⟩

theorem int_read {n : Nat} {cs : List Value} {y : DataW H × List MemPlace} (h : DataW.trod enc Tryz.prog w 0 (fun _ => true) true n 3 cs = some y) : ∃ k : Int, flatAVs cs = some [.int .i64 k] := by
  obtain ⟨z, rfl, _⟩ := DataW.trod_int Tryz.underlying3 h
  exact ⟨z, rfl⟩

/-- a slice of plain things, as abstract rows -/
theorem slice_read {α : Type} {av : α → List AV} {t e : TypeId} {ce : Nat} {base : Nat} {v : Value} {fuel : Nat} {x : DataW H × List MemPlace} (ht : Tryz.prog.underlying t = some (.slice e)) (hc : Tryz.prog.cellsOf e = ce) (hce : 0 < ce) (hav : ∀ a, (av a).length = ce)
    (hread : ∀ {n : Nat} {cs : List Value} {y : DataW H × List MemPlace}, DataW.trod enc Tryz.prog w 0 (fun _ => true) true n e cs = some y → ∃ a : α, flatAVs cs = some (av a))
    (hv : Cell.okWide Tryz.prog w .any base t v) (h : DataW.trod enc Tryz.prog w 0 (fun _ => true) true fuel t [v] = some x) :
    ∃ l : List α, ∀ b, ∃ (i : Option Place) (E : TypeId) (cells : List AV) (s : AV), (∀ p, i = some p → p.blk < w.heap.size ∧ ∀ ι, BR Tryz.prog ι p w (.row false none E cells)) ∧ (∀ ι : Inj, ι b = i → VR ι s v) ∧ ∀ m : Mem, m.get b = some (.row false none E cells) → Sl m s ce (l.map av) := by
  rcases open_row ht hc hce hv h with rfl | ⟨blk, off, len, cap, c, el, fr, n, rfl, hle, hh, hsz, hel⟩
  · exact ⟨[], fun b => arg_slice (by simp) (.inl ⟨rfl, rfl⟩)⟩
  · obtain ⟨l, hl, hp⟩ := list_of (p := fun i a => flatAVs ((c.toList.drop (off + i * ce)).take ce) = some (av a)) len fun i hi => by
      obtain ⟨y, hy⟩ := hel i hi
      exact hread hy
    refine ⟨l, fun b => arg_slice (by simp only [List.mem_map]; rintro r ⟨a, _, rfl⟩; exact hav a) (.inr ⟨blk, off, cap, c, el, fr, by simp [hl], by simpa [hl] using hle, hh, hsz, fun i r hr => ?_⟩)⟩
    rw [List.getElem?_map, Option.map_eq_some_iff] at hr
    obtain ⟨a, ha, rfl⟩ := hr
    exact hp i a ha

/-- the net's two numbers and its slices -/
theorem net_read {base : Nat} {v : Value} {d : DataW H} {ps : List MemPlace} (hv : Value.okWide Tryz.prog w .any base 63 v) (h : DataW.Trod enc Tryz.prog w 0 (fun _ => true) true 63 v d ps) :
    ∃ (sz : Int) (w1 w2 : Value), v = .agg #[.int .i64 sz, w1, w2] ∧ w2.oneCell' = true ∧ ∃ l : List LinkL, ∀ b, ∃ (i : Option Place) (E : TypeId) (cells : List AV) (s : AV), (∀ p, i = some p → p.blk < w.heap.size ∧ ∀ ι, BR Tryz.prog ι p w (.row false none E cells)) ∧ (∀ ι : Inj, ι b = i → VR ι s w1) ∧ ∀ m : Mem, m.get b = some (.row false none E cells) → Sl m s 5 (l.map LinkL.av) := by
  unfold Value.okWide at hv
  rw [Tryz.underlying63] at hv
  obtain ⟨cs, rfl, hsz, ts, hts, _, hcs⟩ := hv
  rw [types63] at hts
  injection hts with hts
  subst hts
  rw [cells63] at hsz
  obtain ⟨fuel, h⟩ := h
  obtain ⟨xs, n', rfl, _, _, hxl, hf⟩ := DataW.trod_struct Tryz.underlying63 h
  have hxl : xs.length = 3 := hxl
  obtain ⟨l⟩ := cs
  have hsz : l.length = 3 := hsz
  obtain ⟨w0, w1, w2, rfl⟩ := list3 hsz
  have g0 : DataW.trod enc Tryz.prog w 0 (fun _ => true) true n' 3 (([w0, w1, w2].drop 0).take (Tryz.prog.cellsOf 3)) = xs[0]? := hf 0 _ rfl
  have g1 : DataW.trod enc Tryz.prog w 0 (fun _ => true) true n' 60 (([w0, w1, w2].drop 1).take (Tryz.prog.cellsOf 60)) = xs[1]? := hf 1 _ rfl
  rw [cells3] at g0
  rw [cells60] at g1
  rw [List.getElem?_eq_getElem (by omega)] at g0 g1
  obtain ⟨z0, h0, _⟩ := DataW.trod_int Tryz.underlying3 g0
  have h0 : [w0] = _ := h0
  injection h0 with h0
  subst h0
  obtain ⟨u1, hu1, k1⟩ := hcs 1 w1 rfl
  obtain ⟨u2, hu2, k2⟩ := hcs 2 w2 rfl
  have hu1 : some 60 = some u1 := hu1
  have hu2 : some 61 = some u2 := hu2
  injection hu1 with hu1
  injection hu2 with hu2
  subst hu1; subst hu2
  refine ⟨z0, w1, w2, rfl, (slice_of Tryz.underlying61 k2).2, ?_⟩
  exact slice_read (av := LinkL.av) Tryz.underlying60 cells122 (by omega) (fun _ => rfl) (fun h => link_read h) k1 g1

theorem ints_read {base : Nat} {v : Value} {d : DataW H} {ps : List MemPlace} (hv : Value.okWide Tryz.prog w .any base 61 v) (h : DataW.Trod enc Tryz.prog w 0 (fun _ => true) true 61 v d ps) :
    ∃ l : List Int, ∀ b, ∃ (i : Option Place) (E : TypeId) (cells : List AV) (s : AV), (∀ p, i = some p → p.blk < w.heap.size ∧ ∀ ι, BR Tryz.prog ι p w (.row false none E cells)) ∧ (∀ ι : Inj, ι b = i → VR ι s v) ∧ ∀ m : Mem, m.get b = some (.row false none E cells) → Sl m s 1 (l.map fun k => [AV.int .i64 k]) := by
  unfold Value.okWide at hv
  rw [Tryz.underlying61] at hv
  obtain ⟨fuel, h⟩ := h
  rw [(slice_of Tryz.underlying61 hv).1] at h
  exact slice_read (av := fun k => [AV.int .i64 k]) Tryz.underlying61 cells3 (by omega) (fun _ => rfl) (fun h => int_read h) hv h
end
end Go.Proofs.YtcbileongahhiaaGreat.Ev

