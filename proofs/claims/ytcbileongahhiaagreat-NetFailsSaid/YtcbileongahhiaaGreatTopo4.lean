/- topo: the contract of join. -/
import Derived.Test.YtcbileongahhiaaGreatTopo3
namespace Go.Proofs.YtcbileongahhiaaGreat.Ev
open Go Go.Proofs
set_option linter.unusedVariables false
set_option linter.unusedSimpArgs false

/-- what lay below is as it was -/
def Below' (lo : Nat) (m m1 : Mem) : Prop := lo ≤ m.next ∧ m.next ≤ m1.next ∧ ∀ b, b < lo → m1.get b = m.get b
section
variable {lo : Nat} {m m1 : Mem}
theorem Below'.refl (h : lo ≤ m.next) : Below' lo m m := ⟨h, Nat.le_refl _, fun _ _ => rfl⟩
theorem Below'.new {x : Blk} (h : Below' lo m m1) : Below' lo m (m1.new x) := ⟨h.1, Nat.le_succ_of_le h.2.1, fun b hb => by rw [get_new_ne (by have := h.1; have := h.2.1; omega)]; exact h.2.2 b hb⟩
theorem Below'.grow {k : Nat} (h : Below' lo m m1) : Below' lo m (m1.grow k) := ⟨h.1, Nat.le_trans h.2.1 (Nat.le_add_right _ _), fun b hb => h.2.2 b hb⟩
theorem Below'.set {x : Blk} {c : Nat} (h : Below' lo m m1) (hc : lo ≤ c) : Below' lo m (m1.set c x) := ⟨h.1, h.2.1, fun b hb => by rw [get_set_ne (by omega)]; exact h.2.2 b hb⟩
theorem Below'.kill {c : Nat} (h : Below' lo m m1) (hc : lo ≤ c) : Below' lo m (m1.kill c) := ⟨h.1, h.2.1, fun b hb => by rw [get_kill_ne (by omega)]; exact h.2.2 b hb⟩
end

/-- a link is laid; n: its number -/
def TopoL.join (T : TopoL) (n : Int) (x : LinkL) : Option TopoL :=
  if x.b < 0 then
    if (look (-x.b) T.homes).isSome || (look (x.a, x.pa) T.ends).isSome then none
    else some { T with homes := putAt (-x.b) (x.a, x.pa) T.homes, ends := putAt (x.a, x.pa) (x.b, x.pb, n) T.ends }
  else
    if (look (x.b, x.pb) T.ends).isSome || (look (x.a, x.pa) T.ends).isSome then none
    else some { T with ends := putAt (x.a, x.pa) (x.b, x.pb, n) (putAt (x.b, x.pb) (x.a, x.pa, n) T.ends) }

theorem zero_sub_wrap {b : Int} (h1 : b < 0) (h2 : -64 ≤ b) : IntKind.i64.wrap (-b) = -b := wrap_i64 (by omega)

set_option maxHeartbeats 1000000 in
theorem join_ok {m : Mem} {lo b eb hb n : Nat} {cv : AV} {cs : List AV} {T : TopoL} {x : LinkL} (h : IsTopo m b eb hb cv T) (hc : OwnS m lo cv 120 1 n cs) (hn : n < 1000) (hx : x.b < 0 → -64 ≤ x.b)
    (hbl : lo ≤ b) (hel : lo ≤ eb) (hhl : lo ≤ hb) (heh : eb ≠ hb) (hcb : ∀ c o l k e ex, cv = .slc c o l k e ex → c ≠ b) (hlo : lo ≤ m.next) :
    ContrR Tryz.prog 0 78 [.ptr b 0, .agg x.av] m (fun v m' => Below' lo m m' ∧ v = .bool (T.join ((n : Int) + 1) x).isSome ∧
      ∀ T', T.join ((n : Int) + 1) x = some T' → ∃ cv', IsTopo m' b eb hb cv' T' ∧ OwnS m' lo cv' 120 1 (n + 1) (cs ++ [.flt .f64 x.c]) ∧ ∀ c o l k e ex, cv' = .slc c o l k e ex → c ≠ b) := by
  refine contrR_go (call := tab0) mixed sane Tryz.func78 rfl (by rw [Tryz.ntmps78]; exact Nat.le_of_ble_eq_true rfl) tab0_ok fun Q hQ hfr => ?_
  have d1 : ancsAt 1 Tryz.f78 = [0, 0, 2, 6, 14, 0, 32, 96, 254, 511, 1023, 2047] := by kernel_rfl
  have d2 : ancsAt 2 Tryz.f78 = [0, 1, 0, 4, 15, 0, 32, 0, 128, 480, 0, 0, 3103, 8191] := by kernel_rfl
  have d3 : ancsAt 3 Tryz.f78 = [0, 1, 3, 7, 0, 31, 63, 127, 127, 0, 767, 2047] := by kernel_rfl
  have d5 : ancsAt 5 Tryz.f78 = [0, 1, 3, 7, 0, 16, 48, 127, 255, 511, 511, 0, 3071, 8191] := by kernel_rfl
  have d8 : ancsAt 8 Tryz.f78 = [0, 1, 3, 7, 0, 16, 48, 0, 255] := by kernel_rfl
  have d9 : ancsAt 9 Tryz.f78 = [0, 1, 3, 7, 0, 31, 63, 127, 127, 0, 767, 2047] := by kernel_rfl
  have d12 : ancsAt 12 Tryz.f78 = [0, 1, 3, 7, 0, 0, 0, 64, 192, 448, 960, 2016, 4095] := by kernel_rfl
  have d13 : ancsAt 13 Tryz.f78 = [0, 1, 3, 7, 0, 0, 0, 64, 192, 448, 960, 2016, 4095] := by kernel_rfl
  simp only [ancsAt, Tryz.f78, opsAt, Option.or_some, Option.none_or, Option.some_or, Option.or_none, Option.getD_none, Option.getD_some, if_true, if_false, reduceIte, Nat.reduceEqDiff] at d1 d2 d3 d5 d8 d9 d12 d13
  have hQ' : ∀ e m1 v, e 4 = some v → _ → Q .ret e m1 := fun e m1 v h1 h2 => hQ e m1 [v] (by rw [Tryz.results78]; simp [h1]) h2
  clear hQ
  simp only [tupled] at hQ'
  obtain ⟨xa, pa, xb, pb, c⟩ := x
  simp only [LinkL.av]
  have hbn := hfr.lt h.self
  have hen := hfr.lt h.ends
  have hhn := hfr.lt h.homes
  have nbe : ¬ b = eb := fun e => by have h1 := h.self; have h2 := h.ends; rw [e, h2] at h1; cases h1
  have nbh : ¬ b = hb := fun e => by have h1 := h.self; have h2 := h.homes; rw [e, h2] at h1; cases h1
  have sz : (n + 1) * 8 ≤ 1099511627776 ∧ n + 1 ≤ 1099511627776 := by omega
  rcases hc with ⟨rfl, rfl, rfl⟩ | ⟨ob, rfl, h1, h2, h3, h4⟩
  · by_cases hneg : xb < 0
    · have hw := zero_sub_wrap hneg (hx hneg)
      cases hl2 : look (-xb) T.homes with
      | some p =>
        cases hl1 : look (xa, pa) T.ends with
        | some q =>
          simp -implicitDefEqProofs [Nat.add_assoc, cells_row h.self, h.self, h.ends, h.homes, d1, d2, d3, d5, d8, d9, d12, d13, old_ne hbn, old_ne hen, old_ne hhn, ne_both nbe, ne_both nbh, ne_both heh, hneg, hw, hl1, hl2, encPl, encEnd]
          clear d1 d2 d3 d5 d8 d9 d12 d13
          repeat' apply And.intro
          all_goals (try omega)
          refine hQ' _ _ _ rfl ⟨?_, ?_, ?_⟩
          · (repeat' first | with_reducible exact Below'.refl ‹_› | with_reducible assumption | with_reducible apply Below'.grow | with_reducible apply Below'.new | with_reducible refine Below'.set ?_ ?_ | with_reducible refine Below'.kill ?_ ?_ | (simp only [next_new, next_set, next_grow, next_kill]; omega) | omega)
          · simp [TopoL.join, hneg, hl2]
          · intro T' hT; simp [TopoL.join, hneg, hl2] at hT
        | none =>
          simp -implicitDefEqProofs [Nat.add_assoc, cells_row h.self, h.self, h.ends, h.homes, d1, d2, d3, d5, d8, d9, d12, d13, old_ne hbn, old_ne hen, old_ne hhn, ne_both nbe, ne_both nbh, ne_both heh, hneg, hw, hl1, hl2, encPl, encEnd]
          clear d1 d2 d3 d5 d8 d9 d12 d13
          repeat' apply And.intro
          all_goals (try omega)
          refine hQ' _ _ _ rfl ⟨?_, ?_, ?_⟩
          · (repeat' first | with_reducible exact Below'.refl ‹_› | with_reducible assumption | with_reducible apply Below'.grow | with_reducible apply Below'.new | with_reducible refine Below'.set ?_ ?_ | with_reducible refine Below'.kill ?_ ?_ | (simp only [next_new, next_set, next_grow, next_kill]; omega) | omega)
          · simp [TopoL.join, hneg, hl2]
          · intro T' hT; simp [TopoL.join, hneg, hl2] at hT
      | none =>
        cases hl1 : look (xa, pa) T.ends with
        | some p =>
          simp -implicitDefEqProofs [Nat.add_assoc, cells_row h.self, h.self, h.ends, h.homes, d1, d2, d3, d5, d8, d9, d12, d13, old_ne hbn, old_ne hen, old_ne hhn, ne_both nbe, ne_both nbh, ne_both heh, hneg, hw, hl1, hl2, encEnd]
          clear d1 d2 d3 d5 d8 d9 d12 d13
          repeat' apply And.intro
          all_goals (try omega)
          refine hQ' _ _ _ rfl ⟨?_, ?_, ?_⟩
          · (repeat' first | with_reducible exact Below'.refl ‹_› | with_reducible assumption | with_reducible apply Below'.grow | with_reducible apply Below'.new | with_reducible refine Below'.set ?_ ?_ | with_reducible refine Below'.kill ?_ ?_ | (simp only [next_new, next_set, next_grow, next_kill]; omega) | omega)
          · simp [TopoL.join, hneg, hl2, hl1]
          · intro T' hT; simp [TopoL.join, hneg, hl2, hl1] at hT
        | none =>
          simp -implicitDefEqProofs [Nat.add_assoc, cells_row h.self, h.self, h.ends, h.homes, d1, d2, d3, d5, d8, d9, d12, d13, old_ne hbn, old_ne hen, old_ne hhn, ne_both nbe, ne_both nbh, ne_both heh, hneg, hw, hl1, hl2]
          clear d1 d2 d3 d5 d8 d9 d12 d13
          repeat' apply And.intro
          all_goals (try omega)
          refine hQ' _ _ _ rfl ⟨?_, ?_, ?_⟩
          · (repeat' first | with_reducible exact Below'.refl ‹_› | with_reducible assumption | with_reducible apply Below'.grow | with_reducible apply Below'.new | with_reducible refine Below'.set ?_ ?_ | with_reducible refine Below'.kill ?_ ?_ | (simp only [next_new, next_set, next_grow, next_kill]; omega) | omega)
          · simp [TopoL.join, hneg, hl2, hl1]
          · intro T' hT
            simp [TopoL.join, hneg, hl2, hl1] at hT
            subst hT
            refine ⟨.slc (m.next + 13) 0 1 1 1 false, ⟨?_, ?_, ?_⟩, .inr ⟨m.next + 13, rfl, ?_, ?_, ?_, ?_⟩, ?_⟩
            · simp -implicitDefEqProofs [Nat.add_assoc, h.self, h.ends, h.homes, old_ne hbn, old_ne hen, old_ne hhn, ne_both nbe, ne_both nbh, ne_both heh]
            · simp -implicitDefEqProofs [Nat.add_assoc, h.self, h.ends, h.homes, old_ne hbn, old_ne hen, old_ne hhn, ne_both nbe, ne_both nbh, ne_both heh]
            · simp -implicitDefEqProofs [Nat.add_assoc, h.self, h.ends, h.homes, old_ne hbn, old_ne hen, old_ne hhn, ne_both nbe, ne_both nbh, ne_both heh]
            · simp -implicitDefEqProofs [Nat.add_assoc, h.self, h.ends, h.homes, old_ne hbn, old_ne hen, old_ne hhn, ne_both nbe, ne_both nbh, ne_both heh]
            · simp
            · omega
            · simp -implicitDefEqProofs [Nat.add_assoc]
            · intro c o l k e ex hh; injection hh with hh; omega
    · cases hl2 : look (xb, pb) T.ends with
      | some p =>
        cases hl1 : look (xa, pa) T.ends with
        | some q =>
          simp -implicitDefEqProofs [Nat.add_assoc, cells_row h.self, h.self, h.ends, h.homes, d1, d2, d3, d5, d8, d9, d12, d13, old_ne hbn, old_ne hen, old_ne hhn, ne_both nbe, ne_both nbh, ne_both heh, hneg, hl1, hl2, encEnd]
          clear d1 d2 d3 d5 d8 d9 d12 d13
          repeat' apply And.intro
          all_goals (try omega)
          refine hQ' _ _ _ rfl ⟨?_, ?_, ?_⟩
          · (repeat' first | with_reducible exact Below'.refl ‹_› | with_reducible assumption | with_reducible apply Below'.grow | with_reducible apply Below'.new | with_reducible refine Below'.set ?_ ?_ | with_reducible refine Below'.kill ?_ ?_ | (simp only [next_new, next_set, next_grow, next_kill]; omega) | omega)
          · simp [TopoL.join, hneg, hl2]
          · intro T' hT; simp [TopoL.join, hneg, hl2] at hT
        | none =>
          simp -implicitDefEqProofs [Nat.add_assoc, cells_row h.self, h.self, h.ends, h.homes, d1, d2, d3, d5, d8, d9, d12, d13, old_ne hbn, old_ne hen, old_ne hhn, ne_both nbe, ne_both nbh, ne_both heh, hneg, hl1, hl2, encEnd]
          clear d1 d2 d3 d5 d8 d9 d12 d13
          repeat' apply And.intro
          all_goals (try omega)
          refine hQ' _ _ _ rfl ⟨?_, ?_, ?_⟩
          · (repeat' first | with_reducible exact Below'.refl ‹_› | with_reducible assumption | with_reducible apply Below'.grow | with_reducible apply Below'.new | with_reducible refine Below'.set ?_ ?_ | with_reducible refine Below'.kill ?_ ?_ | (simp only [next_new, next_set, next_grow, next_kill]; omega) | omega)
          · simp [TopoL.join, hneg, hl2]
          · intro T' hT; simp [TopoL.join, hneg, hl2] at hT
      | none =>
        cases hl1 : look (xa, pa) T.ends with
        | some p =>
          simp -implicitDefEqProofs [Nat.add_assoc, cells_row h.self, h.self, h.ends, h.homes, d1, d2, d3, d5, d8, d9, d12, d13, old_ne hbn, old_ne hen, old_ne hhn, ne_both nbe, ne_both nbh, ne_both heh, hneg, hl1, hl2, encEnd]
          clear d1 d2 d3 d5 d8 d9 d12 d13
          repeat' apply And.intro
          all_goals (try omega)
          refine hQ' _ _ _ rfl ⟨?_, ?_, ?_⟩
          · (repeat' first | with_reducible exact Below'.refl ‹_› | with_reducible assumption | with_reducible apply Below'.grow | with_reducible apply Below'.new | with_reducible refine Below'.set ?_ ?_ | with_reducible refine Below'.kill ?_ ?_ | (simp only [next_new, next_set, next_grow, next_kill]; omega) | omega)
          · simp [TopoL.join, hneg, hl2, hl1]
          · intro T' hT; simp [TopoL.join, hneg, hl2, hl1] at hT
        | none =>
          simp -implicitDefEqProofs [Nat.add_assoc, cells_row h.self, h.self, h.ends, h.homes, d1, d2, d3, d5, d8, d9, d12, d13, old_ne hbn, old_ne hen, old_ne hhn, ne_both nbe, ne_both nbh, ne_both heh, hneg, hl1, hl2]
          clear d1 d2 d3 d5 d8 d9 d12 d13
          repeat' apply And.intro
          all_goals (try omega)
          refine hQ' _ _ _ rfl ⟨?_, ?_, ?_⟩
          · (repeat' first | with_reducible exact Below'.refl ‹_› | with_reducible assumption | with_reducible apply Below'.grow | with_reducible apply Below'.new | with_reducible refine Below'.set ?_ ?_ | with_reducible refine Below'.kill ?_ ?_ | (simp only [next_new, next_set, next_grow, next_kill]; omega) | omega)
          · simp [TopoL.join, hneg, hl2, hl1]
          · intro T' hT
            simp [TopoL.join, hneg, hl2, hl1] at hT
            subst hT
            refine ⟨.slc (m.next + 13) 0 1 1 1 false, ⟨?_, ?_, ?_⟩, .inr ⟨m.next + 13, rfl, ?_, ?_, ?_, ?_⟩, ?_⟩
            · simp -implicitDefEqProofs [Nat.add_assoc, h.self, h.ends, h.homes, old_ne hbn, old_ne hen, old_ne hhn, ne_both nbe, ne_both nbh, ne_both heh]
            · simp -implicitDefEqProofs [Nat.add_assoc, h.self, h.ends, h.homes, old_ne hbn, old_ne hen, old_ne hhn, ne_both nbe, ne_both nbh, ne_both heh]
            · simp -implicitDefEqProofs [Nat.add_assoc, h.self, h.ends, h.homes, old_ne hbn, old_ne hen, old_ne hhn, ne_both nbe, ne_both nbh, ne_both heh]
            · simp -implicitDefEqProofs [Nat.add_assoc, h.self, h.ends, h.homes, old_ne hbn, old_ne hen, old_ne hhn, ne_both nbe, ne_both nbh, ne_both heh]
            · simp
            · omega
            · simp -implicitDefEqProofs [Nat.add_assoc]
            · intro c o l k e ex hh; injection hh with hh; omega
  · have nob : ¬ ob = b := hcb _ _ _ _ _ _ rfl
    have noe : ¬ ob = eb := fun e => by have h3 := h.ends; rw [e, h3] at h1; cases h1
    have noh : ¬ ob = hb := fun e => by have h3 := h.homes; rw [e, h3] at h1; cases h1
    have nsz : ¬ n + 1 ≤ n := by omega
    by_cases hneg : xb < 0
    · have hw := zero_sub_wrap hneg (hx hneg)
      cases hl2 : look (-xb) T.homes with
      | some p =>
        cases hl1 : look (xa, pa) T.ends with
        | some q =>
          simp -implicitDefEqProofs [Nat.add_assoc, cells_row h.self, h.self, h.ends, h.homes, d1, d2, d3, d5, d8, d9, d12, d13, old_ne hbn, old_ne hen, old_ne hhn, ne_both nbe, ne_both nbh, ne_both heh, hneg, hw, hl1, hl2, encPl, encEnd, h1, h2, cells_row h1, old_ne h4, ne_both nob, ne_both noe, ne_both noh, sz, nsz]
          clear d1 d2 d3 d5 d8 d9 d12 d13
          repeat' apply And.intro
          all_goals (try omega)
          refine hQ' _ _ _ rfl ⟨?_, ?_, ?_⟩
          · (repeat' first | with_reducible exact Below'.refl ‹_› | with_reducible assumption | with_reducible apply Below'.grow | with_reducible apply Below'.new | with_reducible refine Below'.set ?_ ?_ | with_reducible refine Below'.kill ?_ ?_ | (simp only [next_new, next_set, next_grow, next_kill]; omega) | omega)
          · simp [TopoL.join, hneg, hl2]
          · intro T' hT; simp [TopoL.join, hneg, hl2] at hT
        | none =>
          simp -implicitDefEqProofs [Nat.add_assoc, cells_row h.self, h.self, h.ends, h.homes, d1, d2, d3, d5, d8, d9, d12, d13, old_ne hbn, old_ne hen, old_ne hhn, ne_both nbe, ne_both nbh, ne_both heh, hneg, hw, hl1, hl2, encPl, encEnd, h1, h2, cells_row h1, old_ne h4, ne_both nob, ne_both noe, ne_both noh, sz, nsz]
          clear d1 d2 d3 d5 d8 d9 d12 d13
          repeat' apply And.intro
          all_goals (try omega)
          refine hQ' _ _ _ rfl ⟨?_, ?_, ?_⟩
          · (repeat' first | with_reducible exact Below'.refl ‹_› | with_reducible assumption | with_reducible apply Below'.grow | with_reducible apply Below'.new | with_reducible refine Below'.set ?_ ?_ | with_reducible refine Below'.kill ?_ ?_ | (simp only [next_new, next_set, next_grow, next_kill]; omega) | omega)
          · simp [TopoL.join, hneg, hl2]
          · intro T' hT; simp [TopoL.join, hneg, hl2] at hT
      | none =>
        cases hl1 : look (xa, pa) T.ends with
        | some p =>
          simp -implicitDefEqProofs [Nat.add_assoc, cells_row h.self, h.self, h.ends, h.homes, d1, d2, d3, d5, d8, d9, d12, d13, old_ne hbn, old_ne hen, old_ne hhn, ne_both nbe, ne_both nbh, ne_both heh, hneg, hw, hl1, hl2, encEnd, h1, h2, cells_row h1, old_ne h4, ne_both nob, ne_both noe, ne_both noh, sz, nsz]
          clear d1 d2 d3 d5 d8 d9 d12 d13
          repeat' apply And.intro
          all_goals (try omega)
          refine hQ' _ _ _ rfl ⟨?_, ?_, ?_⟩
          · (repeat' first | with_reducible exact Below'.refl ‹_› | with_reducible assumption | with_reducible apply Below'.grow | with_reducible apply Below'.new | with_reducible refine Below'.set ?_ ?_ | with_reducible refine Below'.kill ?_ ?_ | (simp only [next_new, next_set, next_grow, next_kill]; omega) | omega)
          · simp [TopoL.join, hneg, hl2, hl1]
          · intro T' hT; simp [TopoL.join, hneg, hl2, hl1] at hT
        | none =>
          simp -implicitDefEqProofs [Nat.add_assoc, cells_row h.self, h.self, h.ends, h.homes, d1, d2, d3, d5, d8, d9, d12, d13, old_ne hbn, old_ne hen, old_ne hhn, ne_both nbe, ne_both nbh, ne_both heh, hneg, hw, hl1, hl2, h1, h2, cells_row h1, old_ne h4, ne_both nob, ne_both noe, ne_both noh, sz, nsz]
          clear d1 d2 d3 d5 d8 d9 d12 d13
          repeat' apply And.intro
          all_goals (try omega)
          refine hQ' _ _ _ rfl ⟨?_, ?_, ?_⟩
          · (repeat' first | with_reducible exact Below'.refl ‹_› | with_reducible assumption | with_reducible apply Below'.grow | with_reducible apply Below'.new | with_reducible refine Below'.set ?_ ?_ | with_reducible refine Below'.kill ?_ ?_ | (simp only [next_new, next_set, next_grow, next_kill]; omega) | omega)
          · simp [TopoL.join, hneg, hl2, hl1]
          · intro T' hT
            simp [TopoL.join, hneg, hl2, hl1] at hT
            subst hT
            refine ⟨.slc (m.next + 13) 0 (n + 1) (n + 1) 1 false, ⟨?_, ?_, ?_⟩, .inr ⟨m.next + 13, rfl, ?_, ?_, ?_, ?_⟩, ?_⟩
            · simp -implicitDefEqProofs [Nat.add_assoc, h.self, h.ends, h.homes, old_ne hbn, old_ne hen, old_ne hhn, ne_both nbe, ne_both nbh, ne_both heh, h1, h2, old_ne h4, ne_both nob, ne_both noe, ne_both noh, List.take_of_length_le]
            · simp -implicitDefEqProofs [Nat.add_assoc, h.self, h.ends, h.homes, old_ne hbn, old_ne hen, old_ne hhn, ne_both nbe, ne_both nbh, ne_both heh, h1, h2, old_ne h4, ne_both nob, ne_both noe, ne_both noh, List.take_of_length_le]
            · simp -implicitDefEqProofs [Nat.add_assoc, h.self, h.ends, h.homes, old_ne hbn, old_ne hen, old_ne hhn, ne_both nbe, ne_both nbh, ne_both heh, h1, h2, old_ne h4, ne_both nob, ne_both noe, ne_both noh, List.take_of_length_le]
            · simp -implicitDefEqProofs [Nat.add_assoc, h.self, h.ends, h.homes, old_ne hbn, old_ne hen, old_ne hhn, ne_both nbe, ne_both nbh, ne_both heh, h1, h2, old_ne h4, ne_both nob, ne_both noe, ne_both noh, List.take_of_length_le]
            · simp [h2]
            · omega
            · simp -implicitDefEqProofs [Nat.add_assoc]
            · intro c o l k e ex hh; injection hh with hh; omega
    · cases hl2 : look (xb, pb) T.ends with
      | some p =>
        cases hl1 : look (xa, pa) T.ends with
        | some q =>
          simp -implicitDefEqProofs [Nat.add_assoc, cells_row h.self, h.self, h.ends, h.homes, d1, d2, d3, d5, d8, d9, d12, d13, old_ne hbn, old_ne hen, old_ne hhn, ne_both nbe, ne_both nbh, ne_both heh, hneg, hl1, hl2, encEnd, h1, h2, cells_row h1, old_ne h4, ne_both nob, ne_both noe, ne_both noh, sz, nsz]
          clear d1 d2 d3 d5 d8 d9 d12 d13
          repeat' apply And.intro
          all_goals (try omega)
          refine hQ' _ _ _ rfl ⟨?_, ?_, ?_⟩
          · (repeat' first | with_reducible exact Below'.refl ‹_› | with_reducible assumption | with_reducible apply Below'.grow | with_reducible apply Below'.new | with_reducible refine Below'.set ?_ ?_ | with_reducible refine Below'.kill ?_ ?_ | (simp only [next_new, next_set, next_grow, next_kill]; omega) | omega)
          · simp [TopoL.join, hneg, hl2]
          · intro T' hT; simp [TopoL.join, hneg, hl2] at hT
        | none =>
          simp -implicitDefEqProofs [Nat.add_assoc, cells_row h.self, h.self, h.ends, h.homes, d1, d2, d3, d5, d8, d9, d12, d13, old_ne hbn, old_ne hen, old_ne hhn, ne_both nbe, ne_both nbh, ne_both heh, hneg, hl1, hl2, encEnd, h1, h2, cells_row h1, old_ne h4, ne_both nob, ne_both noe, ne_both noh, sz, nsz]
          clear d1 d2 d3 d5 d8 d9 d12 d13
          repeat' apply And.intro
          all_goals (try omega)
          refine hQ' _ _ _ rfl ⟨?_, ?_, ?_⟩
          · (repeat' first | with_reducible exact Below'.refl ‹_› | with_reducible assumption | with_reducible apply Below'.grow | with_reducible apply Below'.new | with_reducible refine Below'.set ?_ ?_ | with_reducible refine Below'.kill ?_ ?_ | (simp only [next_new, next_set, next_grow, next_kill]; omega) | omega)
          · simp [TopoL.join, hneg, hl2]
          · intro T' hT; simp [TopoL.join, hneg, hl2] at hT
      | none =>
        cases hl1 : look (xa, pa) T.ends with
        | some p =>
          simp -implicitDefEqProofs [Nat.add_assoc, cells_row h.self, h.self, h.ends, h.homes, d1, d2, d3, d5, d8, d9, d12, d13, old_ne hbn, old_ne hen, old_ne hhn, ne_both nbe, ne_both nbh, ne_both heh, hneg, hl1, hl2, encEnd, h1, h2, cells_row h1, old_ne h4, ne_both nob, ne_both noe, ne_both noh, sz, nsz]
          clear d1 d2 d3 d5 d8 d9 d12 d13
          repeat' apply And.intro
          all_goals (try omega)
          refine hQ' _ _ _ rfl ⟨?_, ?_, ?_⟩
          · (repeat' first | with_reducible exact Below'.refl ‹_› | with_reducible assumption | with_reducible apply Below'.grow | with_reducible apply Below'.new | with_reducible refine Below'.set ?_ ?_ | with_reducible refine Below'.kill ?_ ?_ | (simp only [next_new, next_set, next_grow, next_kill]; omega) | omega)
          · simp [TopoL.join, hneg, hl2, hl1]
          · intro T' hT; simp [TopoL.join, hneg, hl2, hl1] at hT
        | none =>
          simp -implicitDefEqProofs [Nat.add_assoc, cells_row h.self, h.self, h.ends, h.homes, d1, d2, d3, d5, d8, d9, d12, d13, old_ne hbn, old_ne hen, old_ne hhn, ne_both nbe, ne_both nbh, ne_both heh, hneg, hl1, hl2, h1, h2, cells_row h1, old_ne h4, ne_both nob, ne_both noe, ne_both noh, sz, nsz]
          clear d1 d2 d3 d5 d8 d9 d12 d13
          repeat' apply And.intro
          all_goals (try omega)
          refine hQ' _ _ _ rfl ⟨?_, ?_, ?_⟩
          · (repeat' first | with_reducible exact Below'.refl ‹_› | with_reducible assumption | with_reducible apply Below'.grow | with_reducible apply Below'.new | with_reducible refine Below'.set ?_ ?_ | with_reducible refine Below'.kill ?_ ?_ | (simp only [next_new, next_set, next_grow, next_kill]; omega) | omega)
          · simp [TopoL.join, hneg, hl2, hl1]
          · intro T' hT
            simp [TopoL.join, hneg, hl2, hl1] at hT
            subst hT
            refine ⟨.slc (m.next + 13) 0 (n + 1) (n + 1) 1 false, ⟨?_, ?_, ?_⟩, .inr ⟨m.next + 13, rfl, ?_, ?_, ?_, ?_⟩, ?_⟩
            · simp -implicitDefEqProofs [Nat.add_assoc, h.self, h.ends, h.homes, old_ne hbn, old_ne hen, old_ne hhn, ne_both nbe, ne_both nbh, ne_both heh, h1, h2, old_ne h4, ne_both nob, ne_both noe, ne_both noh, List.take_of_length_le]
            · simp -implicitDefEqProofs [Nat.add_assoc, h.self, h.ends, h.homes, old_ne hbn, old_ne hen, old_ne hhn, ne_both nbe, ne_both nbh, ne_both heh, h1, h2, old_ne h4, ne_both nob, ne_both noe, ne_both noh, List.take_of_length_le]
            · simp -implicitDefEqProofs [Nat.add_assoc, h.self, h.ends, h.homes, old_ne hbn, old_ne hen, old_ne hhn, ne_both nbe, ne_both nbh, ne_both heh, h1, h2, old_ne h4, ne_both nob, ne_both noe, ne_both noh, List.take_of_length_le]
            · simp -implicitDefEqProofs [Nat.add_assoc, h.self, h.ends, h.homes, old_ne hbn, old_ne hen, old_ne hhn, ne_both nbe, ne_both nbh, ne_both heh, h1, h2, old_ne h4, ne_both nob, ne_both noe, ne_both noh, List.take_of_length_le]
            · simp [h2]
            · omega
            · simp -implicitDefEqProofs [Nat.add_assoc]
            · intro c o l k e ex hh; injection hh with hh; omega
end Go.Proofs.YtcbileongahhiaaGreat.Ev
