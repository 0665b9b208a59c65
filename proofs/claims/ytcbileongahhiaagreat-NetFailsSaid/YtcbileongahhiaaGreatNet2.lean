/- net: the contract of New. -/
import Derived.Test.YtcbileongahhiaaGreatNet1
namespace Go.Proofs.YtcbileongahhiaaGreat.Ev
open Go Go.Proofs
set_option linter.unusedVariables false
set_option linter.unusedSimpArgs false

def linksOf (ll : List (Int × LkL)) (k : Int) : List PlL := ((look k ll).map (·.2)).getD []
/-- is there a link of a number to a switch at a port? -/
def sel (T : TopoL) (k : Int) (p : PlL) : Bool := decide (0 < (T.peer p.1 p.2).1) && decide ((T.peer p.1 p.2).2.2 = k)
def pairsAt (T : TopoL) (i : Nat) : List PlL := (T.ports ((i : Int) + 1) 16).map fun p => ((i : Int) + 1, p)
def pairs (T : TopoL) : Nat → List PlL
  | 0 => []
  | i + 1 => pairs T i ++ pairsAt T i

/-- a new net -/
def NetPost (m : Mem) (tb : Nat) (T : TopoL) (N : Nat) (v : AV) (m' : Mem) : Prop :=
  Ext m m' ∧ ∃ nb sb lb wb ex dl ll, v = .tup [.ptr nb 0, .int .i64 0] ∧ IsNet m' m.next tb nb sb lb wb ex dl ll [] (fun _ => liveAll) ∧ dl.length = N ∧ ∀ k, linksOf ll k = (pairs T N).filter (sel T k)

theorem pairs_len (T : TopoL) : ∀ i, (pairs T i).length ≤ 16 * i
  | 0 => by simp [pairs]
  | i + 1 => by
    have h1 := pairs_len T i
    have h2 := ports_len T ((i : Int) + 1) 16
    simp only [pairs, pairsAt, List.length_append, List.length_map]
    omega
theorem linksOf_put {ll : List (Int × LkL)} {k x : Int} {b : Nat} {l : List PlL} : linksOf (putAt x (b, l) ll) k = if k = x then l else linksOf ll k := by
  unfold linksOf
  rw [look_putAt]
  split <;> rfl
theorem linksOf_some {ll : List (Int × LkL)} {k : Int} {b : Nat} {l : List PlL} (h : look k ll = some (b, l)) : linksOf ll k = l := by
  unfold linksOf; rw [h]; rfl
theorem linksOf_none {ll : List (Int × LkL)} {k : Int} (h : look k ll = none) : linksOf ll k = [] := by
  unfold linksOf; rw [h]; rfl
theorem take_map_succ {pl : List Int} {j : Nat} (a : Int) (hj : j < pl.length) : (pl.take (j + 1)).map (fun p => ((a, p) : PlL)) = (pl.take j).map (fun p => ((a, p) : PlL)) ++ [(a, pl[j])] := by
  rw [List.take_add_one, List.getElem?_eq_getElem hj, List.map_append]; rfl

set_option maxHeartbeats 2000000 in
theorem netNew_ok {m : Mem} {tb eb hb : Nat} {cv : AV} {T : TopoL} {N : Nat} (hT : IsTopo m tb eb hb cv T) (hN : T.size = (N : Int)) (hN2 : N ≤ 32) :
    ContrR Tryz.prog 0 26 [.ptr tb 0, .int .i64 9, .int .i64 9] m (NetPost m tb T N) := by
  refine contrR_go (call := tab0) mixed sane Tryz.func26 rfl (by rw [Tryz.ntmps26]; exact Nat.le_of_ble_eq_true rfl) tab0_ok fun Q hQ hfr => ?_
  have d16 : ancsAt 16 Tryz.f26 = [0, 1, 3, 7, 0, 0, 32, 96, 224, 0, 992, 0, 2048, 0, 14336, 30720, 65504, 131071] := by kernel_rfl
  simp only [ancsAt, Tryz.f26, opsAt, Option.or_some, Option.none_or, Option.some_or, Option.or_none, Option.getD_none, Option.getD_some, if_true, if_false, reduceIte, Nat.reduceEqDiff] at d16
  have hQ' : ∀ e m1 v w, e 6 = some v → e 7 = some w → NetPost m tb T N (.tup [v, w]) m1 → Q .ret e m1 := fun e m1 v w h1 h2 h3 => hQ e m1 [v, w] (by rw [Tryz.results26]; simp [h1, h2]) h3
  clear hQ
  simp -implicitDefEqProofs
  refine ⟨_, (size_ok (hT.ext hfr (by (repeat' first | with_reducible exact Ext.refl | with_reducible assumption | with_reducible apply Ext.grow | with_reducible apply Ext.new | with_reducible refine Ext.set ?_ ?_ | with_reducible refine Ext.kill ?_ ?_ | (simp only [next_new, next_set, next_grow, next_kill]; omega) | omega)))).rel, ?_⟩
  rintro _ _ ⟨rfl, rfl⟩ hf1
  obtain ⟨I, hI⟩ : ∃ I : Nat → Env → Mem → Prop, I = fun n e m' => Ext m m' ∧ e 0 = some (.ptr tb 0) ∧ e 1 = some (.int .i64 9) ∧ e 2 = some (.int .i64 9) ∧ e 26 = some (.int .i64 (N : Int)) ∧
      ∃ i nb sb lb wb ex dl ll, i ≤ N ∧ n = N - i ∧ e 27 = some (.int .i64 (i : Nat)) ∧ e 8 = some (.ptr nb 0) ∧ IsNet m' m.next tb nb sb lb wb ex dl ll [] (fun _ => liveAll) ∧ dl.length = i ∧ (∀ k, linksOf ll k = (pairs T i).filter (sel T k)) := ⟨_, rfl⟩
  simp -implicitDefEqProofs [hN]
  refine runLoop_by I N ?_ ?_
  · rw [hI]
    refine ⟨by (repeat' first | with_reducible exact Ext.refl | with_reducible assumption | with_reducible apply Ext.grow | with_reducible apply Ext.new | with_reducible refine Ext.set ?_ ?_ | with_reducible refine Ext.kill ?_ ?_ | (simp only [next_new, next_set, next_grow, next_kill]; omega) | omega), rfl, rfl, rfl, rfl, 0, m.next + 1 + 1 + 1, m.next, m.next + 1, m.next + 1 + 1, true, [], [], by omega, by omega, rfl, rfl, ⟨?_, ?_, ?_, ?_, ?_, ?_, ?_, ?_, ?_, ?_, ?_, ?_, ?_, ?_⟩, rfl, fun k => rfl⟩
    · simp -implicitDefEqProofs [Nat.add_assoc]
    · simp -implicitDefEqProofs [Nat.add_assoc]
    · simp -implicitDefEqProofs [Nat.add_assoc, mapEs]
    · simp -implicitDefEqProofs [Nat.add_assoc, mapEs]
    · intro k b l h; cases h
    · intro k k' b l l' h; cases h
    · intro i d h; simp at h
    · intro i j c d _ h; simp at h
    · intro i d h; simp at h
    all_goals omega
  intro L hL1 hL2 hL3 n e m' hin hf'
  rw [hI] at hin
  obtain ⟨hx, e0, e1, e2, e26, i, nb, sb, lb, wb, ex, dl, ll, hi, rfl, e27, e8, hn, hdl, hll⟩ := hin
  have hw : IntKind.i64.wrap ((i : Int) + 1) = (i : Int) + 1 := wrap_i64 (by omega)
  by_cases hiN : i < N
  · simp -implicitDefEqProofs [e0, e1, e2, e26, e27, e8, hiN]
    refine ⟨_, devNew_ok, ?_⟩
    rintro _ m2 ⟨hx2, rfl, hdev, hnx⟩ hf2
    have hn2 := hn.ext hf' hx2
    have hnn := hf'.lt hn.net
    have hsn := hf'.lt hn.sw
    have hnn2 := hf2.lt hn2.net
    have hsn2 := hf2.lt hn2.sw
    have nns : nb ≠ sb := ne_get hn2.net hn2.sw (by simp)
    have hs1 : ¬ (dl.length + 1 + 1 ≤ dl.length + 1) := by omega
    have hs2 : (dl.length + 1 + 1) * 8 ≤ 1099511627776 ∧ dl.length + 1 + 1 ≤ 1099511627776 := by omega
    obtain ⟨pl, hpl⟩ : ∃ pl, T.ports ((i : Int) + 1) 16 = pl := ⟨_, rfl⟩
    have hpl16 : pl.length ≤ 16 := by rw [← hpl]; exact ports_len _ _ _
    cases ex
    all_goals
      simp -implicitDefEqProofs [e0, e1, e2, e26, e27, e8, hw, cells_row hn2.net, hn2.net, cells_row hn2.sw, hn2.sw, hs1, hs2, old_ne hnn2, old_ne hsn2, ne_both nns, Nat.add_assoc]
      have hxx := hx.trans hx2
      have lonb := hn2.lonb
      have losb := hn2.losb
      have hlo2 := hxx.1
      refine ⟨_, ports_ok (m := _) (hT.ext hfr (by (repeat' first | with_reducible exact Ext.refl | with_reducible assumption | with_reducible apply Ext.grow | with_reducible apply Ext.new | with_reducible refine Ext.set ?_ ?_ | with_reducible refine Ext.kill ?_ ?_ | (simp only [next_new, next_set, next_grow, next_kill]; omega) | omega))), ?_⟩
      rintro pv m4 ⟨hx4, hown⟩ hf4
      rw [hpl] at hown
      have hxm4 : Ext m m4 := Ext.trans (by (repeat' first | with_reducible exact Ext.refl | with_reducible assumption | with_reducible apply Ext.grow | with_reducible apply Ext.new | with_reducible refine Ext.set ?_ ?_ | with_reducible refine Ext.kill ?_ ?_ | (simp only [next_new, next_set, next_grow, next_kill]; omega) | omega)) hx4
      generalize hM : Mem.set _ nb _ = M3 at hx4
      have hf3 : Fresh M3 := by rw [← hM]; (repeat' first | with_reducible assumption | with_reducible apply Fresh.new | with_reducible refine Fresh.set ?_ ?_ | with_reducible apply Fresh.kill | with_reducible apply Fresh.grow | (simp only [next_new, next_set, next_grow, next_kill]; omega) | omega)
      -- the net as it is now
      have hn3 : IsNet M3 m.next tb nb (m2.next + 1) lb wb false (dl ++ [m'.next]) ll [] (fun _ => liveAll) := by
        refine IsNet.push hn2 hf2 (fun c hc h1 h2 => ?_) ?_ ?_ ?_ rfl hx.1 (by omega) (fun j c hc => ?_) ?_
        · rw [← hM]; simp -implicitDefEqProofs [old_ne hc, h1, h2, Nat.add_assoc]
        · rw [← hM]; simp -implicitDefEqProofs [old_ne hnn2, Nat.add_assoc]
        · rw [← hM]; simp -implicitDefEqProofs [old_ne hnn2, Nat.add_assoc, List.take_of_length_le]
        · refine hdev.keep fun k hk => ?_
          have h1 := IsDev.lt hf2 hdev k hk
          have h2 : m'.next + k ≠ nb := by omega
          have h3 : m'.next + k ≠ sb := by omega
          rw [← hM]; simp -implicitDefEqProofs [old_ne h1, h2, h3, Nat.add_assoc]
        · have := IsDev.lt hf' (hn.devs j c hc).1 5 (by omega)
          omega
        · have := hf'.lt hn.links
          have := hf'.lt hn.down
          omega
      have hn4 := hn3.ext hf3 hx4
      have hownm : OwnS m4 m.next pv 3 1 pl.length (pl.map (.int .i64)) := by
        rcases hown with h1 | ⟨b, h1, h2, h3, h4, h5⟩
        · exact .inl h1
        · refine .inr ⟨b, h1, h2, h3, ?_, h5⟩
          simp only [next_set, next_new, next_kill] at h4
          omega
      have hpll : (pl.map (AV.int .i64)).length = pl.length := by simp
      clear hM hown
      obtain ⟨d0, hd0⟩ : ∃ d0, m'.next = d0 := ⟨_, rfl⟩
      rw [hd0] at hn3 hn4
      obtain ⟨sb3, hsb3⟩ : ∃ sb3, m2.next + 1 = sb3 := ⟨_, rfl⟩
      rw [hsb3] at hn3 hn4
      obtain ⟨J, hJ⟩ : ∃ J : Nat → Env → Mem → Prop, J = fun n e mm => Ext m mm ∧ e 0 = some (.ptr tb 0) ∧ e 1 = some (.int .i64 9) ∧ e 2 = some (.int .i64 9) ∧ e 26 = some (.int .i64 (N : Int)) ∧ e 27 = some (.int .i64 (i : Nat)) ∧ e 9 = some (.int .i64 (i : Nat)) ∧ e 8 = some (.ptr nb 0) ∧ e 52 = some pv ∧ e 53 = some (.int .i64 (pl.length : Nat)) ∧
          ∃ j ll', j ≤ pl.length ∧ n = pl.length - j ∧ e 54 = some (.int .i64 (j : Nat)) ∧ OwnS mm m.next pv 3 1 pl.length (pl.map (.int .i64)) ∧ IsNet mm m.next tb nb sb3 lb wb false (dl ++ [d0]) ll' [] (fun _ => liveAll) ∧
            ∀ k, linksOf ll' k = (pairs T i ++ (pl.take j).map fun p => ((i : Int) + 1, p)).filter (sel T k) := ⟨_, rfl⟩
      have hown2 := hownm
      rcases hownm with ⟨hpv, q1, q2⟩ | ⟨pb, hpv, q1, q2, q3, q4⟩
      · subst hpv
        simp -implicitDefEqProofs [e0, e1, e2, e26, e27, e8, hw]
        refine runLoop_by J pl.length ?_ ?_
        · rw [hJ]
          exact ⟨hxm4, by simp [e0], by simp [e1], by simp [e2], by simp [e26], by simp [e27], by simp, by simp [e8], by simp, by simp [q1], 0, ll, by omega, by omega, by simp, hown2, hn4, by simpa using hll⟩
        intro L' hL1' hL2' hL3' n' e' mm hin' hf5
        rw [hJ] at hin'
        obtain ⟨hx5, f0, f1, f2, f26, f27, f9, f8, f52, f53, j, ll', hj, rfl, f54, hown5, hn5, hll5⟩ := hin'
        have hjl : ¬ j < pl.length := by omega
        obtain rfl : j = pl.length := by omega
        simp -implicitDefEqProofs [f53, f54, f27, hL2', hL1, hw]
        refine ⟨N - (i + 1), by omega, ?_⟩
        rw [hI]
        refine ⟨hx5, by simp [f0], by simp [f1], by simp [f2], by simp [f26], i + 1, nb, sb3, lb, wb, false, dl ++ [d0], ll', by omega, rfl, by simp, by simp [f8], hn5, by simp [hdl], fun k => ?_⟩
        rw [hll5 k, List.take_length]
        simp only [pairs, pairsAt, hpl]
      · subst hpv
        simp -implicitDefEqProofs [e0, e1, e2, e26, e27, e8, hw]
        refine runLoop_by J pl.length ?_ ?_
        · rw [hJ]
          exact ⟨hxm4, by simp [e0], by simp [e1], by simp [e2], by simp [e26], by simp [e27], by simp, by simp [e8], by simp, by simp [q1], 0, ll, by omega, by omega, by simp, hown2, hn4, by simpa using hll⟩
        intro L' hL1' hL2' hL3' n' e' mm hin' hf5
        rw [hJ] at hin'
        obtain ⟨hx5, f0, f1, f2, f26, f27, f9, f8, f52, f53, j, ll', hj, rfl, f54, hown5, hn5, hll5⟩ := hin'
        have hwj : IntKind.i64.wrap ((j : Int) + 1) = (j : Int) + 1 := wrap_i64 (by omega)
        by_cases hjl : j < pl.length
        · obtain ⟨pb, hpb, r1, r2, r3, r4⟩ := hown5.resolve_left (fun h => by omega)
          have hat : mm.cells pb j 1 = some [.int .i64 pl[j]] := by
            rw [cells_row r1, if_pos (by simp; omega), ← List.map_drop, List.drop_eq_getElem_cons hjl]; rfl
          injection hpb with hpb0
          subst hpb0
          simp -implicitDefEqProofs [f0, f1, f2, f26, f27, f9, f8, f52, f53, f54, hjl, hat, hw]
          refine ⟨_, (peer_ok (hT.ext hfr hx5) (sw := (i : Int) + 1) (port := pl[j])).rel, ?_⟩
          rintro _ _ ⟨rfl, rfl⟩ hf6
          obtain ⟨P3, hP3⟩ : ∃ P3, T.peer ((i : Int) + 1) pl[j] = P3 := ⟨_, rfl⟩
          rw [hP3]
          have hnm := hf5.lt hn5.net
          have hlm := hf5.lt hn5.links
          have nnl : nb ≠ lb := ne_get hn5.net hn5.links (by simp)
          have hstep := take_map_succ ((i : Int) + 1) hjl
          by_cases hto : 0 < P3.1
          · cases hlk : look P3.2.2 ll' with
            | none =>
              simp -implicitDefEqProofs [f0, f1, f2, f26, f27, f9, f8, f52, f53, f54, hto, hlk, hw, hwj, d16, cells_row hn5.net, hn5.net, hn5.links, old_ne hnm, old_ne hlm, ne_both nnl, Nat.add_assoc, hL1', putILk (ll := ll') (a := P3.2.2) (x := mm.next + 18) (l := [((i : Int) + 1, pl[j])]) (k := 1) rfl]
              clear d16
              repeat' apply And.intro
              all_goals (try omega)
              refine ⟨pl.length - (j + 1), by omega, ?_⟩
              rw [hJ]
              have lolb := hn5.lolb
              have hx5n := hx5.1
              generalize hM5 : Mem.set _ lb _ = M5
              have npl : pb ≠ lb := ne_get r1 hn5.links (by simp)
              refine ⟨by rw [← hM5]; (repeat' first | with_reducible exact Ext.refl | with_reducible assumption | with_reducible apply Ext.grow | with_reducible apply Ext.new | with_reducible refine Ext.set ?_ ?_ | with_reducible refine Ext.kill ?_ ?_ | (simp only [next_new, next_set, next_grow, next_kill]; omega) | omega), by simp [f0], by simp [f1], by simp [f2], by simp [f26], by simp [f27], by simp [f9], by simp [f8], by simp [f52], by simp [f53], j + 1, putAt P3.2.2 (mm.next + 18, [((i : Int) + 1, pl[j])]) ll', by omega, rfl, by simp, .inr ⟨pb, rfl, ?_, by simp, r3, ?_⟩, IsNet.link hn5 hf5 (fun c hc h1 h2 => ?_) ?_ ?_ (by omega) hx5n, fun k => ?_⟩
              · rw [← hM5]; simp -implicitDefEqProofs [old_ne r4, ne_both npl, r1]
              · rw [← hM5]; simp only [next_set, next_new, next_grow, next_kill]; omega
              · rw [← hM5]; simp -implicitDefEqProofs [old_ne hc, h1]
              · rw [← hM5]; simp -implicitDefEqProofs
              · rw [← hM5]; simp -implicitDefEqProofs [old_ne hlm, endCells]
              · rw [linksOf_put, hstep, ← List.append_assoc, List.filter_append, ← hll5 k]
                by_cases hk : k = P3.2.2
                · have h6 : sel T k ((i : Int) + 1, pl[j]) = true := by simp [sel, hP3, hto, hk]
                  rw [if_pos hk, hk, linksOf_none hlk, ← hk]; simp [h6]
                · have h6 : sel T k ((i : Int) + 1, pl[j]) = false := by simp [sel, hP3, Ne.symm hk]
                  rw [if_neg hk]; simp [h6]
            | some bl =>
              obtain ⟨ob, ol⟩ := bl
              obtain ⟨hob, hlob⟩ := hn5.lk _ _ _ hlk
              have hon := hf5.lt hob
              have nol : ob ≠ lb := ne_get hob hn5.links (by simp)
              have nno : nb ≠ ob := ne_get hn5.net hob (by simp)
              have hol : ol.length ≤ 1000 := by
                have h7 := hll5 P3.2.2
                rw [linksOf_some hlk] at h7
                rw [h7]
                refine Nat.le_trans (List.length_filter_le _ _) ?_
                have h8 := pairs_len T i
                have h9 := List.length_take_le j pl
                simp only [List.length_append, List.length_map]
                omega
              have hz1 : ¬ (ol.length + 1 ≤ ol.length) := by omega
              have hz2 : (ol.length + 1) * 16 ≤ 1099511627776 ∧ ol.length + 1 ≤ 1099511627776 := by omega
              simp -implicitDefEqProofs [f0, f1, f2, f26, f27, f9, f8, f52, f53, f54, hto, hlk, hw, hwj, d16, cells_row hn5.net, hn5.net, hn5.links, old_ne hnm, old_ne hlm, ne_both nnl, Nat.add_assoc, hL1', encLk, hz1, hz2, hob, cells_row hob, endCells_len, old_ne hon, ne_both nol, ne_both nno, putILk (ll := ll') (a := P3.2.2) (x := mm.next + 18) (l := ol ++ [((i : Int) + 1, pl[j])]) (k := ol.length + 1) (by simp)]
              clear d16
              repeat' apply And.intro
              all_goals (try omega)
              refine ⟨pl.length - (j + 1), by omega, ?_⟩
              rw [hJ]
              have lolb := hn5.lolb
              have hx5n := hx5.1
              generalize hM5 : Mem.set _ lb _ = M5
              have npl : pb ≠ lb := ne_get r1 hn5.links (by simp)
              have npo : pb ≠ ob := ne_get r1 hob (by simp)
              refine ⟨by rw [← hM5]; (repeat' first | with_reducible exact Ext.refl | with_reducible assumption | with_reducible apply Ext.grow | with_reducible apply Ext.new | with_reducible refine Ext.set ?_ ?_ | with_reducible refine Ext.kill ?_ ?_ | (simp only [next_new, next_set, next_grow, next_kill]; omega) | omega), by simp [f0], by simp [f1], by simp [f2], by simp [f26], by simp [f27], by simp [f9], by simp [f8], by simp [f52], by simp [f53], j + 1, putAt P3.2.2 (mm.next + 18, ol ++ [((i : Int) + 1, pl[j])]) ll', by omega, rfl, by simp, .inr ⟨pb, rfl, ?_, by simp, r3, ?_⟩, IsNet.link hn5 hf5 (fun c hc h1 h2 => ?_) ?_ ?_ (by omega) hx5n, fun k => ?_⟩
              · rw [← hM5]; simp -implicitDefEqProofs [old_ne r4, ne_both npl, ne_both npo, r1]
              · rw [← hM5]; simp only [next_set, next_new, next_grow, next_kill]; omega
              · have h3 : c ≠ ob := h2 ob ol hlk
                rw [← hM5]; simp -implicitDefEqProofs [old_ne hc, h1, h3]
              · rw [← hM5]; simp -implicitDefEqProofs
              · rw [← hM5, endCells_snoc]; simp -implicitDefEqProofs [old_ne hlm, List.take_of_length_le, endCells_len]
              · rw [linksOf_put, hstep, ← List.append_assoc, List.filter_append, ← hll5 k]
                by_cases hk : k = P3.2.2
                · have h6 : sel T k ((i : Int) + 1, pl[j]) = true := by simp [sel, hP3, hto, hk]
                  rw [if_pos hk, hk, linksOf_some hlk, ← hk]; simp [h6]
                · have h6 : sel T k ((i : Int) + 1, pl[j]) = false := by simp [sel, hP3, Ne.symm hk]
                  rw [if_neg hk]; simp [h6]
          · simp -implicitDefEqProofs [f0, f1, f2, f26, f27, f9, f8, f52, f53, f54, hto, hwj, hL1']
            refine ⟨pl.length - (j + 1), by omega, ?_⟩
            rw [hJ]
            refine ⟨hx5, by simp [f0], by simp [f1], by simp [f2], by simp [f26], by simp [f27], by simp [f9], by simp [f8], by simp [f52], by simp [f53], j + 1, ll', by omega, rfl, by simp, hown5, hn5, fun k => ?_⟩
            rw [hstep, ← List.append_assoc, List.filter_append, ← hll5 k]
            have : sel T k ((i : Int) + 1, pl[j]) = false := by simp [sel, hP3, hto]
            simp [this]
        · obtain rfl : j = pl.length := by omega
          simp -implicitDefEqProofs [f53, f54, f27, hL2', hL1, hw]
          refine ⟨N - (i + 1), by omega, ?_⟩
          rw [hI]
          refine ⟨hx5, by simp [f0], by simp [f1], by simp [f2], by simp [f26], i + 1, nb, sb3, lb, wb, false, dl ++ [d0], ll', by omega, rfl, by simp, by simp [f8], hn5, by simp [hdl], fun k => ?_⟩
          rw [hll5 k, List.take_length]
          simp only [pairs, pairsAt, hpl]
  · obtain rfl : i = N := by omega
    simp -implicitDefEqProofs [e26, e27, e8, hL2]
    exact hQ' _ _ _ _ rfl rfl ⟨hx, nb, sb, lb, wb, ex, dl, ll, rfl, hn, hdl, hll⟩
end Go.Proofs.YtcbileongahhiaaGreat.Ev
