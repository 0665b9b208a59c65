/- net: the contracts of Fail, at and State. -/
import Derived.Test.YtcbileongahhiaaGreatNet3
namespace Go.Proofs.YtcbileongahhiaaGreat.Ev
open Go Go.Proofs
set_option linter.unusedVariables false
set_option linter.unusedSimpArgs false

/-- the ports of some ends live, or die -/
def setLive (f : Nat → List Bool) (p : PlL) (v : Bool) : Nat → List Bool := fun i => if (i : Int) + 1 = p.1 then (f i).set p.2.toNat v else f i
def setLives (f : Nat → List Bool) (l : List PlL) (v : Bool) : Nat → List Bool := l.foldl (fun f p => setLive f p v) f

theorem setLives_snoc (f : Nat → List Bool) (l : List PlL) (p : PlL) (v : Bool) : setLives f (l ++ [p]) v = setLive (setLives f l v) p v := by
  simp [setLives]

theorem endCells_at {l : List PlL} {j : Nat} (hj : j < l.length) : ((endCells l).drop (j * 2)).take 2 = [.int .i64 l[j].1, .int .i64 l[j].2] := by
  have : endCells l = (l.map fun p => [AV.int .i64 p.1, AV.int .i64 p.2]).flatten := by simp [endCells, List.flatMap]
  rw [this]
  exact flatten_at (esz := 2) (by intro r hr; simp only [List.mem_map] at hr; obtain ⟨x, _, rfl⟩ := hr; rfl) (by simp [hj])

section
variable {m m' : Mem} {lo tb nb sb lb wb : Nat} {ex : Bool} {dl : List Nat} {ll : List (Int × LkL)} {dn : List (Int × Bool)} {lives : Nat → List Bool}

/-- a port of a switch lives, or dies -/
theorem IsNet.port (h : IsNet m lo tb nb sb lb wb ex dl ll dn lives) (hfr : Fresh m) {i d : Nat} (hd : dl[i]? = some d) {p : Int} {v : Bool} (hold : ∀ c, c ≠ d + 3 → m'.get c = m.get c) (hD : IsDev m' d ((lives i).set p.toNat v)) :
    IsNet m' lo tb nb sb lb wb ex dl ll dn (setLive lives ((i : Int) + 1, p) v) := by
  have hne := h.dev_ne hd 3 (by omega)
  refine { h with net := ?_, sw := ?_, links := ?_, down := ?_, lk := fun k b l hk => ?_, devs := fun j c hc => ?_ }
  · rw [hold nb hne.1.symm]; exact h.net
  · rw [hold sb hne.2.1.symm]; exact h.sw
  · rw [hold lb hne.2.2.1.symm]; exact h.links
  · rw [hold wb hne.2.2.2.1.symm]; exact h.down
  · obtain ⟨h1, h2⟩ := h.lk k b l hk
    exact ⟨(hold b (hne.2.2.2.2 k b l hk).symm).trans h1, h2⟩
  · obtain ⟨D, h2, h3⟩ := h.devs j c hc
    by_cases hji : j = i
    · subst hji
      obtain rfl : d = c := by rw [hd] at hc; injection hc
      simp only [setLive, if_true]
      exact ⟨hD, by simp [h2], h3⟩
    · have : ¬ ((j : Int) + 1 = (i : Int) + 1) := by omega
      simp only [setLive, if_neg this]
      refine ⟨D.keep fun k hk => hold _ ?_, h2, h3⟩
      rcases Nat.lt_or_ge j i with hlt | hge
      · have := h.gap j i c d hlt hc hd; omega
      · have := h.gap i j d c (by omega) hd hc; omega

/-- a link is noted as down, or not -/
theorem IsNet.note (h : IsNet m lo tb nb sb lb wb ex dl ll dn lives) {dn' : List (Int × Bool)} (hold : ∀ c, c ≠ wb → m'.get c = m.get c) (hwb : m'.get wb = some (.map (mapEs encInt encB dn'))) :
    IsNet m' lo tb nb sb lb wb ex dl ll dn' lives := by
  refine { h with net := ?_, sw := ?_, links := ?_, down := hwb, lk := fun k b l hk => ?_, devs := fun j c hc => ?_ }
  · rw [hold nb (ne_get h.net h.down (by simp))]; exact h.net
  · rw [hold sb (ne_get h.sw h.down (by simp))]; exact h.sw
  · rw [hold lb h.lbwb]; exact h.links
  · obtain ⟨h1, h2⟩ := h.lk k b l hk
    exact ⟨(hold b (ne_get h1 h.down (by simp))).trans h1, h2⟩
  · obtain ⟨D, h2, h3⟩ := h.devs j c hc
    exact ⟨D.keep fun k hk => hold _ (h.dev_ne hc k hk).2.2.2.1, h2, h3⟩
end

def FailPost (m : Mem) (lo tb nb sb lb wb : Nat) (ex : Bool) (dl : List Nat) (ll : List (Int × LkL)) (lives : Nat → List Bool) (link : Int) (b : Bool) (v : AV) (m' : Mem) : Prop :=
  Below' lo m m' ∧ v = .int .i64 (if linksOf ll link = [] then 31 else 0) ∧ ∃ dn', IsNet m' lo tb nb sb lb wb ex dl ll dn' (setLives lives (linksOf ll link) (!b))

set_option maxHeartbeats 2000000 in
theorem fail_ok {m : Mem} {lo tb nb sb lb wb : Nat} {ex : Bool} {dl : List Nat} {ll : List (Int × LkL)} {dn : List (Int × Bool)} {lives : Nat → List Bool} {link : Int} {b : Bool}
    (h : IsNet m lo tb nb sb lb wb ex dl ll dn lives) (hlo : lo ≤ m.next) (hl : ∀ p ∈ linksOf ll link, ∃ i q : Nat, p = ((i : Int) + 1, (q : Int)) ∧ i < dl.length ∧ 1 ≤ q ∧ q ≤ 16) (hlen : (linksOf ll link).length < 1000) :
    ContrR Tryz.prog 0 28 [.ptr nb 0, .int .i64 link, .bool b] m (FailPost m lo tb nb sb lb wb ex dl ll lives link b) := by
  refine contrR_go (call := tab [(42, portSpec)]) mixed sane Tryz.func28 rfl (by rw [Tryz.ntmps28]; exact Nat.le_of_ble_eq_true rfl) (tab_ok ⟨portSpec_ok, trivial⟩) fun Q hQ hfr => ?_
  have d9 : ancsAt 9 Tryz.f28 = [0, 1, 3, 7, 0, 16, 63, 127, 0, 256, 0, 1024, 4095] := by kernel_rfl
  simp only [ancsAt, Tryz.f28, opsAt, Option.or_some, Option.none_or, Option.some_or, Option.or_none, Option.getD_none, Option.getD_some, if_true, if_false, reduceIte, Nat.reduceEqDiff] at d9
  have hQ' : ∀ e m1 v, e 6 = some v → FailPost m lo tb nb sb lb wb ex dl ll lives link b v m1 → Q .ret e m1 := fun e m1 v h1 h3 => hQ e m1 [v] (by rw [Tryz.results28]; simp [h1]) h3
  clear hQ
  have hnn := hfr.lt h.net
  have hwn := hfr.lt h.down
  have hln := hfr.lt h.links
  have nnw : nb ≠ wb := ne_get h.net h.down (by simp)
  have none_ : linksOf ll link = [] → ∀ e : Env, e 6 = some (.int .i64 31) → Q .ret e m := fun h0 e he =>
    hQ' _ _ _ he ⟨Below'.refl hlo, by rw [if_pos h0], dn, by rw [h0]; exact h⟩
  cases hlk : look link ll with
  | none =>
    simp -implicitDefEqProofs [cells_row h.net, h.links, hlk]
    exact none_ (linksOf_none hlk) _ rfl
  | some ol =>
    obtain ⟨ob, l⟩ := ol
    have hl0 := linksOf_some hlk
    obtain ⟨hob, hlob⟩ := h.lk _ _ _ hlk
    have now : ob ≠ wb := ne_get hob h.down (by simp)
    by_cases hl1 : l = []
    · subst hl1
      simp -implicitDefEqProofs [cells_row h.net, h.links, hlk, encLk]
      exact none_ hl0 _ rfl
    · have hl2 : ¬ ((l.length : Int) = 0) := by have := List.length_pos_iff.2 hl1; omega
      have hl2' : ¬ (l.length = 0) := by omega
      simp -implicitDefEqProofs [cells_row h.net, h.links, hlk, encLk, hl2, hl2', hl1, h.down, ne_both nnw, ne_both h.lbwb]
      generalize hM : Mem.set m wb _ = M1
      have h1 : IsNet M1 lo tb nb sb lb wb ex dl ll (putAt link b dn) lives := h.note (fun c hc => by rw [← hM, get_set_ne hc]) (by rw [← hM, get_set_same])
      have hb1 : Below' lo m M1 := by rw [← hM]; exact Below'.set (Below'.refl hlo) h.lowb
      clear hM
      rw [hl0] at hl hlen
      obtain ⟨I, hI⟩ : ∃ I : Nat → Env → Mem → Prop, I = fun n e mm => Below' lo m mm ∧ e 0 = some (.ptr nb 0) ∧ e 2 = some (.bool b) ∧ e 32 = some (.slc ob 0 l.length l.length 2 false) ∧ e 33 = some (.int .i64 (l.length : Nat)) ∧
          ∃ j, j ≤ l.length ∧ n = l.length - j ∧ e 34 = some (.int .i64 (j : Nat)) ∧ IsNet mm lo tb nb sb lb wb ex dl ll (putAt link b dn) (setLives lives (l.take j) (!b)) := ⟨_, rfl⟩
      refine runLoop_by I l.length ?_ ?_
      · rw [hI]
        exact ⟨hb1, by simp, by simp, by simp, by simp, 0, by omega, by omega, by simp, by simpa [setLives] using h1⟩
      intro L hL1 hL2 hL3 n e mm hin hf'
      rw [hI] at hin
      obtain ⟨hbm, e0, e2, e32, e33, j, hj, rfl, e34, hn⟩ := hin
      have hwj : IntKind.i64.wrap ((j : Int) + 1) = (j : Int) + 1 := wrap_i64 (by omega)
      by_cases hjl : j < l.length
      · obtain ⟨i, q, hp, hi, hq1, hq2⟩ := hl l[j] (List.getElem_mem hjl)
        obtain ⟨hob', _⟩ := hn.lk _ _ _ hlk
        have hat : mm.cells ob (j * 2) 2 = some [.int .i64 ((i : Int) + 1), .int .i64 (q : Int)] := by
          rw [cells_row hob', if_pos (by rw [endCells_len]; omega), endCells_at hjl, hp]
        have hdi : dl[i]? = some dl[i] := List.getElem?_eq_getElem hi
        obtain ⟨D, hlv, hlod⟩ := hn.devs i _ hdi
        have hsw : mm.cells sb (i + 1) 1 = some [.ptr (dl[i] + 5) 0] := by
          rw [cells_row hn.sw, if_pos (by simp; omega), List.drop_succ_cons, ← List.map_drop, List.drop_eq_getElem_cons hi]; rfl
        have hit : ((i : Int) + 1).toNat = i + 1 := by omega
        have hi0 : (0 : Int) ≤ (i : Int) + 1 := by omega
        have hnm := hf'.lt hn.net
        have hsm := hf'.lt hn.sw
        have hom := hf'.lt hob'
        simp -implicitDefEqProofs [e0, e2, e32, e33, e34, hjl, hat, hsw, d9, cells_row hn.net, old_ne hnm, old_ne hsm, old_ne hom, hit, hi0, hi, Nat.add_assoc]
        generalize hM : Mem.grow _ 13 = M1
        have hxM : Ext mm M1 := by rw [← hM]; (repeat' first | with_reducible exact Ext.refl | with_reducible assumption | with_reducible apply Ext.grow | with_reducible apply Ext.new | with_reducible refine Ext.set ?_ ?_ | with_reducible refine Ext.kill ?_ ?_ | (simp only [next_new, next_set, next_grow, next_kill]; omega) | omega)
        have hfM : Fresh M1 := by rw [← hM]; (repeat' first | with_reducible assumption | with_reducible apply Fresh.new | with_reducible refine Fresh.set ?_ ?_ | with_reducible apply Fresh.kill | with_reducible apply Fresh.grow | (simp only [next_new, next_set, next_grow, next_kill]; omega) | omega)
        have hbM : Below' lo mm M1 := by rw [← hM]; have := hbm.1; have := hbm.2.1; have hlomm : lo ≤ mm.next := by omega
                                         (repeat' first | with_reducible exact Below'.refl ‹_› | with_reducible assumption | with_reducible apply Below'.grow | with_reducible apply Below'.new | with_reducible refine Below'.set ?_ ?_ | with_reducible refine Below'.kill ?_ ?_ | (simp only [next_new, next_set, next_grow, next_kill]; omega) | omega)
        clear hM
        have hn1 := hn.ext hf' hxM
        obtain ⟨D1, hlv1, _⟩ := hn1.devs i _ hdi
        obtain ⟨v, m2, hsp, hnx, hold, hD2⟩ := portSpec_at (b := !b) D1 hlv1 hq1 hq2
        simp -implicitDefEqProofs [hsp, d9, e0, e2, e32, e33, e34, hwj, hL1]
        clear d9
        repeat' apply And.intro
        all_goals (try omega)
        refine ⟨l.length - (j + 1), by omega, ?_⟩
        rw [hI]
        have hn2 := hn1.port hfM hdi (p := (q : Int)) (v := !b) hold (by simpa using hD2)
        refine ⟨?_, by simp [e0], by simp [e2], by simp [e32], by simp [e33], j + 1, by omega, rfl, by simp, ?_⟩
        · refine ⟨hbm.1, ?_, fun c hc => ?_⟩
          · have := hbm.2.1; have := hxM.1; omega
          · rw [hold c (by omega), hbM.2.2 c hc, hbm.2.2 c hc]
        · rw [List.take_add_one, List.getElem?_eq_getElem hjl, hp]
          exact (setLives_snoc lives (l.take j) ((i : Int) + 1, (q : Int)) (!b)) ▸ hn2
      · obtain rfl : j = l.length := by omega
        simp -implicitDefEqProofs [e33, e34, hL2]
        refine hQ' _ _ _ rfl ⟨hbm, by rw [hl0, if_neg hl1], putAt link b dn, ?_⟩
        rw [List.take_length] at hn
        rw [hl0]
        exact hn
end Go.Proofs.YtcbileongahhiaaGreat.Ev
