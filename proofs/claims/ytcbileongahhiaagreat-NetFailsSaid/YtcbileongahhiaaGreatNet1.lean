/- net: what a net is in memory. -/
import Derived.Test.YtcbileongahhiaaGreatDev3
namespace Go.Proofs.YtcbileongahhiaaGreat.Ev
open Go Go.Proofs
set_option linter.unusedVariables false
set_option linter.unusedSimpArgs false

/-- a link's ends: the block in which they lie, and what they are -/
abbrev LkL := Nat × List PlL
def encLk (x : LkL) : AV := .slc x.1 0 x.2.length x.2.length 2 false
def encB (b : Bool) : AV := .bool b
def endCells (l : List PlL) : List AV := l.flatMap fun p => [.int .i64 p.1, .int .i64 p.2]
theorem endCells_len (l : List PlL) : (endCells l).length = l.length * 2 := by
  induction l with
  | nil => rfl
  | cons a l ih =>
    unfold endCells at ih ⊢
    rw [List.flatMap_cons, List.length_append, ih]
    simp; omega
theorem endCells_snoc (l : List PlL) (a b : Int) : endCells (l ++ [(a, b)]) = endCells l ++ [.int .i64 a, .int .i64 b] := by
  simp [endCells]

theorem putILk {ll : List (Int × LkL)} {a : Int} {x k : Nat} {l : List PlL} (h : l.length = k) : putEs Tryz.prog 3 (mapEs encInt encLk ll) (.int .i64 a) (.slc x 0 k k 2 false) = some (mapEs encInt encLk (putAt a (x, l) ll)) := by
  subst h; exact putEs_mapEs keyI (x := a) (u := (x, l))
theorem putIB {ll : List (Int × Bool)} {a : Int} {b : Bool} : putEs Tryz.prog 3 (mapEs encInt encB ll) (.int .i64 a) (.bool b) = some (mapEs encInt encB (putAt a b ll)) := putEs_mapEs keyI (x := a) (u := b)
attribute [simp] putIB

/-- a net's blocks; all lie behind lo -/
structure IsNet (m : Mem) (lo tb nb sb lb wb : Nat) (ex : Bool) (dl : List Nat) (ll : List (Int × LkL)) (dn : List (Int × Bool)) (lives : Nat → List Bool) : Prop where
  net : m.get nb = some (.row true (some 0) 194 [.ptr tb 0, .slc sb 0 (dl.length + 1) (dl.length + 1) 1 ex, .map lb, .map wb])
  sw : m.get sb = some (.row true (some 0) 90 (.nilp :: dl.map fun d => .ptr (d + 5) 0))
  links : m.get lb = some (.map (mapEs encInt encLk ll))
  down : m.get wb = some (.map (mapEs encInt encB dn))
  lk : ∀ k b l, look k ll = some (b, l) → m.get b = some (.row true (some 0) 201 (endCells l)) ∧ lo ≤ b
  inj : ∀ k k' b l l', look k ll = some (b, l) → look k' ll = some (b, l') → k = k'
  devs : ∀ i d : Nat, dl[i]? = some d → IsDev m d (lives i) ∧ (lives i).length = 17 ∧ lo ≤ d
  gap : ∀ i j c d : Nat, i < j → dl[i]? = some c → dl[j]? = some d → c + 6 ≤ d
  before : ∀ i d : Nat, dl[i]? = some d → lb < d ∧ wb < d
  lbwb : lb ≠ wb
  lonb : lo ≤ nb
  losb : lo ≤ sb
  lolb : lo ≤ lb
  lowb : lo ≤ wb

theorem ne_get {m : Mem} {a b : Nat} {x y : Blk} (ha : m.get a = some x) (hb : m.get b = some y) (h : x ≠ y) : a ≠ b := fun e => by
  subst e; rw [ha] at hb; injection hb with hb; exact h hb

theorem IsDev.keep {m m' : Mem} {d : Nat} {live : List Bool} (h : IsDev m d live) (hk : ∀ k, k < 6 → m'.get (d + k) = m.get (d + k)) : IsDev m' d live :=
  ⟨(hk 0 (by omega)).trans h.flows, (hk 1 (by omega)).trans h.gmap, (hk 2 (by omega)).trans h.groups, (hk 3 (by omega)).trans h.live, (hk 4 (by omega)).trans h.meters, (hk 5 (by omega)).trans h.self⟩

section
variable {m m' : Mem} {lo tb nb sb lb wb : Nat} {ex : Bool} {dl : List Nat} {ll : List (Int × LkL)} {dn : List (Int × Bool)} {lives : Nat → List Bool}

/-- the blocks of a switch are none of the net's own -/
theorem IsNet.dev_ne (h : IsNet m lo tb nb sb lb wb ex dl ll dn lives) {i d : Nat} (hd : dl[i]? = some d) : ∀ k, k < 6 → d + k ≠ nb ∧ d + k ≠ sb ∧ d + k ≠ lb ∧ d + k ≠ wb ∧ ∀ x b l, look x ll = some (b, l) → d + k ≠ b := by
  intro k hk
  have D := (h.devs i d hd).1
  have hk' : k = 0 ∨ k = 1 ∨ k = 2 ∨ k = 3 ∨ k = 4 ∨ k = 5 := by omega
  have hmap : d + 1 ≠ lb ∧ d + 1 ≠ wb := by have := h.before i d hd; omega
  rcases hk' with rfl | rfl | rfl | rfl | rfl | rfl
  · exact ⟨ne_get D.flows h.net (by simp), ne_get D.flows h.sw (by simp), ne_get D.flows h.links (by simp), ne_get D.flows h.down (by simp), fun x b l hx => ne_get D.flows (h.lk x b l hx).1 (by simp)⟩
  · exact ⟨ne_get D.gmap h.net (by simp), ne_get D.gmap h.sw (by simp), hmap.1, hmap.2, fun x b l hx => ne_get D.gmap (h.lk x b l hx).1 (by simp)⟩
  · exact ⟨ne_get D.groups h.net (by simp), ne_get D.groups h.sw (by simp), ne_get D.groups h.links (by simp), ne_get D.groups h.down (by simp), fun x b l hx => ne_get D.groups (h.lk x b l hx).1 (by simp)⟩
  · exact ⟨ne_get D.live h.net (by simp), ne_get D.live h.sw (by simp), ne_get D.live h.links (by simp), ne_get D.live h.down (by simp), fun x b l hx => ne_get D.live (h.lk x b l hx).1 (by simp)⟩
  · exact ⟨ne_get D.meters h.net (by simp), ne_get D.meters h.sw (by simp), ne_get D.meters h.links (by simp), ne_get D.meters h.down (by simp), fun x b l hx => ne_get D.meters (h.lk x b l hx).1 (by simp)⟩
  · exact ⟨ne_get D.self h.net (by simp), ne_get D.self h.sw (by simp), ne_get D.self h.links (by simp), ne_get D.self h.down (by simp), fun x b l hx => ne_get D.self (h.lk x b l hx).1 (by simp)⟩

theorem IsNet.ext (h : IsNet m lo tb nb sb lb wb ex dl ll dn lives) (hfr : Fresh m) (hx : Ext m m') : IsNet m' lo tb nb sb lb wb ex dl ll dn lives :=
  { h with
    net := hx.get hfr h.net
    sw := hx.get hfr h.sw
    links := hx.get hfr h.links
    down := hx.get hfr h.down
    lk := fun k b l hk => ⟨hx.get hfr (h.lk k b l hk).1, (h.lk k b l hk).2⟩
    devs := fun i d hd => by
      obtain ⟨D, h2⟩ := h.devs i d hd
      exact ⟨⟨hx.get hfr D.flows, hx.get hfr D.gmap, hx.get hfr D.groups, hx.get hfr D.live, hx.get hfr D.meters, hx.get hfr D.self⟩, h2⟩ }

theorem IsDev.lt (h : Fresh m) {d : Nat} {live : List Bool} (D : IsDev m d live) : ∀ k, k < 6 → d + k < m.next := by
  intro k hk
  have := h.lt D.self
  omega

/-- one more switch -/
theorem IsNet.push (h : IsNet m lo tb nb sb lb wb ex dl ll dn lives) (hfr : Fresh m) {d sb' : Nat} (hold : ∀ c, c < m.next → c ≠ nb → c ≠ sb → m'.get c = m.get c)
    (hnet : m'.get nb = some (.row true (some 0) 194 [.ptr tb 0, .slc sb' 0 (dl.length + 1 + 1) (dl.length + 1 + 1) 1 false, .map lb, .map wb]))
    (hsw : m'.get sb' = some (.row true (some 0) 90 ((.nilp :: dl.map fun d => .ptr (d + 5) 0) ++ [.ptr (d + 5) 0])))
    (hd : IsDev m' d (lives dl.length)) (hl : (lives dl.length).length = 17) (hlo : lo ≤ d) (hsb : lo ≤ sb') (hgap : ∀ i c : Nat, dl[i]? = some c → c + 6 ≤ d) (hbef : lb < d ∧ wb < d) :
    IsNet m' lo tb nb sb' lb wb false (dl ++ [d]) ll dn lives := by
  have nlb : lb ≠ nb := ne_get h.links h.net (by simp)
  have nls : lb ≠ sb := ne_get h.links h.sw (by simp)
  have nwb : wb ≠ nb := ne_get h.down h.net (by simp)
  have nws : wb ≠ sb := ne_get h.down h.sw (by simp)
  refine { h with net := ?_, sw := ?_, links := ?_, down := ?_, lk := fun k b l hk => ?_, devs := fun i c hc => ?_, gap := fun i j c e hij hc he => ?_, before := fun i c hc => ?_, losb := hsb }
  · simpa using hnet
  · simpa using hsw
  · rw [hold lb (hfr.lt h.links) nlb nls]; exact h.links
  · rw [hold wb (hfr.lt h.down) nwb nws]; exact h.down
  · obtain ⟨h1, h2⟩ := h.lk k b l hk
    exact ⟨(hold b (hfr.lt h1) (ne_get h1 h.net (by simp)) (ne_get h1 h.sw (by simp))).trans h1, h2⟩
  · by_cases hi : i < dl.length
    · rw [List.getElem?_append_left hi] at hc
      obtain ⟨D, h2⟩ := h.devs i c hc
      refine ⟨D.keep fun k hk => ?_, h2⟩
      have := h.dev_ne hc k hk
      exact hold _ (IsDev.lt hfr D k hk) this.1 this.2.1
    · rw [List.getElem?_append_right (by omega)] at hc
      have hi' : i - dl.length = 0 := by
        by_cases h0 : i - dl.length = 0
        · exact h0
        · rw [List.getElem?_eq_none (by simp; omega)] at hc; cases hc
      rw [hi'] at hc
      simp at hc
      subst hc
      obtain rfl : i = dl.length := by omega
      exact ⟨hd, hl, hlo⟩
  · by_cases hj : j < dl.length
    · rw [List.getElem?_append_left hj] at he
      rw [List.getElem?_append_left (by omega)] at hc
      exact h.gap i j c e hij hc he
    · rw [List.getElem?_append_right (by omega)] at he
      have hj' : j - dl.length = 0 := by
        by_cases h0 : j - dl.length = 0
        · exact h0
        · rw [List.getElem?_eq_none (by simp; omega)] at he; cases he
      rw [hj'] at he
      simp at he
      subst he
      rw [List.getElem?_append_left (by omega)] at hc
      exact hgap i c hc
  · by_cases hi : i < dl.length
    · rw [List.getElem?_append_left hi] at hc
      exact h.before i c hc
    · rw [List.getElem?_append_right (by omega)] at hc
      have hi' : i - dl.length = 0 := by
        by_cases h0 : i - dl.length = 0
        · exact h0
        · rw [List.getElem?_eq_none (by simp; omega)] at hc; cases hc
      rw [hi'] at hc
      simp at hc
      subst hc
      exact hbef

/-- a link has other ends now, in a new block -/
theorem IsNet.link (h : IsNet m lo tb nb sb lb wb ex dl ll dn lives) (hfr : Fresh m) {k : Int} {b' : Nat} {l' : List PlL} (hold : ∀ c, c < m.next → c ≠ lb → (∀ b l, look k ll = some (b, l) → c ≠ b) → m'.get c = m.get c)
    (hlb : m'.get lb = some (.map (mapEs encInt encLk (putAt k (b', l') ll)))) (hb : m'.get b' = some (.row true (some 0) 201 (endCells l'))) (hn : m.next ≤ b') (hlo : lo ≤ m.next) :
    IsNet m' lo tb nb sb lb wb ex dl (putAt k (b', l') ll) dn lives := by
  have keep : ∀ {c : Nat} {x : Blk}, m.get c = some x → c ≠ lb → (∀ cs, x ≠ .row true (some 0) 201 cs) → m'.get c = some x := by
    intro c x hc h1 h2
    rw [hold c (hfr.lt hc) h1 fun b l hk => ne_get hc (h.lk k b l hk).1 (h2 _)]
    exact hc
  refine { h with net := ?_, sw := ?_, links := hlb, down := ?_, lk := fun k2 b l hk => ?_, inj := fun k1 k2 b l l2 h1 h2 => ?_, devs := fun i d hd => ?_ }
  · exact keep h.net (ne_get h.net h.links (by simp)) (by simp)
  · exact keep h.sw (ne_get h.sw h.links (by simp)) (by simp)
  · exact keep h.down h.lbwb.symm (by simp)
  · rw [look_putAt] at hk
    split at hk
    · injection hk with hk
      injection hk with e1 e2
      subst e1; subst e2
      exact ⟨hb, Nat.le_trans hlo hn⟩
    · rename_i hne
      obtain ⟨h1, h2⟩ := h.lk k2 b l hk
      refine ⟨?_, h2⟩
      rw [hold b (hfr.lt h1) (ne_get h1 h.links (by simp)) fun b2 l2 hk2 e => ?_]
      · exact h1
      · subst e
        exact hne (h.inj _ _ _ _ _ hk hk2)
  · rw [look_putAt] at h1 h2
    split at h1
    · rename_i e1
      split at h2
      · rename_i e2; rw [e1, e2]
      · injection h1 with h1
        injection h1 with e2 e3
        have := hfr.lt (h.lk _ _ _ h2).1
        omega
    · split at h2
      · injection h2 with h2
        injection h2 with e2 e3
        have := hfr.lt (h.lk _ _ _ h1).1
        omega
      · exact h.inj _ _ _ _ _ h1 h2
  · obtain ⟨D, h2⟩ := h.devs i d hd
    refine ⟨D.keep fun j hj => ?_, h2⟩
    have := h.dev_ne hd j hj
    exact hold _ (IsDev.lt hfr D j hj) this.2.2.1 fun b l hk => this.2.2.2.2 k b l hk
end
end Go.Proofs.YtcbileongahhiaaGreat.Ev
