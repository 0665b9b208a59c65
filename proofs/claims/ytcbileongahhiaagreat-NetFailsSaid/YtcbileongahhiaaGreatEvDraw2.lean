/- A region whose order is drawn: what holds at each point of every order. -/
import Derived.Test.YtcbileongahhiaaGreatEvDraw
namespace Go.Proofs.YtcbileongahhiaaGreat.Ev
open Go
set_option linter.unusedVariables false
set_option linter.unusedSimpArgs false

section steps
variable {P : Program} {B0 : Nat} {ι ι0 : Inj} {m m0 : Mem} {w w0 : World}

theorem evRead_fx {ρ : Operand → Option AV} {o : Oper} {v : AV} {fx : Fx} (h : evRead P ρ o m = some (v, fx)) : fx ≠ .alloc := by
  unfold evRead at h
  repeat' split at h
  all_goals first
    | cases h; done
    | (simp only [Option.some.injEq, Prod.mk.injEq] at h; rw [← h.2]; simp; done)
    | (simp only [Option.map_eq_some_iff, Prod.mk.injEq] at h; obtain ⟨_, _, _, rfl⟩ := h; simp; done)
    | (obtain ⟨_, _, h⟩ := Option.bind_eq_some_iff.1 h; simp only [Option.map_eq_some_iff, Prod.mk.injEq] at h; obtain ⟨_, _, _, rfl⟩ := h; simp; done)

theorem evRead_kinds {ρ : Operand → Option AV} {o : Oper} {v : AV} {fx : Fx} (h : evRead P ρ o m = some (v, fx)) : fx ≠ .eff ∧ fx ≠ .none ∧ fx ≠ .alloc := by
  unfold evRead at h
  repeat' split at h
  all_goals first
    | cases h; done
    | (simp only [Option.some.injEq, Prod.mk.injEq] at h; rw [← h.2]; simp; done)
    | (simp only [Option.map_eq_some_iff, Prod.mk.injEq] at h; obtain ⟨_, _, _, rfl⟩ := h; simp; done)
    | (obtain ⟨_, _, h⟩ := Option.bind_eq_some_iff.1 h; simp only [Option.map_eq_some_iff, Prod.mk.injEq] at h; obtain ⟨_, _, _, rfl⟩ := h; simp; done)

theorem Owned.known {k : Nat} (h : Owned ι m k) : Known ι m k := let ⟨b, p, x, h1, h2, _, h4⟩ := h; ⟨b, p, x, h1, h2, h4⟩

/-- a block that lies there already comes to be known -/
theorem Step.set (h : Step P B0 ι0 m0 w0 ι m w) {b : Nat} {x : Blk} (hb : m0.next ≤ b) (hb2 : b < m.next)
    (hx : ∀ p, ι b = some p → BR P ι p w x ∧ B0 ≤ p.blk ∧ w0.heap.size ≤ p.blk ∧ ¬ Known ι m p.blk) : Step P B0 ι0 m0 w0 ι (m.set b x) w := by
  have sub : ∀ {b' y}, (m.set b x).get b' = some y → (b' = b ∧ y = x) ∨ (b' ≠ b ∧ m.get b' = some y) := by
    intro b' y hy
    rw [Mem.get_set] at hy
    by_cases e : b' = b
    · rw [if_pos e] at hy; injection hy with hy; exact .inl ⟨e, hy.symm⟩
    · rw [if_neg e] at hy; exact .inr ⟨e, hy⟩
  refine ⟨h.rel0, h.le, ⟨h.rel.lt, ?_, ?_, ?_, ?_, h.rel.low⟩, h.os, h.tape, h.output, h.size, h.frame, ?_, ?_, h.new, h.next, ?_, ?_⟩
  · intro b' p y hp hy
    rcases sub hy with ⟨rfl, rfl⟩ | ⟨_, hy⟩
    · exact (hx p hp).1
    · exact h.rel.blk b' p y hp hy
  · intro b1 b2 p1 p2 x1 x2 h1 h2 g1 g2 ho hp
    rcases sub g1 with ⟨e1, rfl⟩ | ⟨e1, g1'⟩
    · rcases sub g2 with ⟨e2, rfl⟩ | ⟨e2, g2'⟩
      · rw [e1, e2]
      · subst e1
        exact ((hx p1 h1).2.2.2 ⟨b2, p2, x2, h2, g2', hp.symm⟩).elim
    · rcases sub g2 with ⟨e2, rfl⟩ | ⟨e2, g2'⟩
      · subst e2
        exact ((hx p2 h2).2.2.2 ⟨b1, p1, x1, h1, g1', hp⟩).elim
      · exact h.rel.inj b1 b2 p1 p2 x1 x2 h1 h2 g1' g2' ho hp
  · intro b' p y hp hy ho
    rcases sub hy with ⟨rfl, rfl⟩ | ⟨_, hy⟩
    · exact (hx p hp).2.1
    · exact h.rel.base b' p y hp hy ho
  · intro b' hb'
    have hb'' : m.next ≤ b' := hb'
    rw [Mem.get_set, if_neg (by omega)]
    exact h.rel.fresh b' hb''
  · rintro k hk ⟨b', p, y, hp, hy, ho, hpk⟩
    rcases sub hy with ⟨rfl, rfl⟩ | ⟨_, hy⟩
    · have := (hx p hp).2.2.1; omega
    · exact h.owned k hk ⟨b', p, y, hp, hy, ho, hpk⟩
  · intro b' y hy hn
    have : b' ≠ b := fun e => by subst e; rw [h.rel0.fresh _ hb] at hy; cases hy
    rw [Mem.get_set, if_neg this]
    exact h.keep b' y hy hn
  · intro b' hb' hy
    rw [Mem.get_set, if_neg (by omega)]
    exact h.gone b' hb' hy
  · rintro k hk ⟨b', p, y, hp, hy, hpk⟩
    rcases sub hy with ⟨rfl, rfl⟩ | ⟨_, hy⟩
    · have := (hx p hp).2.2.1; omega
    · exact h.known k hk ⟨b', p, y, hp, hy, hpk⟩

/-- names are put by -/
theorem Step.reserve (h : Rel P B0 ι m w) (n : Nat) : Step P B0 ι m w ι { m with next := m.next + n } w :=
  ⟨h, Le.refl _, ⟨fun b p hb => ⟨Nat.lt_of_lt_of_le (h.lt b p hb).1 (Nat.le_add_right _ _), (h.lt b p hb).2⟩, h.blk, h.inj, h.base, fun b hb => h.fresh b (Nat.le_trans (Nat.le_add_right _ _) hb), h.low⟩,
    rfl, rfl, rfl, Nat.le_refl _, fun _ _ _ => rfl, fun _ _ h => h, fun _ _ h _ => h, fun b p h h' => by (rw [h] at h'; cases h'), Nat.le_add_right _ _, fun _ _ h => h, fun _ _ h => h⟩

/-- a block is made under a name that was put by -/
theorem Step.alloc {w' : World} {rf : Ref} {x : Blk} {z : Value} (h : Step P B0 ι0 m0 w0 ι m w) (hM : Made P ι w w' rf x z) {b : Nat} (hb : m0.next ≤ b) (hb2 : b < m.next) (hn : ι b = none)
    (hx : ∀ y, m.get b = some y → y = x) :
    ∃ κ p, Step P B0 ι0 m0 w0 κ m w' ∧ VR κ (rf.at b) z ∧ Le ι κ ∧ κ b = some p ∧ p.blk = w.heap.size ∧ BR P κ p w' x ∧ ∀ b', b' ≠ b → κ b' = ι b' := by
  obtain ⟨n, hl⟩ := hM.lies
  obtain ⟨κ, hκ⟩ : ∃ κ, κ = ι.put b ⟨w.heap.size, 0, n⟩ := ⟨_, rfl⟩
  have hsame : κ b = some ⟨w.heap.size, 0, n⟩ := by rw [hκ, Inj.put_same]
  have hoth : ∀ {b'}, b' ≠ b → κ b' = ι b' := fun e => by rw [hκ, Inj.put_other _ _ e]
  have hle : Le ι κ := by rw [hκ]; exact Le.put _ hn
  obtain ⟨h1, h2⟩ := hl κ b hle hsame
  -- what is known, and where
  have key : ∀ {b' p}, κ b' = some p → (b' = b ∧ p = ⟨w.heap.size, 0, n⟩) ∨ (b' ≠ b ∧ ι b' = some p ∧ p.blk < w.heap.size) := by
    intro b' p hp
    by_cases e : b' = b
    · subst e; rw [hsame] at hp; injection hp with hp; exact .inl ⟨rfl, hp.symm⟩
    · rw [hoth e] at hp; exact .inr ⟨e, hp, (h.rel.lt b' p hp).2⟩
  refine ⟨κ, _, ⟨h.rel0, h.le.trans hle, ⟨?_, ?_, ?_, ?_, h.rel.fresh, ?_⟩, hM.os.trans h.os, hM.tape.trans h.tape, hM.output.trans h.output, by rw [hM.size]; have := h.size; omega, ?_, ?_, h.keep, ?_, h.next, h.gone, ?_⟩, h1, hle, hsame, rfl, h2, fun b' e => hoth e⟩
  · intro b' p hp
    rw [hM.size]
    rcases key hp with ⟨rfl, rfl⟩ | ⟨_, hp, hlt⟩
    · exact ⟨hb2, Nat.lt_succ_self _⟩
    · exact ⟨(h.rel.lt b' p hp).1, by omega⟩
  · intro b' p y hp hy
    rcases key hp with ⟨rfl, rfl⟩ | ⟨_, hp, hlt⟩
    · rw [hx y hy]; exact h2
    · exact (h.rel.blk b' p y hp hy).mono hle (hM.old _ hlt)
  · intro b1 b2 p1 p2 x1 x2 q1 q2 g1 g2 ho hp
    rcases key q1 with ⟨e1, rfl⟩ | ⟨e1, q1, l1⟩
    · rcases key q2 with ⟨e2, rfl⟩ | ⟨e2, q2, l2⟩
      · rw [e1, e2]
      · simp only at hp; omega
    · rcases key q2 with ⟨e2, rfl⟩ | ⟨e2, q2, l2⟩
      · simp only at hp; omega
      · exact h.rel.inj b1 b2 p1 p2 x1 x2 q1 q2 g1 g2 ho hp
  · intro b' p y hp hy ho
    rcases key hp with ⟨rfl, rfl⟩ | ⟨_, hp, hlt⟩
    · exact h.rel.low
    · exact h.rel.base b' p y hp hy ho
  · rw [hM.size]; have := h.rel.low; omega
  · intro k hk hn
    exact (hM.old k (Nat.lt_of_lt_of_le hk h.size)).trans (h.frame k hk hn)
  · rintro k hk ⟨b', p, y, hp, hy, ho, hpk⟩
    rcases key hp with ⟨rfl, rfl⟩ | ⟨_, hp, hlt⟩
    · have := h.size; simp only at hpk; omega
    · exact h.owned k hk ⟨b', p, y, hp, hy, ho, hpk⟩
  · intro b' p hp hn
    rcases key hp with ⟨rfl, rfl⟩ | ⟨_, hp, hlt⟩
    · exact hb
    · exact h.new b' p hp hn
  · rintro k hk ⟨b', p, y, hp, hy, hpk⟩
    rcases key hp with ⟨rfl, rfl⟩ | ⟨_, hp, hlt⟩
    · have := h.size; simp only at hpk; omega
    · exact h.known k hk ⟨b', p, y, hp, hy, hpk⟩
end steps

/-! the region -/

/-- what a region's slots hold when some of its operations are done -/
def sl (ops : Array Oper) (T : Trace) (S : Nat → Bool) : Nat → Tmp → Option AV
  | 0, t => (T.ts 0).get t
  | i + 1, t => if S i = true ∧ (ops[i]?).bind (·.dst) = some t then some (T.v i) else sl ops T S i t

/-- the blocks that are made -/
def Trace.flo (T : Trace) (base : Nat) (j : Nat) : Option Blk := if T.fx j = .alloc then (T.m (j + 1)).get (base + j) else none

structure FInv (P : Program) (B0 : Nat) (base n : Nat) (ι0 : Inj) (m0 : Mem) (w0 : World) (T : Trace) (S : Nat → Bool) (c : Nat) (ι : Inj) (w : World) : Prop where
  hc : c ≤ n
  base_ : m0.next ≤ base
  eff : ∀ e, e < n → T.fx e = .eff → (S e = true ↔ e < c)
  step : Step P B0 ι0 m0 w0 ι (T.m c) w
  bnd : base + n ≤ (T.m c).next
  flo : ∀ j, c ≤ j → j < n → S j = true → T.fx j = .alloc → ∃ p x, ι (base + j) = some p ∧ T.flo base j = some x ∧ BR P ι p w x ∧ B0 ≤ p.blk ∧ w0.heap.size ≤ p.blk ∧ ¬ Known ι (T.m c) p.blk
  dist : ∀ j j' p p', c ≤ j → c ≤ j' → j < n → j' < n → S j = true → S j' = true → T.fx j = .alloc → T.fx j' = .alloc → ι (base + j) = some p → ι (base + j') = some p' → p.blk = p'.blk → j = j'
  un : ∀ j, j < n → S j = false → ι (base + j) = none
  unL : ∀ j, j < c → S j = false → T.fx j = .alloc → (T.m c).get (base + j) = (T.m (j + 1)).get (base + j)
  noneG : ∀ j, c ≤ j → j < n → (T.m c).get (base + j) = none

section region
variable {P : Program} {G : Nat} {call : FuncId → List AV → Mem → Option (AV × Mem)} {B0 base n : Nat} {ops : Array Oper} {ι ι0 : Inj} {m0 : Mem} {w w0 : World} {T : Trace} {S : Nat → Bool} {c : Nat}

theorem At.mem {i : Nat} {o : Oper} (h : Trace.At P G call base ops T i o) (hf : T.fx i ≠ .eff) :
    (T.m (i + 1) = T.m i ∧ T.fx i ≠ .alloc) ∨ (T.fx i = .alloc ∧ ∃ x, T.m (i + 1) = (T.m i).set (base + i) x ∧ x.own = true) := by
  rcases h.does with ⟨_, _, h1, h2⟩ | ⟨_, h⟩
  · exact .inl ⟨h1, by rw [h2]; simp⟩
  · unfold evOperAt at h
    split at h
    · simp only [Option.map_eq_some_iff, Prod.mk.injEq] at h
      obtain ⟨_, _, _, _, h⟩ := h
      exact absurd h.symm hf
    · unfold evOpAt at h
      split at h
      · simp only [Option.some.injEq, Prod.mk.injEq] at h
        exact .inl ⟨h.2.1.symm, by rw [← h.2.2]; simp⟩
      · split at h
        · rename_i rf x hn
          simp only [Option.some.injEq, Prod.mk.injEq] at h
          exact .inr ⟨h.2.2.symm, x, h.2.1.symm, evNew_own hn⟩
        · split at h
          · rename_i v fx hr
            simp only [Option.some.injEq, Prod.mk.injEq] at h
            refine .inl ⟨h.2.1.symm, ?_⟩
            rw [← h.2.2]
            exact evRead_fx hr
          · simp only [Option.map_eq_some_iff, Prod.mk.injEq] at h
            obtain ⟨_, _, _, _, h⟩ := h
            exact absurd h.symm hf

/-- past an operation that is no effect the text's place moves on -/
theorem FInv.absorb (h : FInv P B0 base n ι0 m0 w0 T S c ι w) {o : Oper} (hat : Trace.At P G call base ops T c o) (hcn : c < n) (hf : T.fx c ≠ .eff) : FInv P B0 base n ι0 m0 w0 T S (c + 1) ι w := by
  have heff : ∀ e, e < n → T.fx e = .eff → (S e = true ↔ e < c + 1) := fun e he hfe => by
    rw [h.eff e he hfe]
    have : e ≠ c := fun e' => hf (e' ▸ hfe)
    omega
  rcases At.mem hat hf with ⟨hm, hna⟩ | ⟨hal, x, hm, hown⟩
  · refine ⟨hcn, h.base_, heff, hm ▸ h.step, hm ▸ h.bnd, fun j hj => ?_, fun j j' p p' hj hj' => h.dist j j' p p' (by omega) (by omega), h.un, fun j hj hS ha => ?_, fun j hj => ?_⟩
    · rw [hm]; exact h.flo j (by omega)
    · have : j ≠ c := fun e => hna (e ▸ ha)
      have := h.unL j (by omega) hS ha
      rw [hm]; exact this
    · rw [hm]; exact h.noneG j (by omega)
  · have hx : T.flo base c = some x := by rw [Trace.flo, if_pos hal, hm, Mem.get_set, if_pos rfl]
    have hget : ∀ k, k ≠ base + c → (T.m (c + 1)).get k = (T.m c).get k := fun k hk => by rw [hm, Mem.get_set, if_neg hk]
    have hone : ∀ p, ι (base + c) = some p → S c = true := fun p hp => by
      cases hs : S c with
      | true => rfl
      | false => rw [h.un c hcn hs] at hp; cases hp
    refine ⟨hcn, h.base_, heff, ?_, ?_, fun j hj hjn hS ha => ?_, fun j j' p p' hj hj' => h.dist j j' p p' (by omega) (by omega), h.un, fun j hj hS ha => ?_, fun j hj hjn => ?_⟩
    · rw [hm]
      refine h.step.set (by have := h.base_; omega) (by have := h.bnd; omega) fun p hp => ?_
      obtain ⟨p', x', hp', hx', hb, h1, h2, h3⟩ := h.flo c (Nat.le_refl _) hcn (hone p hp) hal
      rw [hp] at hp'; injection hp' with hp'
      rw [hx] at hx'; injection hx' with hx'
      subst hp'; subst hx'
      exact ⟨hb, h1, h2, h3⟩
    · rw [hm]; exact h.bnd
    · obtain ⟨p', x', hp', hx', hb, h1, h2, h3⟩ := h.flo j (by omega) hjn hS ha
      refine ⟨p', x', hp', hx', hb, h1, h2, ?_⟩
      rintro ⟨b, q, y, hq, hy, hqp⟩
      by_cases e : b = base + c
      · subst e
        have := h.dist c j q p' (Nat.le_refl _) (by omega) hcn hjn (hone q hq) hS hal ha hq hp' hqp
        omega
      · rw [hget b e] at hy
        exact h3 ⟨b, q, y, hq, hy, hqp⟩
    · by_cases e : j = c
      · rw [e]
      · rw [hget _ (by omega)]; exact h.unL j (by omega) hS ha
    · rw [hget _ (by omega)]; exact h.noneG j (by omega) hjn

theorem FInv.forward (hat : ∀ i, i < n → ∃ o, Trace.At P G call base ops T i o) {r : Nat} (hr : r ≤ n) : ∀ (k c : Nat), c + k = r → FInv P B0 base n ι0 m0 w0 T S c ι w → (∀ e, c ≤ e → e < r → T.fx e ≠ .eff) → FInv P B0 base n ι0 m0 w0 T S r ι w
  | 0, c, e, h, _ => by rw [Nat.add_zero] at e; exact e ▸ h
  | k + 1, c, e, h, hne => by
    obtain ⟨o, ho⟩ := hat c (by omega)
    exact FInv.forward hat hr k (c + 1) (by omega) (h.absorb ho (by omega) (hne c (Nat.le_refl _) (by omega))) fun e h1 h2 => hne e (by omega) h2

end region
end Go.Proofs.YtcbileongahhiaaGreat.Ev
