/- A run over a small memory is a contract in every memory that holds it. -/
import Derived.Test.YtcbileongahhiaaGreatEvClosed
namespace Go.Proofs.YtcbileongahhiaaGreat.Ev
open Go
set_option linter.unusedVariables false
set_option linter.unusedSimpArgs false

/-- the small memory's names: the old ones by a list, the new ones behind -/
def emb (old : List Nat) (n : Nat) (b : Nat) : Nat := if b < old.length then old.getD b 0 else n + (b - old.length)

section
variable {P : Program} {B0 G : Nat} {ι κ κ0 : Inj} {m m' mg mg' : Mem} {w w' : World}

theorem BR.unren {r : Nat → Nat} {p : Place} {x : Blk} (h : BR P (fun b => κ (r b)) p w x) : BR P κ p w (x.ren r) := by
  cases x with
  | row o fz e cs =>
    obtain ⟨c, fr, h1, h2, h3, h4, h5⟩ := h
    refine ⟨c, fr, h1, h2, by rw [Blk.ren_len]; exact h3, ?_, h5⟩
    rw [Blk.ren_len]
    exact (VRL.ren _ _).2 h4
  | map es =>
    obtain ⟨es', clock, h1, h2⟩ := h
    refine ⟨es', clock, h1, ?_, fun i kv e hi he => ?_, h2.born, h2.clock⟩
    · rw [List.length_map]; exact h2.len
    · rw [List.getElem?_map] at hi
      cases hk : es[i]? with
      | none => rw [hk] at hi; cases hi
      | some kv0 =>
        rw [hk] at hi
        injection hi with hi
        subst hi
        have := h2.at_ i kv0 e hk he
        exact ⟨(VR.ren _ _).2 this.1, (VR.ren _ _).2 this.2⟩

theorem BR.lift {p : Place} {x : Blk} (h : BR P ι p w x) (hle : Le ι κ) : BR P κ p w x := by
  cases x with
  | row o fz e cs =>
    obtain ⟨c, fr, h1, h2, h3, h4, h5⟩ := h
    exact ⟨c, fr, h1, h2, h3, VRL.mono hle _ _ h4, h5⟩
  | map es =>
    obtain ⟨es', clock, h1, h2⟩ := h
    exact ⟨es', clock, h1, h2.len, fun i kv e hi he => ⟨VR.mono hle _ _ (h2.at_ i kv e hi he).1, VR.mono hle _ _ (h2.at_ i kv e hi he).2⟩, h2.born, h2.clock⟩

/-- what a memory is behind a run over a part of it -/
structure Framed (old : List Nat) (m mg mg' m' : Mem) : Prop where
  next : m'.next = m.next + (mg'.next - mg.next)
  at_ : ∀ b, b < old.length → m'.get (old.getD b 0) = (mg'.get b).map (Blk.ren (emb old m.next))
  off : ∀ c, c < m.next → c ∉ old → m'.get c = m.get c
  new : ∀ k, m'.get (m.next + k) = (mg'.get (mg.next + k)).map (Blk.ren (emb old m.next))

theorem contr_frame (hm : P.follows .mixedOrders = true) (hsane : Sane P) {prim : Prim} (hprim : ∀ B0, PrimOk P B0 0 prim) {n : Nat} {f : FuncId} {args0 : List AV} {v0 : AV} (hp : prim f = none)
    (h : evCall P prim 0 n f args0 mg = some (v0, mg')) (hgf : Fresh mg) {old : List Nat} (hlen : mg.next = old.length) (hnd : old.Nodup) (hlt : ∀ c ∈ old, c < m.next)
    (hin : ∀ b, b < old.length → ∃ x, mg.get b = some x ∧ m.get (old.getD b 0) = some (x.ren (emb old m.next))) (hF : Fresh mg' → Framed old m mg mg' m') :
    Contr P 0 f (AV.renL (emb old m.next) args0) m (AV.ren (emb old m.next) v0) m' := by
  intro B0 ι w arr hG hR hargs
  have hold : ∀ b, b < old.length → emb old m.next b = old.getD b 0 := fun b hb => by simp only [emb, if_pos hb]
  have hnew : ∀ k, emb old m.next (mg.next + k) = m.next + k := fun k => by
    unfold emb
    rw [if_neg (by omega)]
    omega
  have hmem : ∀ b, b < old.length → old.getD b 0 ∈ old := fun b hb => by
    rw [List.getD_eq_getElem?_getD, List.getElem?_eq_getElem hb]; exact List.getElem_mem hb
  have hinjo : ∀ a b, a < old.length → b < old.length → old.getD a 0 = old.getD b 0 → a = b := fun a b ha hb e => by
    rw [List.getD_eq_getElem?_getD, List.getD_eq_getElem?_getD, List.getElem?_eq_getElem ha, List.getElem?_eq_getElem hb] at e
    have hp := List.pairwise_iff_getElem.1 hnd
    have e' : old[a] = old[b] := by simpa using e
    rcases Nat.lt_trichotomy a b with h | h | h
    · exact absurd e' (hp a b ha hb h)
    · exact h
    · exact absurd e'.symm (hp b a hb ha h)
  -- the small memory lies there
  have hnone : ∀ b, mg.next ≤ b → ι (emb old m.next b) = none := fun b hb => by
    cases hi : ι (emb old m.next b) with
    | none => rfl
    | some p =>
      have := (hR.lt _ _ hi).1
      obtain ⟨k, rfl⟩ : ∃ k, b = mg.next + k := ⟨b - mg.next, by omega⟩
      rw [hnew] at this
      omega
  have hR0 : Rel P B0 (fun b => ι (emb old m.next b)) mg w := by
    have hat : ∀ b p x, ι (emb old m.next b) = some p → mg.get b = some x → b < old.length ∧ m.get (emb old m.next b) = some (x.ren (emb old m.next)) := fun b p x hb hx => by
      have hb' : b < old.length := by have := hgf.lt hx; omega
      obtain ⟨y, hy, hy'⟩ := hin b hb'
      rw [hx] at hy
      injection hy with hy
      subst hy
      exact ⟨hb', by rw [hold b hb']; exact hy'⟩
    refine ⟨fun b p hb => ⟨?_, (hR.lt _ _ hb).2⟩, fun b p x hb hx => BR.ren (hR.blk _ _ _ hb (hat b p x hb hx).2), fun b b' p p' x x' hb hb' hx hx' ho e => ?_, fun b p x hb hx ho => hR.base _ _ _ hb (hat b p x hb hx).2 (by rw [Blk.ren_own]; exact ho), hgf, hR.low⟩
    · by_cases hc : b < mg.next
      · exact hc
      · rw [hnone b (by omega)] at hb; cases hb
    · have h1 := hat b p x hb hx
      have h2 := hat b' p' x' hb' hx'
      have := hR.inj _ _ _ _ _ _ hb hb' h1.2 h2.2 (by rw [Blk.ren_own]; exact ho) e
      rw [hold b h1.1, hold b' h2.1] at this
      exact hinjo _ _ h1.1 h2.1 this
  have hG0 : GlobR (fun b => ι (emb old m.next b)) 0 := fun g hg => absurd hg (Nat.not_lt_zero _)
  obtain ⟨h1, h2⟩ := callWith_calls hsane (ev_ok hm (hprim B0) hsane n).1 hp h hG0 hR0 ((VRL.ren _ _).1 hargs)
  refine .inl ⟨h1, Calls.mono h2 ?_⟩
  rintro e w' ⟨z, rfl, κ0, st, r⟩
  have hF := hF st.rel.fresh
  -- where the names lie at last
  have hκ : ∃ κ : Inj, (∀ c, c < m.next → κ c = ι c) ∧ ∀ b, κ (emb old m.next b) = κ0 b := by
    refine ⟨fun c => if c < m.next then ι c else κ0 (mg.next + (c - m.next)), fun c hc => if_pos hc, fun b => ?_⟩
    by_cases hb : b < mg.next
    · have hb' : b < old.length := by omega
      have hl : emb old m.next b < m.next := by rw [hold b hb']; exact hlt _ (hmem b hb')
      simp only [if_pos hl]
      cases hi : ι (emb old m.next b) with
      | some p => exact (st.le b p hi).symm
      | none =>
        cases hk : κ0 b with
        | none => rfl
        | some p => exact absurd (st.new b p hk hi) (by omega)
    · obtain ⟨k, rfl⟩ : ∃ k, b = mg.next + k := ⟨b - mg.next, by omega⟩
      simp only [hnew, if_neg (show ¬ m.next + k < m.next by omega)]
      congr 1
      omega
  obtain ⟨κ, hκ1, hκ2⟩ := hκ
  have hκ0 : (fun b => κ (emb old m.next b)) = κ0 := funext hκ2
  have hnx := st.next
  -- every name is one of the small memory's, or lies beside it
  have hcase : ∀ c x, m'.get c = some x → (∃ b x0, c = emb old m.next b ∧ mg'.get b = some x0 ∧ x = x0.ren (emb old m.next)) ∨ (c < m.next ∧ c ∉ old ∧ m.get c = some x) := by
    intro c x hx
    by_cases hc : c < m.next
    · by_cases ho : c ∈ old
      · obtain ⟨b, hb, rfl⟩ := List.getElem_of_mem ho
        have e : old.getD b 0 = old[b] := by rw [List.getD_eq_getElem?_getD, List.getElem?_eq_getElem hb]; rfl
        have := hF.at_ b hb
        rw [e, hx] at this
        cases hg : mg'.get b with
        | none => rw [hg] at this; cases this
        | some x0 =>
          rw [hg] at this
          injection this with this
          exact .inl ⟨b, x0, by rw [hold b hb, e], hg, this⟩
      · rw [hF.off c hc ho] at hx
        exact .inr ⟨hc, ho, hx⟩
    · obtain ⟨k, rfl⟩ : ∃ k, c = m.next + k := ⟨c - m.next, by omega⟩
      have := hF.new k
      rw [hx] at this
      cases hg : mg'.get (mg.next + k) with
      | none => rw [hg] at this; cases this
      | some x0 =>
        rw [hg] at this
        injection this with this
        exact .inl ⟨mg.next + k, x0, (hnew k).symm, hg, this⟩
  have hat0 : ∀ b x0, mg.get b = some x0 → b < old.length ∧ m.get (emb old m.next b) = some (x0.ren (emb old m.next)) := fun b x hx => by
    have hb' : b < old.length := by have := hgf.lt hx; omega
    obtain ⟨y, hy, hy'⟩ := hin b hb'
    rw [hx] at hy
    injection hy with hy
    subst hy
    exact ⟨hb', by rw [hold b hb']; exact hy'⟩
  have hown0 : ∀ k, Owned (fun b => ι (emb old m.next b)) mg k → Owned ι m k := by
    rintro k ⟨b, p, x, hb, hx, ho, rfl⟩
    exact ⟨_, p, _, hb, (hat0 b x hx).2, by rw [Blk.ren_own]; exact ho, rfl⟩
  have hkn0 : ∀ k, Known (fun b => ι (emb old m.next b)) mg k → Known ι m k := by
    rintro k ⟨b, p, x, hb, hx, rfl⟩
    exact ⟨_, p, _, hb, (hat0 b x hx).2, rfl⟩
  have hemb_in : ∀ b c, b < old.length → emb old m.next b = c → c ∈ old := fun b c hb e => by rw [← e, hold b hb]; exact hmem b hb
  have hembinj : ∀ a b, emb old m.next a = emb old m.next b → a = b := by
    intro a b e
    by_cases ha : a < old.length <;> by_cases hb : b < old.length
    · rw [hold a ha, hold b hb] at e; exact hinjo a b ha hb e
    · have h1 : emb old m.next a < m.next := by rw [hold a ha]; exact hlt _ (hmem a ha)
      have h2 : emb old m.next b = m.next + (b - old.length) := by simp only [emb, if_neg hb]
      omega
    · have h1 : emb old m.next b < m.next := by rw [hold b hb]; exact hlt _ (hmem b hb)
      have h2 : emb old m.next a = m.next + (a - old.length) := by simp only [emb, if_neg ha]
      omega
    · have h1 : emb old m.next a = m.next + (a - old.length) := by simp only [emb, if_neg ha]
      have h2 : emb old m.next b = m.next + (b - old.length) := by simp only [emb, if_neg hb]
      omega
  have hle : Le ι κ := fun b p hb => by rw [hκ1 b (hR.lt b p hb).1]; exact hb
  -- a block beside is not of the small memory's
  have hbeside : ∀ c p x, c < m.next → c ∉ old → ι c = some p → m.get c = some x → ¬ Owned (fun b => ι (emb old m.next b)) mg p.blk := by
    rintro c p x hc hno hi hx ⟨b, q, y, hb, hy, ho, e⟩
    have h3 := hat0 b y hy
    have := hR.inj _ _ _ _ _ _ hb hi h3.2 hx (by rw [Blk.ren_own]; exact ho) e
    exact hno (hemb_in b c h3.1 this)
  have hbeside' : ∀ c p x, c < m.next → c ∉ old → ι c = some p → m.get c = some x → x.own = true → ¬ Known (fun b => ι (emb old m.next b)) mg p.blk := by
    rintro c p x hc hno hi hx ho ⟨b, q, y, hb, hy, e⟩
    have h3 := hat0 b y hy
    have := hR.inj _ _ _ _ _ _ hi hb hx h3.2 ho e.symm
    exact hno (hemb_in b c h3.1 this.symm)
  refine ⟨z, rfl, κ, ⟨hR, hle, ⟨?_, ?_, ?_, ?_, ?_, st.rel.low⟩, st.os, st.tape, st.output, st.size, ?_, ?_, ?_, ?_, ?_, ?_, ?_⟩, ?_⟩
  · intro c p hc
    by_cases hl : c < m.next
    · rw [hκ1 c hl] at hc
      exact ⟨by rw [hF.next]; omega, Nat.lt_of_lt_of_le (hR.lt c p hc).2 st.size⟩
    · obtain ⟨k, rfl⟩ : ∃ k, c = m.next + k := ⟨c - m.next, by omega⟩
      rw [← hnew k, hκ2] at hc
      have := st.rel.lt _ _ hc
      exact ⟨by rw [hF.next]; omega, this.2⟩
  · intro c p x hc hx
    rcases hcase c x hx with ⟨b, x0, rfl, hg, rfl⟩ | ⟨hl, hno, hx⟩
    · rw [hκ2] at hc
      exact BR.unren (by rw [hκ0]; exact st.rel.blk b p x0 hc hg)
    · rw [hκ1 c hl] at hc
      exact ((hR.blk c p x hc hx).same (st.frame _ (hR.lt c p hc).2 (hbeside c p x hl hno hc hx))).lift hle
  · intro c c' p p' x x' hc hc' hx hx' ho e
    rcases hcase c x hx with ⟨b, x0, rfl, hg, rfl⟩ | ⟨hl, hno, hx⟩
    · rw [hκ2] at hc
      rw [Blk.ren_own] at ho
      rcases hcase c' x' hx' with ⟨b', x0', rfl, hg', rfl⟩ | ⟨hl', hno', hx'⟩
      · rw [hκ2] at hc'
        rw [st.rel.inj b b' p p' x0 x0' hc hc' hg hg' ho e]
      · rw [hκ1 c' hl'] at hc'
        have hsz := (hR.lt c' p' hc').2
        have hown := st.owned p.blk (by rw [e]; exact hsz) ⟨b, p, x0, hc, hg, ho, rfl⟩
        rw [e] at hown
        exact absurd hown (hbeside c' p' x' hl' hno' hc' hx')
    · rw [hκ1 c hl] at hc
      rcases hcase c' x' hx' with ⟨b', x0', rfl, hg', rfl⟩ | ⟨hl', hno', hx'⟩
      · rw [hκ2] at hc'
        have hsz := (hR.lt c p hc).2
        have hkn := st.known p'.blk (by rw [← e]; exact hsz) ⟨b', p', x0', hc', hg', rfl⟩
        rw [← e] at hkn
        exact absurd hkn (hbeside' c p x hl hno hc hx ho)
      · rw [hκ1 c' hl'] at hc'
        exact hR.inj c c' p p' x x' hc hc' hx hx' ho e
  · intro c p x hc hx ho
    rcases hcase c x hx with ⟨b, x0, rfl, hg, rfl⟩ | ⟨hl, hno, hx⟩
    · rw [hκ2] at hc
      rw [Blk.ren_own] at ho
      exact st.rel.base b p x0 hc hg ho
    · rw [hκ1 c hl] at hc
      exact hR.base c p x hc hx ho
  · intro c hc
    rw [hF.next] at hc
    obtain ⟨k, rfl⟩ : ∃ k, c = m.next + k := ⟨c - m.next, by omega⟩
    rw [hF.new k, st.rel.fresh _ (by omega)]
    rfl
  · intro k hk hno
    exact st.frame k hk fun h => hno (hown0 k h)
  · rintro k hk ⟨c, p, x, hc, hx, ho, rfl⟩
    rcases hcase c x hx with ⟨b, x0, rfl, hg, rfl⟩ | ⟨hl, hno, hx⟩
    · rw [hκ2] at hc
      rw [Blk.ren_own] at ho
      exact hown0 _ (st.owned _ hk ⟨b, p, x0, hc, hg, ho, rfl⟩)
    · rw [hκ1 c hl] at hc
      exact ⟨c, p, x, hc, hx, ho, rfl⟩
  · intro b x hx hb
    have hl := Fresh.lt hR.fresh hx
    by_cases ho : b ∈ old
    · obtain ⟨k, hk, rfl⟩ := List.getElem_of_mem ho
      have e : old.getD k 0 = old[k] := by rw [List.getD_eq_getElem?_getD, List.getElem?_eq_getElem hk]; rfl
      obtain ⟨y, hy, hy'⟩ := hin k hk
      rw [e, hx] at hy'
      have := st.keep k y hy (by show ι (emb old m.next k) = none; rw [hold k hk, e]; exact hb)
      have h3 := hF.at_ k hk
      rw [e, this] at h3
      rw [h3, Option.map_some, ← hy']
    · rw [hF.off b hl ho, hx]
  · intro b p hb hb0
    by_cases hl : b < m.next
    · rw [hκ1 b hl, hb0] at hb; cases hb
    · omega
  · rw [hF.next]; omega
  · intro b hb hx
    by_cases ho : b ∈ old
    · obtain ⟨k, hk, rfl⟩ := List.getElem_of_mem ho
      have e : old.getD k 0 = old[k] := by rw [List.getD_eq_getElem?_getD, List.getElem?_eq_getElem hk]; rfl
      obtain ⟨y, hy, hy'⟩ := hin k hk
      rw [e, hx] at hy'
      cases hy'
    · rw [hF.off b hb ho, hx]
  · rintro k hk ⟨c, p, x, hc, hx, rfl⟩
    rcases hcase c x hx with ⟨b, x0, rfl, hg, rfl⟩ | ⟨hl, hno, hx⟩
    · rw [hκ2] at hc
      exact hkn0 _ (st.known _ hk ⟨b, p, x0, hc, hg, rfl⟩)
    · rw [hκ1 c hl] at hc
      exact ⟨c, p, x, hc, hx, rfl⟩
  · rw [VR.ren, hκ0]
    exact r

/-- a memory, and a small one's blocks behind it -/
def addAll (m mg : Mem) (r : Nat → Nat) (s : Nat := 0) : Nat → Mem
  | 0 => m
  | k + 1 => match mg.get (s + k) with
    | some x => (addAll m mg r s k).new (x.ren r)
    | none => (addAll m mg r s k).grow 1

theorem addAll_next (m mg : Mem) (r : Nat → Nat) (s : Nat) : ∀ k, (addAll m mg r s k).next = m.next + k
  | 0 => rfl
  | k + 1 => by
    simp only [addAll]
    split
    · rw [next_new, addAll_next m mg r s k]; rfl
    · rw [next_grow, addAll_next m mg r s k]; rfl

theorem addAll_old (m mg : Mem) (r : Nat → Nat) (s : Nat) : ∀ (k c : Nat), c < m.next → (addAll m mg r s k).get c = m.get c
  | 0, _, _ => rfl
  | k + 1, c, hc => by
    have hn := addAll_next m mg r s k
    simp only [addAll]
    split
    · rw [get_new_ne (by omega)]; exact addAll_old m mg r s k c hc
    · rw [get_grow]; exact addAll_old m mg r s k c hc

theorem addAll_at (m mg : Mem) (hfr : Fresh m) (r : Nat → Nat) (s : Nat) : ∀ (k i : Nat), (addAll m mg r s k).get (m.next + i) = if i < k then (mg.get (s + i)).map (Blk.ren r) else none
  | 0, i => by rw [if_neg (by omega)]; exact hfr _ (by omega)
  | k + 1, i => by
    have hn := addAll_next m mg r s k
    simp only [addAll]
    cases hg : mg.get (s + k) with
    | some x =>
      by_cases hi : i = k
      · subst hi
        simp only
        rw [← hn, get_new_same, if_pos (by omega), hg]; rfl
      · simp only
        rw [get_new_ne (by omega), addAll_at m mg hfr r s k i]
        by_cases h : i < k
        · rw [if_pos h, if_pos (by omega)]
        · rw [if_neg h, if_neg (by omega)]
    | none =>
      simp only
      rw [get_grow, addAll_at m mg hfr r s k i]
      by_cases h : i < k
      · rw [if_pos h, if_pos (by omega)]
      · rw [if_neg h]
        by_cases hi : i = k
        · subst hi; rw [if_pos (by omega), hg]; rfl
        · rw [if_neg (by omega)]

theorem ContrR.fresh {f : FuncId} {args : List AV} {R : AV → Mem → Prop} (h : Fresh m → ContrR P G f args m R) : ContrR P G f args m R :=
  fun B0 ι w arr hG hR ha => h hR.fresh B0 ι w arr hG hR ha

/-- what a closed run makes lies behind any memory -/
theorem contrR_new (hm : P.follows .mixedOrders = true) (hsane : Sane P) {prim : Prim} (hprim : ∀ B0, PrimOk P B0 0 prim) {n : Nat} {f : FuncId} {args : List AV} {v0 : AV} (hp : prim f = none)
    (h : evCall P prim 0 n f args ⟨.nil, 0⟩ = some (v0, mg')) (ha : AV.plainL args = true) :
    ContrR P 0 f args m fun v m' => Ext m m' ∧ m'.next = m.next + mg'.next ∧ v = AV.ren (fun b => m.next + b) v0 ∧ ∀ i x, i < mg'.next → mg'.get i = some x → m'.get (m.next + i) = some (x.ren fun b => m.next + b) := by
  refine ContrR.fresh fun hfr => ?_
  have he : emb [] m.next = fun b => m.next + b := by funext b; simp [emb]
  have key : Contr P 0 f (AV.renL (emb [] m.next) args) m (AV.ren (emb [] m.next) v0) (addAll m mg' (emb [] m.next) 0 mg'.next) := by
    refine contr_frame (mg := ⟨.nil, 0⟩) hm hsane hprim hp h (fun b _ => rfl) rfl List.nodup_nil (by simp) (by simp) fun hf => ⟨?_, by simp, fun c hc _ => addAll_old _ _ _ _ _ _ hc, fun k => ?_⟩
    · rw [addAll_next]; rfl
    · rw [addAll_at m mg' hfr]
      split
      · rfl
      · rw [hf _ (by simp; omega)]; rfl
  rw [AV.renL_plain _ ha, he] at key
  refine key.rel.mono ?_
  rintro v m' ⟨rfl, rfl⟩
  refine ⟨⟨by rw [addAll_next]; omega, fun b hb => addAll_old _ _ _ _ _ _ hb⟩, addAll_next _ _ _ _ _, rfl, fun i x hi hx => ?_⟩
  rw [addAll_at m mg' hfr, if_pos hi, Nat.zero_add, hx]; rfl

theorem Contr.weak {f : FuncId} {args : List AV} {m1 : Mem} {v v' : AV} (h : Contr P G f args m v m1) (hw : Fresh m → Weak m v' m' v m1) : Contr P G f args m v' m' :=
  fun B0 ι w arr hG hR ha => (h B0 ι w arr hG hR ha).mono fun z w' ⟨κ, st, r⟩ => st.weak r (hw hR.fresh)

/-- what a run over a small memory shows that leaves it as it was, and gives a plain value -/
theorem contr_read (hm : P.follows .mixedOrders = true) (hsane : Sane P) {prim : Prim} (hprim : ∀ B0, PrimOk P B0 0 prim) {n : Nat} {f : FuncId} {args0 : List AV} {v0 : AV} (hp : prim f = none)
    (h : evCall P prim 0 n f args0 mg = some (v0, mg')) (hgf : Fresh mg) {old : List Nat} (hlen : mg.next = old.length) (hnd : old.Nodup) (hlt : ∀ c ∈ old, c < m.next)
    (hin : ∀ b, b < old.length → ∃ x, mg.get b = some x ∧ m.get (old.getD b 0) = some (x.ren (emb old m.next))) (hsame : ∀ b, b < old.length → mg'.get b = mg.get b) (hnn : mg.next ≤ mg'.next) (hv : v0.plain = true) :
    Contr P 0 f (AV.renL (emb old m.next) args0) m v0 m := by
  have key : Fresh m → Contr P 0 f (AV.renL (emb old m.next) args0) m (AV.ren (emb old m.next) v0) (addAll m mg' (emb old m.next) mg.next (mg'.next - mg.next)) := fun hfr =>
    contr_frame hm hsane hprim hp h hgf hlen hnd hlt hin fun hf => ⟨addAll_next _ _ _ _ _, fun b hb => by
      obtain ⟨x, h1, h2⟩ := hin b hb
      have hmem : old.getD b 0 ∈ old := by
        rw [List.getD_eq_getElem?_getD, List.getElem?_eq_getElem hb]; exact List.getElem_mem hb
      rw [addAll_old _ _ _ _ _ _ (hlt _ hmem), hsame b hb, h1, h2]; rfl, fun c hc _ => addAll_old _ _ _ _ _ _ hc, fun k => by
      rw [addAll_at m mg' hfr]
      split
      · rfl
      · rw [hf _ (by omega)]; rfl⟩
  intro B0 ι w arr hG hR ha
  have k := key hR.fresh
  rw [AV.ren_plain _ hv] at k
  exact (k.weak fun hfr => Weak.same hfr (fun r _ => AV.ren_plain _ hv) (by rw [addAll_next]; omega) fun b hb => addAll_old _ _ _ _ _ _ hb) B0 ι w arr hG hR ha
end
end Go.Proofs.YtcbileongahhiaaGreat.Ev
