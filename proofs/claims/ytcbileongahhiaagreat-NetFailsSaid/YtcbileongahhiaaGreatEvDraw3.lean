/- A region whose order is drawn: its operations, wherever they stand. -/
import Derived.Test.YtcbileongahhiaaGreatEvDraw2
namespace Go.Proofs.YtcbileongahhiaaGreat.Ev
open Go
set_option linter.unusedVariables false
set_option linter.unusedSimpArgs false

def ins (S : Nat → Bool) (r : Nat) : Nat → Bool := fun j => S j || j == r

theorem ins_of {S : Nat → Bool} {r j : Nat} (h : S j = true) : ins S r j = true := by simp [ins, h]
theorem ins_same {S : Nat → Bool} {r : Nat} : ins S r r = true := by simp [ins]
theorem ins_other {S : Nat → Bool} {r j : Nat} (h : j ≠ r) : ins S r j = S j := by simp [ins, h]

section slots
variable {ops : Array Oper} {T : Trace} {S : Nat → Bool} {n r : Nat} {t : Tmp}

theorem sl_eq (hts : ∀ i, i < n → ∃ o, ops[i]? = some o ∧ T.ts (i + 1) = setT (T.ts i) o.dst (T.v i)) (h : ∀ i o, i < n → ops[i]? = some o → o.dst = some t → (S i = true ↔ i < r)) :
    ∀ i, i ≤ n → sl ops T S i t = (T.ts (min i r)).get t
  | 0, _ => by simp [sl]
  | i + 1, hi => by
    have ih := sl_eq hts h i (by omega)
    obtain ⟨o, ho, hs⟩ := hts i (by omega)
    simp only [sl, ho, Option.bind_some]
    by_cases hd : o.dst = some t
    · have := h i o (by omega) ho hd
      by_cases hir : i < r
      · rw [if_pos ⟨this.2 hir, hd⟩, show min (i + 1) r = i + 1 by omega, hs, setT_get, if_pos hd]
      · rw [if_neg (fun e => hir (this.1 e.1)), ih]
        congr 2
        omega
    · rw [if_neg (fun e => hd e.2), ih]
      by_cases hir : i < r
      · rw [show min (i + 1) r = i + 1 by omega, show min i r = i by omega, hs, setT_get, if_neg hd]
      · congr 2
        omega

theorem sl_put {o : Oper} (ho : ops[r]? = some o) (hS : S r = false) (h : ∀ i o', r < i → i < n → ops[i]? = some o' → o'.dst = some t → o.dst = some t → S i = false) :
    ∀ i, i ≤ n → sl ops T (ins S r) i t = if r < i ∧ o.dst = some t then some (T.v r) else sl ops T S i t
  | 0, _ => by simp [sl]
  | i + 1, hi => by
    have ih := sl_put ho hS h i (by omega)
    simp only [sl]
    by_cases e : i = r
    · subst e
      simp only [ho, Option.bind_some, ins_same, true_and, hS, Bool.false_eq_true, false_and, if_false]
      by_cases hd : o.dst = some t
      · rw [if_pos hd, if_pos ⟨Nat.lt_succ_self _, hd⟩]
      · rw [if_neg hd, if_neg (fun e => hd e.2), ih, if_neg (fun e => hd e.2)]
    · rw [ins_other e, ih]
      by_cases hc : S i = true ∧ (ops[i]?).bind (·.dst) = some t
      · rw [if_pos hc, if_pos hc]
        rw [if_neg]
        rintro ⟨h1, h2⟩
        obtain ⟨h3, h4⟩ := hc
        cases ho' : ops[i]? with
        | none => rw [ho'] at h4; cases h4
        | some o' =>
          rw [ho'] at h4
          rw [h i o' (by omega) (by omega) ho' h4 h2] at h3
          cases h3
      · rw [if_neg hc, if_neg hc]
        by_cases h2 : o.dst = some t
        · by_cases h3 : r < i
          · rw [if_pos ⟨h3, h2⟩, if_pos ⟨by omega, h2⟩]
          · rw [if_neg (fun e => h3 e.1), if_neg (fun e' => h3 (by omega))]
        · rw [if_neg (fun e => h2 e.2), if_neg (fun e => h2 e.2)]
end slots

section looks
variable {P : Program} {G : Nat} {call : FuncId → List AV → Mem → Option (AV × Mem)} {B0 base n : Nat} {ops : Array Oper} {ι ι0 : Inj} {m0 : Mem} {w w0 : World} {T : Trace} {S : Nat → Bool} {c : Nat} {fx : Fx}

/-- the memory as it is, with the blocks of the region that are made ahead of their time -/
def vget (T : Trace) (base n c b : Nat) : Option Blk :=
  match (if base + c ≤ b ∧ b < base + n then T.flo base (b - base) else none) with
  | some x => some x
  | none => (T.m c).get b

theorem vget_ex (f : Nat → Option Blk) (c : Nat) (m : Mem) : ∀ k, ∃ V : Mem, ∀ b, V.get b = match (if base + c ≤ b ∧ b < base + (c + k) then f (b - base) else none) with
    | some x => some x
    | none => m.get b
  | 0 => ⟨m, fun b => by rw [if_neg (by omega)]⟩
  | k + 1 => by
    obtain ⟨V, hV⟩ := vget_ex f c m k
    cases hf : f (c + k) with
    | none =>
      refine ⟨V, fun b => ?_⟩
      rw [hV]
      by_cases e : b = base + (c + k)
      · subst e
        rw [if_neg (by omega), if_pos (by omega), show base + (c + k) - base = c + k by omega, hf]
      · by_cases h : base + c ≤ b ∧ b < base + (c + k)
        · rw [if_pos h, if_pos (by omega)]
        · rw [if_neg h, if_neg (by omega)]
    | some x =>
      refine ⟨V.set (base + (c + k)) x, fun b => ?_⟩
      rw [Mem.get_set]
      by_cases e : b = base + (c + k)
      · subst e
        rw [if_pos rfl, if_pos (by omega), show base + (c + k) - base = c + k by omega, hf]
      · rw [if_neg e, hV]
        by_cases h : base + c ≤ b ∧ b < base + (c + k)
        · rw [if_pos h, if_pos (by omega)]
        · rw [if_neg h, if_neg (by omega)]

theorem vget_step {o : Oper} (hat : Trace.At P G call base ops T c o) (hcn : c < n) (hf : T.fx c ≠ .eff) : vget T base n c = vget T base n (c + 1) := by
  funext b
  unfold vget
  rcases At.mem hat hf with ⟨hm, hna⟩ | ⟨hal, x, hm, _⟩
  · have hflo : T.flo base c = none := by rw [Trace.flo, if_neg hna]
    rw [hm]
    by_cases e : b = base + c
    · subst e
      rw [if_pos (by omega), if_neg (by omega), show base + c - base = c by omega, hflo]
    · by_cases h : base + c ≤ b ∧ b < base + n
      · rw [if_pos h, if_pos (by omega)]
      · rw [if_neg h, if_neg (by omega)]
  · have hflo : T.flo base c = some x := by rw [Trace.flo, if_pos hal, hm, Mem.get_set, if_pos rfl]
    rw [hm]
    by_cases e : b = base + c
    · subst e
      rw [if_pos (by omega), if_neg (by omega), show base + c - base = c by omega, hflo, Mem.get_set, if_pos rfl]
    · rw [Mem.get_set, if_neg e]
      by_cases h : base + c ≤ b ∧ b < base + n
      · rw [if_pos h, if_pos (by omega)]
      · rw [if_neg h, if_neg (by omega)]

theorem Agree.congr {g1 g2 g1' g2' : Nat → Option Blk} (h : Agree g1 g2 fx) (k : ∀ b, (match fx with | .cells b' _ _ => b' = b | .obj b' => b' = b | _ => False) → (g1' b = g2' b ∨ (g1' b = g1 b ∧ g2' b = g2 b))) : Agree g1' g2' fx := by
  cases fx <;> simp only [Agree] at h ⊢
  · rename_i b off n
    rcases k b rfl with k | ⟨k1, k2⟩
    · simp [gcells, gelem, k]
    · simpa only [gcells, gelem, k1, k2] using h
  · rename_i b
    rcases k b rfl with k | ⟨k1, k2⟩
    · simp [gentries, k]
    · simpa only [gentries, k1, k2] using h

theorem vget_eff (hf : T.fx c = .eff) (hs : sameAt (T.m c) (T.m (c + 1)) fx = true) : Agree (vget T base n c) (vget T base n (c + 1)) fx := by
  have hflo : T.flo base c = none := by rw [Trace.flo, hf]; rfl
  refine (sameAt_agree hs).congr fun b _ => ?_
  unfold vget
  by_cases e : b = base + c
  · subst e
    by_cases h : base + c ≤ base + c ∧ base + c < base + n
    · rw [if_pos h, if_neg (by omega), show base + c - base = c by omega, hflo]
      exact .inr ⟨rfl, rfl⟩
    · rw [if_neg h, if_neg (by omega)]
      exact .inr ⟨rfl, rfl⟩
  · by_cases h : base + c ≤ b ∧ b < base + n
    · rw [if_pos h, if_pos (by omega)]
      cases T.flo base (b - base) with
      | none => exact .inr ⟨rfl, rfl⟩
      | some x => exact .inl rfl
    · rw [if_neg h, if_neg (by omega)]
      exact .inr ⟨rfl, rfl⟩

theorem vget_chain (hat : ∀ i, i < n → ∃ o, Trace.At P G call base ops T i o) : ∀ (k c : Nat), c + k ≤ n → (∀ e, c ≤ e → e < c + k → T.fx e = .eff → sameAt (T.m e) (T.m (e + 1)) fx = true) → Agree (vget T base n c) (vget T base n (c + k)) fx
  | 0, c, _, _ => Agree.refl _ _
  | k + 1, c, hk, hs => by
    have h1 : Agree (vget T base n c) (vget T base n (c + 1)) fx := by
      by_cases hf : T.fx c = .eff
      · exact vget_eff hf (hs c (Nat.le_refl _) (by omega) hf)
      · obtain ⟨o, ho⟩ := hat c (by omega)
        rw [vget_step ho (by omega) hf]
        exact Agree.refl _ _
    have h2 := vget_chain hat k (c + 1) (by omega) fun e h1 h2 => hs e (by omega) (by omega)
    rw [show c + 1 + k = c + (k + 1) by omega] at h2
    exact h1.trans h2

theorem vget_here {r : Nat} (h : notAhead base n r fx = true) : Agree (vget T base n r) (T.m r).get fx := by
  refine Agree.of_eq fun b hb => ?_
  unfold vget
  rw [if_neg]
  cases fx <;> simp only [notAhead, Bool.or_eq_true, decide_eq_true_eq] at h hb
  · subst hb; omega
  · subst hb; omega

theorem FInv.looks (h : FInv P B0 base n ι0 m0 w0 T S c ι w) {V : Mem} (hV : ∀ b, V.get b = vget T base n c b) : MR P ι V w := by
  intro b p x hp hx
  rw [hV] at hx
  unfold vget at hx
  split at hx
  · rename_i x' hx'
    injection hx with hx
    subst hx
    split at hx'
    · rename_i hb
      have hj : base + (b - base) = b := by omega
      have hal : T.fx (b - base) = .alloc := by
        unfold Trace.flo at hx'
        split at hx'
        · assumption
        · cases hx'
      have hS : S (b - base) = true := by
        cases hs : S (b - base) with
        | true => rfl
        | false =>
          have := h.un (b - base) (by omega) hs
          rw [hj, hp] at this; cases this
      obtain ⟨p', x'', hp', hx'', hb', _⟩ := h.flo (b - base) (by omega) (by omega) hS hal
      rw [hj, hp] at hp'; injection hp' with hp'
      rw [hx'] at hx''; injection hx'' with hx''
      subst hp'; subst hx''
      exact hb'
    · cases hx'
  · exact h.step.rel.blk b p x hp hx

/-- an operation that leaves memory alone -/
theorem FInv.stay (h : FInv P B0 base n ι0 m0 w0 T S c ι w) {r : Nat} (hf : T.fx r ≠ .eff) (ha : T.fx r ≠ .alloc) : FInv P B0 base n ι0 m0 w0 T (ins S r) c ι w := by
  have hne : ∀ {j}, T.fx j = .alloc → j ≠ r := fun e e' => ha (e' ▸ e)
  have hfalse : ∀ {j}, ins S r j = false → S j = false := fun {j} e => by
    cases hs : S j with
    | false => rfl
    | true => rw [ins_of hs] at e; cases e
  refine ⟨h.hc, h.base_, fun e he hfe => ?_, h.step, h.bnd, fun j hj hjn hS hal => ?_, fun j j' p p' h1 h2 h3 h4 h5 h6 h7 h8 => ?_, fun j hj hS => h.un j hj (hfalse hS), fun j hj hS hal => h.unL j hj (hfalse hS) hal, h.noneG⟩
  · rw [ins_other (fun e' => hf (by rw [← e']; exact hfe))]; exact h.eff e he hfe
  · rw [ins_other (hne hal)] at hS; exact h.flo j hj hjn hS hal
  · rw [ins_other (hne h7)] at h5
    rw [ins_other (hne h8)] at h6
    exact h.dist j j' p p' h1 h2 h3 h4 h5 h6 h7 h8

/-- an operation that makes a block -/
theorem FInv.made (h : FInv P B0 base n ι0 m0 w0 T S c ι w) {r : Nat} (hrn : r < n) (hS : S r = false) (hal : T.fx r = .alloc) {x : Blk} (hx : (T.m (r + 1)).get (base + r) = some x) {w' : World} {rf : Ref} {z : Value} (hM : Made P ι w w' rf x z) :
    ∃ κ, FInv P B0 base n ι0 m0 w0 T (ins S r) c κ w' ∧ VR κ (rf.at (base + r)) z ∧ Le ι κ := by
  have hflo : T.flo base r = some x := by rw [Trace.flo, if_pos hal, hx]
  obtain ⟨κ, p, st, hz, hle, hp, hpb, hbr, hoth⟩ := h.step.alloc hM (b := base + r) (by have := h.base_; omega) (by have := h.bnd; omega) (h.un r hrn hS) (fun y hy => by
    rcases Nat.lt_or_ge r c with hc | hc
    · rw [h.unL r hc hS hal, hx] at hy; injection hy with hy; exact hy.symm
    · rw [h.noneG r hc hrn] at hy; cases hy)
  have hlt : ∀ {b q}, ι b = some q → q.blk < w.heap.size := fun e => (h.step.rel.lt _ _ e).2
  have hin : ∀ {j}, ins S r j = true → j ≠ r → S j = true := fun {j} e e' => by rwa [ins_other e'] at e
  refine ⟨κ, ⟨h.hc, h.base_, fun e he hfe => ?_, st, h.bnd, fun j hj hjn hSj halj => ?_, fun j j' q q' h1 h2 h3 h4 h5 h6 h7 h8 hq hq' hqq => ?_, fun j hj hSj => ?_, fun j hj hSj halj => ?_, h.noneG⟩, hz, hle⟩
  · rw [ins_other (fun e' => by subst e'; rw [hal] at hfe; cases hfe)]; exact h.eff e he hfe
  · by_cases e : j = r
    · subst e
      refine ⟨p, x, hp, hflo, hbr, by rw [hpb]; exact h.step.rel.low, by rw [hpb]; exact h.step.size, ?_⟩
      rintro ⟨b, q, y, hq, hy, hqp⟩
      by_cases eb : b = base + j
      · subst eb; rw [h.noneG j hj hjn] at hy; cases hy
      · rw [hoth b eb] at hq
        have := hlt hq
        omega
    · obtain ⟨p', x', hp', hx', hb', h1, h2, h3⟩ := h.flo j hj hjn (hin hSj e) halj
      refine ⟨p', x', hle _ _ hp', hx', hb'.mono hle (hM.old _ (hlt hp')), h1, h2, ?_⟩
      rintro ⟨b, q, y, hq, hy, hqp⟩
      by_cases eb : b = base + r
      · subst eb
        rw [hp] at hq; injection hq with hq
        subst hq
        have := hlt hp'
        omega
      · rw [hoth b eb] at hq
        exact h3 ⟨b, q, y, hq, hy, hqp⟩
  · by_cases e : j = r
    · by_cases e' : j' = r
      · rw [e, e']
      · exfalso
        subst e
        rw [hp] at hq; injection hq with hq
        rw [hoth _ (by omega)] at hq'
        have := hlt hq'
        rw [← hqq, ← hq] at this
        omega
    · rw [hoth _ (by omega)] at hq
      by_cases e' : j' = r
      · exfalso
        subst e'
        rw [hp] at hq'; injection hq' with hq'
        have := hlt hq
        rw [hqq, ← hq'] at this
        omega
      · rw [hoth _ (by omega)] at hq'
        exact h.dist j j' q q' h1 h2 h3 h4 (hin h5 e) (hin h6 e') h7 h8 hq hq' hqq
  · have e : j ≠ r := fun e => by subst e; rw [ins_same] at hSj; cases hSj
    rw [ins_other e] at hSj
    rw [hoth _ (by omega)]
    exact h.un j hj hSj
  · have e : j ≠ r := fun e => by subst e; rw [ins_same] at hSj; cases hSj
    rw [ins_other e] at hSj
    exact h.unL j hj hSj halj

/-- an operation that writes memory, or a call: its turn has come -/
theorem FInv.does (h : FInv P B0 base n ι0 m0 w0 T S c ι w) {r : Nat} (hc : c = r) (hrn : r < n) (hS : S r = false) (hf : T.fx r = .eff) {κ : Inj} {w' : World} (st : Step P B0 ι (T.m r) w κ (T.m (r + 1)) w') :
    FInv P B0 base n ι0 m0 w0 T (ins S r) (r + 1) κ w' := by
  subst hc
  have hne : ∀ {j}, T.fx j = .alloc → j ≠ c := fun {j} e e' => by subst e'; rw [hf] at e; cases e
  have hlt : ∀ {b q}, ι b = some q → q.blk < w.heap.size := fun e => (h.step.rel.lt _ _ e).2
  have hfalse : ∀ {j}, ins S c j = false → S j = false ∧ j ≠ c := fun {j} e => by
    refine ⟨?_, fun e' => by subst e'; rw [ins_same] at e; cases e⟩
    cases hs : S j with
    | false => rfl
    | true => rw [ins_of hs] at e; cases e
  refine ⟨hrn, h.base_, fun e he hfe => ?_, h.step.trans st, Nat.le_trans h.bnd st.next, fun j hj hjn hSj hal => ?_, fun j j' q q' h1 h2 h3 h4 h5 h6 h7 h8 hq hq' hqq => ?_, fun j hj hSj => ?_, fun j hj hSj hal => ?_, fun j hj hjn => ?_⟩
  · by_cases e' : e = c
    · subst e'; simp [ins_same]
    · rw [ins_other e', h.eff e he hfe]; omega
  · rw [ins_other (by omega)] at hSj
    obtain ⟨p', x', hp', hx', hb', h1, h2, h3⟩ := h.flo j (by omega) hjn hSj hal
    exact ⟨p', x', st.le _ _ hp', hx', hb'.mono st.le (st.frame _ (hlt hp') fun ho => h3 ho.known), h1, h2, fun hk => h3 (st.known _ (hlt hp') hk)⟩
  · rw [ins_other (hne h7)] at h5
    rw [ins_other (hne h8)] at h6
    obtain ⟨p1, _, hp1, _⟩ := h.flo j (by omega) h3 h5 h7
    obtain ⟨p2, _, hp2, _⟩ := h.flo j' (by omega) h4 h6 h8
    have e1 := st.le _ _ hp1
    have e2 := st.le _ _ hp2
    rw [hq] at e1; injection e1 with e1
    rw [hq'] at e2; injection e2 with e2
    exact h.dist j j' p1 p2 (by omega) (by omega) h3 h4 h5 h6 h7 h8 hp1 hp2 (by rw [← e1, ← e2]; exact hqq)
  · obtain ⟨hSj, e⟩ := hfalse hSj
    have hn := h.un j hj hSj
    cases hk : κ (base + j) with
    | none => rfl
    | some p =>
      have := st.new _ p hk hn
      have := h.bnd
      omega
  · obtain ⟨hSj, e⟩ := hfalse hSj
    have hget := h.unL j (by omega) hSj hal
    have hn := h.un j (by omega) hSj
    rw [← hget]
    cases hg : (T.m c).get (base + j) with
    | none => exact st.gone _ (by have := h.bnd; omega) hg
    | some x => exact st.keep _ x hg hn
  · exact st.gone _ (by have := h.bnd; omega) (h.noneG j (by omega) hjn)

end looks
end Go.Proofs.YtcbileongahhiaaGreat.Ev
