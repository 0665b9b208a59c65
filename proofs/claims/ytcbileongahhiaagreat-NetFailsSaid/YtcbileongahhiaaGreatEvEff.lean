/- The operations that write memory: steps. -/
import Derived.Test.YtcbileongahhiaaGreatEvNew
namespace Go.Proofs.YtcbileongahhiaaGreat.Ev
open Go
set_option linter.unusedVariables false
set_option linter.unusedSimpArgs false

section
variable {P : Program} {B0 : Nat} {ι : Inj} {m : Mem} {w : World}

theorem BR.mono {κ : Inj} {p : Place} {w' : World} {x : Blk} (h : BR P ι p w x) (hκ : Le ι κ) (hw : w'.heap[p.blk]? = w.heap[p.blk]?) : BR P κ p w' x := by
  cases x with
  | row own fz el cs =>
    simp only [BR] at h ⊢
    obtain ⟨c, fr, h1, h2, h3, h4, h5⟩ := h
    exact ⟨c, fr, hw.trans h1, h2, h3, VRL.mono hκ _ _ h4, h5⟩
  | map es =>
    simp only [BR] at h ⊢
    obtain ⟨es', clock, h1, h2⟩ := h
    exact ⟨es', clock, hw.trans h1, h2.len, fun i kv e a b => ⟨VR.mono hκ _ _ (h2.at_ i kv e a b).1, VR.mono hκ _ _ (h2.at_ i kv e a b).2⟩, h2.born, h2.clock⟩

theorem Made.step {w' : World} {rf : Ref} {blk : Blk} {z : Value} (hR : Rel P B0 ι m w) (hM : Made P ι w w' rf blk z) (ho : blk.own = true) :
    ∃ κ, Step P B0 ι m w κ (m.new blk) w' ∧ VR κ (rf.at m.next) z := by
  obtain ⟨n, hn⟩ := hM.lies
  have hnone : ι m.next = none := by
    cases h : ι m.next with
    | none => rfl
    | some p => exact absurd (hR.lt _ _ h).1 (Nat.lt_irrefl _)
  obtain ⟨κ, hκ⟩ : ∃ κ, κ = ι.put m.next ⟨w.heap.size, 0, n⟩ := ⟨_, rfl⟩
  have hsame : κ m.next = some ⟨w.heap.size, 0, n⟩ := by rw [hκ, Inj.put_same]
  have hoth : ∀ {b}, b ≠ m.next → κ b = ι b := fun e => by rw [hκ, Inj.put_other _ _ e]
  have hle : Le ι κ := by rw [hκ]; exact Le.put _ hnone
  obtain ⟨h1, h2⟩ := hn κ m.next hle hsame
  have hlt : ∀ b p, ι b = some p → b ≠ m.next := fun b p h => by have := (hR.lt b p h).1; omega
  refine ⟨κ, ⟨hR, hle, ⟨?_, ?_, ?_, ?_, ?_, ?_⟩, hM.os, hM.tape, hM.output, by rw [hM.size]; omega, fun k hk _ => hM.old k hk, ?_, ?_, ?_, by simp [Mem.new], fun b hb hx => by rw [Mem.get_new, if_neg (by omega)]; exact hx, ?_⟩, h1⟩
  · intro b p hb
    by_cases e : b = m.next
    · subst e
      rw [hsame] at hb
      injection hb with hb
      subst hb
      exact ⟨by simp [Mem.new], by rw [hM.size]; simp⟩
    · rw [hoth e] at hb
      have := hR.lt b p hb
      exact ⟨by simp [Mem.new]; omega, by rw [hM.size]; omega⟩
  · intro b p x hb hx
    rw [Mem.get_new] at hx
    by_cases e : b = m.next
    · subst e
      rw [if_pos rfl] at hx
      injection hx with hx
      subst hx
      rw [hsame] at hb
      injection hb with hb
      subst hb
      exact h2
    · rw [if_neg e] at hx
      rw [hoth e] at hb
      exact (hR.blk b p x hb hx).mono hle (hM.old _ (hR.lt b p hb).2)
  · intro b b' p p' x x' hb hb' hx hx' hown hpp
    rw [Mem.get_new] at hx hx'
    by_cases e : b = m.next
    · by_cases e' : b' = m.next
      · rw [e, e']
      · exfalso
        subst e
        rw [hsame] at hb
        injection hb with hb
        rw [hoth e'] at hb'
        have := (hR.lt b' p' hb').2
        rw [← hpp, ← hb] at this
        simp at this
    · rw [if_neg e] at hx
      rw [hoth e] at hb
      by_cases e' : b' = m.next
      · exfalso
        subst e'
        rw [hsame] at hb'
        injection hb' with hb'
        have := (hR.lt b p hb).2
        rw [hpp, ← hb'] at this
        simp at this
      · rw [if_neg e'] at hx'
        rw [hoth e'] at hb'
        exact hR.inj b b' p p' x x' hb hb' hx hx' hown hpp
  · intro b p x hb hx hown
    rw [Mem.get_new] at hx
    by_cases e : b = m.next
    · subst e
      rw [hsame] at hb
      injection hb with hb
      subst hb
      exact hR.low
    · rw [if_neg e] at hx
      rw [hoth e] at hb
      exact hR.base b p x hb hx hown
  · intro b hb
    rw [Mem.get_new]
    have : m.next + 1 ≤ b := hb
    rw [if_neg (by omega)]
    exact hR.fresh b (by omega)
  · rw [hM.size]; have := hR.low; omega
  · rintro k hk ⟨b, p, x, hb, hx, hown, hpk⟩
    rw [Mem.get_new] at hx
    by_cases e : b = m.next
    · exfalso
      subst e
      rw [hsame] at hb
      injection hb with hb
      subst hb
      simp at hpk
      omega
    · rw [if_neg e] at hx
      rw [hoth e] at hb
      exact ⟨b, p, x, hb, hx, hown, hpk⟩
  · intro b x hx hb
    rw [Mem.get_new]
    have : b ≠ m.next := fun e => by subst e; rw [hR.fresh _ (Nat.le_refl _)] at hx; cases hx
    rw [if_neg this]
    exact hx
  · intro b p hb hb0
    by_cases e : b = m.next
    · omega
    · rw [hoth e] at hb
      rw [hb0] at hb; cases hb
  · rintro k hk ⟨b, p, x, hb, hx, hpk⟩
    rw [Mem.get_new] at hx
    by_cases e : b = m.next
    · exfalso
      subst e
      rw [hsame] at hb
      injection hb with hb
      subst hb
      simp at hpk
      omega
    · rw [if_neg e] at hx
      rw [hoth e] at hb
      exact ⟨b, p, x, hb, hx, hpk⟩

/-- a row with a piece of it replaced -/
def splice (c : Array Value) (o : Nat) (vs : List Value) : Array Value := (c.toList.take o ++ vs ++ c.toList.drop (o + vs.length)).toArray

theorem splice_size {c : Array Value} {o : Nat} {vs : List Value} (h : o + vs.length ≤ c.size) : (splice c o vs).size = c.size := by
  simp [splice]; omega

theorem splice_nil (c : Array Value) (o : Nat) : splice c o [] = c := by simp [splice]

theorem splice_cons {c : Array Value} {o : Nat} {v : Value} {vs : List Value} (h : o + vs.length + 1 ≤ c.size) : splice (c.setIfInBounds o v) (o + 1) vs = splice c o (v :: vs) := by
  have hlt : o < c.toList.length := by simp; omega
  unfold splice
  congr 1
  simp only [Array.toList_setIfInBounds, List.length_cons]
  rw [show o + 1 + vs.length = o + (vs.length + 1) by omega, List.take_set, List.drop_set_of_lt (by omega), List.take_succ_eq_append_getElem hlt]
  have hl : (c.toList.take o).length = o := by rw [List.length_take]; omega
  have : ((c.toList.take o ++ [c.toList[o]]).set o v) = c.toList.take o ++ [v] := by
    rw [List.set_append_right _ _ (by omega), hl, Nat.sub_self]
    rfl
  rw [this]
  simp

theorem storeCells_run {k o : Nat} {el : TypeId} {fr : Nat × Nat} : ∀ (vs : List Value) (i : Nat) (w : World) (c : Array Value), w.heap[k]? = some (.cells c el fr) → o + i + vs.length ≤ c.size →
    (∀ j, i ≤ j → j < i + vs.length → ¬ (fr.1 ≤ o + j ∧ o + j < fr.2)) → (∀ v ∈ vs, v.oneCell' = true) →
    (storeCells ⟨k, o, none⟩ vs i).run P w = .ok () { w with heap := w.heap.setIfInBounds k (.cells (splice c (o + i) vs) el fr) }
  | [], i, w, c, hh, _, _, _ => by
    have : w.heap.setIfInBounds k (.cells c el fr) = w.heap := by
      apply Array.ext_getElem?
      intro j
      rw [Array.getElem?_setIfInBounds]
      split
      · rename_i e; subst e; split
        · exact hh.symm
        · rename_i hn; rw [Array.getElem?_eq_none (by omega)] at hh; cases hh
      · rfl
    simp [storeCells, splice_nil, this]
  | v :: vs, i, w, c, hh, hl, hf, h1 => by
    simp only [List.length_cons] at hl hf
    have hadd : Addr.add ⟨k, o, none⟩ i = ⟨k, o + i, none⟩ := Addr.add_lit _ _ _
    have hcell : w.cell? ⟨k, o + i, none⟩ = some (c[o + i]'(by omega)) := by
      rw [cell?_row hh, Array.getElem?_eq_getElem (by omega)]
    have hfr : w.frozen? ⟨k, o + i, none⟩ = false := by
      have := hf i (Nat.le_refl _) (by omega)
      simp [World.frozen?, hh]
      omega
    have hk : k < w.heap.size := by
      rcases Nat.lt_or_ge k w.heap.size with h | h
      · exact h
      · rw [Array.getElem?_eq_none h] at hh; cases hh
    have hset : (w.setCell ⟨k, o + i, none⟩ v).heap[k]? = some (.cells (c.setIfInBounds (o + i) v) el fr) := by
      simp [World.setCell, Array.getElem?_modify, hh]
    have ih := storeCells_run vs (i + 1) (w.setCell ⟨k, o + i, none⟩ v) (c.setIfInBounds (o + i) v) hset (by simp; omega)
      (fun j hj hj2 => hf j (by omega) (by omega)) (fun u hu => h1 u (by simp [hu]))
    simp only [storeCells, Sem.run_bind, hadd, run_store P w _ v _ (h1 v (by simp)), hcell, hfr, Bool.false_eq_true, if_false, Result.andThen_ok]
    rw [ih]
    congr 1
    rw [show o + (i + 1) = o + i + 1 by omega, splice_cons (by omega)]
    have : (w.setCell ⟨k, o + i, none⟩ v).heap.setIfInBounds k (.cells (splice c (o + i) (v :: vs)) el fr) = w.heap.setIfInBounds k (.cells (splice c (o + i) (v :: vs)) el fr) := by
      apply Array.ext_getElem?
      intro j
      simp only [Array.getElem?_setIfInBounds, World.size_setCell]
      split
      · rfl
      · rename_i hne
        simp only [World.setCell, Array.getElem?_modify, if_neg hne]
    simp only [World.setCell] at this ⊢
    rw [this]

/-- a block of ours is written anew, at its place -/
theorem Step.write {b : Nat} {p : Place} {x0 x1 : Blk} {ob : Obj} (hR : Rel P B0 ι m w) (hb : ι b = some p) (hg : m.get b = some x0) (ho0 : x0.own = true)
    (hrel : BR P ι p { w with heap := w.heap.setIfInBounds p.blk ob } x1) :
    Step P B0 ι m w ι (m.set b x1) { w with heap := w.heap.setIfInBounds p.blk ob } := by
  have hother : ∀ k, k ≠ p.blk → ({ w with heap := w.heap.setIfInBounds p.blk ob } : World).heap[k]? = w.heap[k]? := fun k hk => by
    simp only [Array.getElem?_setIfInBounds]
    rw [if_neg (fun e => hk e.symm)]
  refine ⟨hR, Le.refl _, ⟨?_, ?_, ?_, ?_, ?_, ?_⟩, rfl, rfl, rfl, by simp, ?_, ?_, ?_, ?_, by simp [Mem.set], fun b' _ hx => by rw [Mem.get_set, if_neg (fun e => by subst e; rw [hg] at hx; cases hx)]; exact hx, ?_⟩
  · intro b' p' hb'
    have := hR.lt b' p' hb'
    exact ⟨this.1, by simpa using this.2⟩
  · intro b' p' x hb' hx
    rw [Mem.get_set] at hx
    by_cases e : b' = b
    · subst e
      rw [if_pos rfl] at hx
      injection hx with hx
      subst hx
      rw [hb] at hb'
      injection hb' with hb'
      subst hb'
      exact hrel
    · rw [if_neg e] at hx
      refine (hR.blk b' p' x hb' hx).mono (Le.refl _) (hother _ fun e2 => e ?_)
      exact (hR.inj b b' p p' _ x hb hb' hg hx ho0 e2.symm).symm
  · intro b1 b2 p1 p2 u1 u2 h1 h2 g1 g2 ho hp
    rw [Mem.get_set] at g1 g2
    have key : ∀ (b3 : Nat) (x3 : Blk), (if b3 = b then some x1 else m.get b3) = some x3 → ∃ x4, m.get b3 = some x4 ∧ (x3.own = true → x4.own = true) := by
      intro b3 x3 h3
      by_cases e : b3 = b
      · subst e; exact ⟨_, hg, fun _ => ho0⟩
      · rw [if_neg e] at h3; exact ⟨x3, h3, id⟩
    obtain ⟨y1, z1, o1⟩ := key b1 u1 g1
    obtain ⟨y2, z2, _⟩ := key b2 u2 g2
    exact hR.inj b1 b2 p1 p2 y1 y2 h1 h2 z1 z2 (o1 ho) hp
  · intro b1 p1 y h1 g1 ho
    rw [Mem.get_set] at g1
    by_cases e : b1 = b
    · subst e; rw [hb] at h1; injection h1 with h1; subst h1
      exact hR.base b1 p _ hb hg ho0
    · rw [if_neg e] at g1; exact hR.base b1 p1 y h1 g1 ho
  · intro b1 h1
    have h1' : m.next ≤ b1 := h1
    rw [Mem.get_set]
    have := (hR.lt b p hb).1
    rw [if_neg (by omega)]
    exact hR.fresh b1 h1'
  · simpa using hR.low
  · intro k hk hn
    exact hother k fun e => hn ⟨b, p, _, hb, hg, ho0, e.symm⟩
  · rintro k hk ⟨b1, p1, y, h1, g1, ho, hp⟩
    rw [Mem.get_set] at g1
    by_cases e : b1 = b
    · subst e; rw [hb] at h1; injection h1 with h1; subst h1; exact ⟨b1, p, _, hb, hg, ho0, hp⟩
    · rw [if_neg e] at g1; exact ⟨b1, p1, y, h1, g1, ho, hp⟩
  · intro b1 y g1 h1
    rw [Mem.get_set]
    rw [if_neg (fun e => by subst e; rw [hb] at h1; cases h1)]
    exact g1
  · intro b1 p1 h1 h2
    rw [h1] at h2; cases h2
  · rintro k hk ⟨b1, p1, y, h1, g1, hp⟩
    rw [Mem.get_set] at g1
    by_cases e : b1 = b
    · subst e; rw [hb] at h1; injection h1 with h1; subst h1; exact ⟨b1, p, _, hb, hg, hp⟩
    · rw [if_neg e] at g1; exact ⟨b1, p1, y, h1, g1, hp⟩


theorem store_get {b off : Nat} {vs : List AV} {m' : Mem} (h : m.store b off vs = some m') : ∃ fz el cs, m.get b = some (.row true fz el cs) ∧ off + vs.length ≤ cs.length ∧ vs.all AV.flat = true ∧ fz.getD 0 ≤ off ∧
    m' = m.set b (.row true fz el (cs.take off ++ vs ++ cs.drop (off + vs.length))) := by
  unfold Mem.store at h
  split at h
  · rename_i fz el cs hg
    split at h
    · rename_i hc
      simp only [Bool.and_eq_true, decide_eq_true_eq] at hc
      injection h with h
      exact ⟨fz, el, cs, hg, hc.1.1, hc.1.2, hc.2, h.symm⟩
    · cases h
  · cases h

theorem flats_one {vs : List AV} {vs' : List Value} (h : VRL ι vs vs') (hf : vs.all AV.flat = true) : ∀ v ∈ vs', v.oneCell' = true := by
  intro v hv
  obtain ⟨i, hi⟩ := List.getElem?_of_mem hv
  have hl := VRL.length h
  have hlt : i < vs.length := by have := (List.getElem?_eq_some_iff.1 hi).1; omega
  obtain ⟨u, hu, r⟩ := VRL.get h (List.getElem?_eq_getElem hlt)
  rw [hi] at hu
  injection hu with hu
  subst hu
  exact VR.flat r (List.all_eq_true.1 hf _ (List.getElem_mem hlt))

/-- a row with a piece replaced, on both sides -/
theorem splice_rel {p : Place} {cs vs : List AV} {vs' : List Value} {c : Array Value} {off : Nat} (hle : p.off + cs.length ≤ c.size) (hr : VRL ι cs ((c.toList.drop p.off).take cs.length)) (hv : VRL ι vs vs') (ho : off + vs.length ≤ cs.length) :
    VRL ι (cs.take off ++ vs ++ cs.drop (off + vs.length)) (((splice c (p.off + off) vs').toList.drop p.off).take (cs.take off ++ vs ++ cs.drop (off + vs.length)).length) := by
  have hl := VRL.length hv
  have e1 : (cs.take off ++ vs ++ cs.drop (off + vs.length)).length = cs.length := by simp; omega
  rw [e1]
  have e2 : ((splice c (p.off + off) vs').toList.drop p.off).take cs.length = ((c.toList.drop p.off).take cs.length).take off ++ vs' ++ ((c.toList.drop p.off).take cs.length).drop (off + vs'.length) := by
    apply List.ext_getElem?
    intro i
    have hcl : c.toList.length = c.size := by simp
    simp only [splice, List.getElem?_take, List.getElem?_drop, List.getElem?_append, List.length_append, List.length_take, List.length_drop, List.append_assoc]
    have t1 : min (p.off + off) c.toList.length = p.off + off := by omega
    have t2 : min off (min cs.length (c.toList.length - p.off)) = off := by omega
    rw [t1, t2]
    by_cases h1 : i < off
    · have : i < cs.length := by omega
      simp [h1, this, show p.off + i < p.off + off by omega]
    · by_cases h2 : i < off + vs'.length
      · have a1 : i < cs.length := by omega
        have a2 : ¬ (p.off + i < p.off + off) := by omega
        have a3 : p.off + i - (p.off + off) = i - off := by omega
        have a4 : i - off < vs'.length := by omega
        simp [h1, a1, a2, a3, a4]
      · by_cases h3 : i < cs.length
        · have a2 : ¬ (p.off + i < p.off + off) := by omega
          have a3 : p.off + i - (p.off + off) = i - off := by omega
          have a4 : ¬ (i - off < vs'.length) := by omega
          simp [h1, h3, a2, a3, a4]
          have b1 : off + vs'.length + (i - off - vs'.length) < cs.length := by omega
          rw [if_pos b1]
          congr 1
          omega
        · have a4 : ¬ (i - off < vs'.length) := by omega
          have b1 : ¬ (off + vs'.length + (i - off - vs'.length) < cs.length) := by omega
          simp [h1, h3, a4, b1]
  rw [e2]
  rw [hl]
  exact VRL.append (VRL.append (VRL.take _ hr) hv) (VRL.drop _ hr)

theorem store_run {b off : Nat} {p : Place} {vs : List AV} {vs' : List Value} {m' : Mem} (hR : Rel P B0 ι m w) (hb : ι b = some p) (h : m.store b off vs = some m') (hv : VRL ι vs vs') :
    ∃ w', (storeCells ⟨p.blk, p.off + off, none⟩ vs').run P w = .ok () w' ∧ Step P B0 ι m w ι m' w' := by
  obtain ⟨fz, el, cs, hg, hle, hflat, hfz, rfl⟩ := store_get h
  obtain ⟨c, fr, hh, hs, hle2, hr, hown⟩ := hR.blk.row hb hg
  have hl := VRL.length hv
  have hnf : ∀ j, 0 ≤ j → j < 0 + vs'.length → ¬ (fr.1 ≤ p.off + off + j ∧ p.off + off + j < fr.2) := by
    intro j _ hj
    have := (hown rfl).1
    cases fz with
    | some k =>
      simp only [FzOk, Option.getD_some] at this hfz
      omega
    | none =>
      simp only [FzOk] at this
      omega
  have hrun := storeCells_run (P := P) (k := p.blk) (o := p.off + off) vs' 0 w c hh (by omega) hnf (flats_one hv hflat)
  refine ⟨_, hrun, Step.write hR hb hg rfl ?_⟩
  simp only [BR, Nat.add_zero]
  have hk : p.blk < w.heap.size := (hR.lt b p hb).2
  have hsz : (splice c (p.off + off) vs').size = c.size := splice_size (by omega)
  refine ⟨splice c (p.off + off) vs', fr, by simp [hk], by rw [hsz, hs], by rw [hsz]; simp; omega, splice_rel hle2 hr hv hle, fun _ => ?_⟩
  rw [hsz]
  exact hown rfl

end
end Go.Proofs.YtcbileongahhiaaGreat.Ev
