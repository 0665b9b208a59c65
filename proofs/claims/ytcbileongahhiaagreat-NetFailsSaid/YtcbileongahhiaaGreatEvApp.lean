/- append. -/
import Derived.Test.YtcbileongahhiaaGreatEvEff
namespace Go.Proofs.YtcbileongahhiaaGreat.Ev
open Go
set_option linter.unusedVariables false
set_option linter.unusedSimpArgs false

namespace Tr
variable {α : Type}
theorem putF_putF : ∀ (f : Nat) (t : Tr α) (n : Nat) (x y : Option α), putF f (putF f t n x) n y = putF f t n y
  | 0, _, _, _, _ => rfl
  | f + 1, .nil, n, x, y => by
    simp only [putF]
    split
    · simp [putF, *]
    · split
      · simp only [putF, *, if_true, if_false]; rw [putF_putF f]
      · simp only [putF, *, if_true, if_false]; rw [putF_putF f]
  | f + 1, .node l v r, n, x, y => by
    simp only [putF]
    split
    · simp [putF, *]
    · split
      · simp only [putF, *, if_true, if_false]; rw [putF_putF f]
      · simp only [putF, *, if_true, if_false]; rw [putF_putF f]
theorem put_put (t : Tr α) (n : Nat) (x y : Option α) : (t.put n x).put n y = t.put n y := putF_putF _ _ _ _ _
end Tr

section
variable {P : Program} {B0 : Nat} {ι : Inj} {m : Mem} {w : World}

theorem kill_set (m : Mem) (b : Nat) (x : Blk) : (m.set b x).kill b = m.kill b := by simp [Mem.set, Mem.kill, Tr.put_put]

theorem Step.kill {b : Nat} {p : Place} (hR : Rel P B0 ι m w) (hb : ι b = some p) : Step P B0 ι m w ι (m.kill b) w := by
  have sub : ∀ {b' x}, (m.kill b).get b' = some x → m.get b' = some x := by
    intro b' x h
    rw [Mem.get_kill] at h
    split at h
    · cases h
    · exact h
  refine ⟨hR, Le.refl _, ⟨hR.lt, fun b' p' x h g => hR.blk b' p' x h (sub g), fun b1 b2 p1 p2 x1 x2 h1 h2 g1 g2 ho hp => hR.inj b1 b2 p1 p2 x1 x2 h1 h2 (sub g1) (sub g2) ho hp,
    fun b' p' x h g ho => hR.base b' p' x h (sub g) ho, fun b' h => ?_, hR.low⟩, rfl, rfl, rfl, Nat.le_refl _, fun _ _ _ => rfl, ?_, ?_, ?_, by simp [Mem.kill], fun b' _ hx => by rw [Mem.get_kill]; split; rfl; exact hx, fun k _ ⟨b', p', x, h, g, hp⟩ => ⟨b', p', x, h, sub g, hp⟩⟩
  · rw [Mem.get_kill]
    split
    · rfl
    · exact hR.fresh b' h
  · rintro k _ ⟨b', p', x, h, g, ho, hp⟩
    exact ⟨b', p', x, h, sub g, ho, hp⟩
  · intro b' x g h
    rw [Mem.get_kill, if_neg (fun e => by subst e; rw [hb] at h; cases h)]
    exact g
  · intro b' p' h1 h2
    rw [h1] at h2; cases h2

/-- a row's piece from a place on, under a new name -/
theorem Step.move {b off : Nat} {p : Place} {fz : Option Nat} {el : TypeId} {cs : List AV} (hR : Rel P B0 ι m w) (hb : ι b = some p) (hg : m.get b = some (.row true fz el cs)) (ho : off ≤ cs.length)
    (hal : off % P.cellsOf el = 0) (hz : off = 0 ∨ fz = some 0) :
    Step P B0 ι m w (ι.put m.next ⟨p.blk, p.off + off, p.size⟩) ((m.kill b).new (.row true fz el (cs.drop off))) w := by
  have hk := Step.kill hR hb
  obtain ⟨c, fr, hh, hs, hle, hr, hown⟩ := hR.blk.row hb hg
  have hnone : ι m.next = none := by
    cases h : ι m.next with
    | none => rfl
    | some p => exact absurd (hR.lt _ _ h).1 (Nat.lt_irrefl _)
  obtain ⟨κ, hκ⟩ : ∃ κ, κ = ι.put m.next ⟨p.blk, p.off + off, p.size⟩ := ⟨_, rfl⟩
  rw [← hκ]
  have hsame : κ m.next = some ⟨p.blk, p.off + off, p.size⟩ := by rw [hκ, Inj.put_same]
  have hoth : ∀ {b}, b ≠ m.next → κ b = ι b := fun e => by rw [hκ, Inj.put_other _ _ e]
  have hle' : Le ι κ := by rw [hκ]; exact Le.put _ hnone
  have hblt := (hR.lt b p hb).1
  -- what lies in the new memory
  have key : ∀ {b' x}, ((m.kill b).new (.row true fz el (cs.drop off))).get b' = some x → (b' = m.next ∧ x = .row true fz el (cs.drop off)) ∨ (b' ≠ m.next ∧ b' ≠ b ∧ m.get b' = some x) := by
    intro b' x h
    rw [Mem.get_new] at h
    have hn : (m.kill b).next = m.next := rfl
    rw [hn] at h
    by_cases e : b' = m.next
    · rw [if_pos e] at h; injection h with h; exact .inl ⟨e, h.symm⟩
    · rw [if_neg e, Mem.get_kill] at h
      split at h
      · cases h
      · rename_i e2; exact .inr ⟨e, e2, h⟩
  refine ⟨hR, hle', ⟨?_, ?_, ?_, ?_, ?_, hR.low⟩, rfl, rfl, rfl, Nat.le_refl _, fun _ _ _ => rfl, ?_, ?_, ?_, by simp [Mem.new, Mem.kill], fun b' hb' hx => by
    rw [Mem.get_new]
    have hn : (m.kill b).next = m.next := rfl
    rw [hn, if_neg (by omega), Mem.get_kill]
    split
    · rfl
    · exact hx, ?_⟩
  · intro b' p' h
    by_cases e : b' = m.next
    · subst e
      rw [hsame] at h
      injection h with h
      subst h
      exact ⟨by simp [Mem.new, Mem.kill], (hR.lt b p hb).2⟩
    · rw [hoth e] at h
      have := hR.lt b' p' h
      exact ⟨by simp [Mem.new, Mem.kill]; omega, this.2⟩
  · intro b' p' x h g
    rcases key g with ⟨rfl, rfl⟩ | ⟨e1, e2, g⟩
    · rw [hsame] at h
      injection h with h
      subst h
      simp only [BR]
      refine ⟨c, fr, hh, hs, by simp; omega, ?_, fun _ => ⟨?_, ?_⟩⟩
      · have := VRL.mono hle' _ _ (VRL.drop off hr)
        have e : ((c.toList.drop p.off).take cs.length).drop off = (c.toList.drop (p.off + off)).take (cs.drop off).length := by
          rw [List.drop_take, List.drop_drop, List.length_drop]
        rw [e] at this
        exact this
      · have := (hown rfl).1
        rcases hz with h0 | h0
        · subst h0; simpa using this
        · subst h0
          simp only [FzOk] at this ⊢
          omega
      · have := (hown rfl).2
        show (p.off + off) % _ = 0
        rw [Nat.add_mod, this, hal]
        simp
    · rw [hoth e1] at h
      exact (hR.blk b' p' x h g).mono hle' rfl
  · intro b1 b2 p1 p2 x1 x2 h1 h2 g1 g2 ho' hp
    rcases key g1 with ⟨rfl, rfl⟩ | ⟨e1, e2, g1⟩
    · rcases key g2 with ⟨rfl, rfl⟩ | ⟨f1, f2, g2⟩
      · rfl
      · exfalso
        rw [hsame] at h1
        injection h1 with h1
        rw [hoth f1] at h2
        subst h1
        exact f2 (hR.inj b b2 p p2 _ x2 hb h2 hg g2 rfl hp).symm
    · rcases key g2 with ⟨rfl, rfl⟩ | ⟨f1, f2, g2⟩
      · exfalso
        rw [hsame] at h2
        injection h2 with h2
        rw [hoth e1] at h1
        subst h2
        exact e2 (hR.inj b1 b p1 p x1 _ h1 hb g1 hg ho' hp)
      · rw [hoth e1] at h1
        rw [hoth f1] at h2
        exact hR.inj b1 b2 p1 p2 x1 x2 h1 h2 g1 g2 ho' hp
  · intro b1 p1 x1 h1 g1 ho'
    rcases key g1 with ⟨rfl, rfl⟩ | ⟨e1, e2, g1⟩
    · rw [hsame] at h1
      injection h1 with h1
      subst h1
      exact hR.base b p _ hb hg rfl
    · rw [hoth e1] at h1
      exact hR.base b1 p1 x1 h1 g1 ho'
  · intro b' h
    have h' : m.next + 1 ≤ b' := h
    rw [Mem.get_new]
    have hn : (m.kill b).next = m.next := rfl
    rw [hn, if_neg (by omega), Mem.get_kill]
    split
    · rfl
    · exact hR.fresh b' (by omega)
  · rintro k _ ⟨b', p', x, h, g, ho', hp⟩
    rcases key g with ⟨rfl, rfl⟩ | ⟨e1, e2, g⟩
    · rw [hsame] at h
      injection h with h
      subst h
      exact ⟨b, p, _, hb, hg, rfl, hp⟩
    · rw [hoth e1] at h
      exact ⟨b', p', x, h, g, ho', hp⟩
  · intro b' x g h
    rw [Mem.get_new]
    have hn : (m.kill b).next = m.next := rfl
    have : b' ≠ m.next := fun e => by subst e; rw [hR.fresh _ (Nat.le_refl _)] at g; cases g
    rw [hn, if_neg this, Mem.get_kill, if_neg (fun e => by subst e; rw [hb] at h; cases h)]
    exact g
  · intro b' p' h h0
    by_cases e : b' = m.next
    · omega
    · rw [hoth e, h0] at h; cases h
  · rintro k _ ⟨b', p', x, h, g, hp⟩
    rcases key g with ⟨rfl, rfl⟩ | ⟨e1, e2, g⟩
    · rw [hsame] at h
      injection h with h
      subst h
      exact ⟨b, p, _, hb, hg, hp⟩
    · rw [hoth e1] at h
      exact ⟨b', p', x, h, g, hp⟩

/-- more draws of the tape turn nothing -/
theorem Step.draws (h : Rel P B0 ι m w) (d : Nat) : Step P B0 ι m w ι m { w with drawn := d } := by
  have hr : Rel P B0 ι m { w with drawn := d } := ⟨h.lt, fun b p x hb hx => (h.blk b p x hb hx).mono (Le.refl _) rfl, h.inj, h.base, h.fresh, h.low⟩
  exact ⟨h, Le.refl _, hr, rfl, rfl, rfl, Nat.le_refl _, fun _ _ _ => rfl, fun _ _ h => h, fun _ _ h _ => h, fun b p h h' => by (rw [h] at h'; cases h'), Nat.le_refl _, fun _ _ h => h, fun _ _ h => h⟩

theorem src_run (hm : MR P ι m w) {esz n : Nat} {x : AV} {cs : List AV} {x' : Value} (rx : VR ι x x') (h : srcCells m esz n x = some cs) :
    ∃ new : Array Value, (Builtin.firstCells esz n x').run P w = .ok new w ∧ VRL ι cs new.toList ∧ new.size = n * esz := by
  unfold srcCells at h
  split at h
  · rename_i b off len cap e ex
    split at h
    · rename_i hc
      simp only [Bool.and_eq_true, decide_eq_true_eq] at hc
      obtain ⟨rfl, hn⟩ := hc
      obtain ⟨p, co, c', hp, e', hco, hcap, hsz, hlen⟩ := VR.slc_inv rx
      obtain ⟨cs', hl, hr, hrun, _⟩ := hm.cells hp h
      refine ⟨cs'.toArray, ?_, hr, by simpa using hl⟩
      subst e'
      simp only [Builtin.firstCells]
      rcases hco with h0 | h0
      · have : n = 0 := by split at hcap <;> omega
        subst this
        have : cs' = [] := by cases cs' <;> simp_all
        subst this
        simp [loadCells, loadCellsFrom]
      · rw [h0]; exact hrun
    · cases h
  · split at h
    · rename_i h0
      injection h with h; subst h; subst h0
      rw [VR.nils_inv rx]
      exact ⟨#[], by simp [Builtin.firstCells], VRL.nil_iff.2 rfl, by simp⟩
    · cases h
  · rename_i s
    split at h
    · rename_i hc
      simp only [Bool.and_eq_true, decide_eq_true_eq] at hc
      obtain ⟨hn, rfl⟩ := hc
      injection h with h; subst h
      rw [VR.str_inv rx]
      refine ⟨((⟨s.toArray⟩ : ByteArray).extract 0 n).data.map fun b => .int .u8 b.toNat, by simp [Builtin.firstCells], ?_, ?_⟩
      · rw [ba_extract]
        simp only [List.drop_zero, Nat.sub_zero, List.map_toArray, List.toList_toArray]
        generalize s.take n = l
        induction l with
        | nil => exact VRL.nil_iff.2 rfl
        | cons c l ih => exact VRL.cons VR.int_mk ih
      · rw [ba_extract]; simp; omega
    · cases h
  · cases h

theorem lenAV_run {x : AV} {n : Nat} {x' : Value} (rx : VR ι x x') (h : lenAV x = some n) (w : World) : (Builtin.lenOf x').run P w = .ok n w := by
  unfold lenAV at h
  split at h
  · obtain ⟨p, co, c', _, e, _⟩ := VR.slc_inv rx
    injection h with h; subst h
    simp [e, Builtin.lenOf]
  · injection h with h; subst h
    simp [VR.nils_inv rx, Builtin.lenOf]
  · injection h with h; subst h
    simp [VR.str_inv rx, Builtin.lenOf, ba_size]
  · cases h

/-- what append puts behind, on the model's side -/
def appCells (P : Program) (elem : TypeId) (size n : Nat) (zeros : Bool) (x : Value) : Sem (Array Value) :=
  if !zeros then Builtin.firstCells size n x
  else if n * size = 0 then pure #[]
  else do pure (Builtin.zeroCells (← zeroValue elem).cells n)

theorem appZeros_cases {argTypes : Array TypeId} {zeros : Bool} (hz : appZeros P argTypes = some zeros) :
    (argTypes[1]? = none ∧ zeros = false) ∨ ∃ t d, argTypes[1]? = some t ∧ P.underlying t = some d ∧ ((zeros = true ∧ ∃ k, d = .int k) ∨ (zeros = false ∧ ∀ k, d ≠ .int k)) := by
  unfold appZeros at hz
  split at hz
  · rename_i h1; injection hz with hz; exact .inl ⟨h1, hz.symm⟩
  · rename_i t h1
    split at hz
    · rename_i k hd; injection hz with hz; exact .inr ⟨t, _, h1, hd, .inl ⟨hz.symm, k, rfl⟩⟩
    · rename_i d hne hd; injection hz with hz; exact .inr ⟨t, d, h1, hd, .inr ⟨hz.symm, fun k e => hne k e⟩⟩
    · cases hz

/-- what the second argument must be -/
def AppArg (P : Program) (i : TypeInfo) (zeros : Bool) (n : Nat) (x' : Value) : Prop :=
  if zeros then (∃ k, x' = .int k n) ∧ n ≤ 2 ^ 40 ∧ n * i.bytes ≤ 2 ^ 40 else ∀ w, (Builtin.lenOf x').run P w = .ok n w

theorem wrap_small {n : Nat} (h : n ≤ 2 ^ 40) : IntKind.i64.wrap (n : Int) = n := by rw [IntKind.wrap_i64]; omega

set_option maxHeartbeats 2000000 in
theorem append_room {argTypes : Array TypeId} {ty elem sType : TypeId} {esz : Nat} {i : TypeInfo} {zeros : Bool} {n : Nat} {base : Option Addr} {sLen sCap : Nat} {x' : Value} {new : Array Value} {w' : World}
    (h0 : argTypes[0]? = some sType) (hu : P.underlying sType = some (.slice elem)) (hi : P.info? elem = some i) (hs : i.size = esz)
    (hz : appZeros P argTypes = some zeros) (hn : AppArg P i zeros n x')
    (hroom : sLen + n ≤ sCap) (hnew : (appCells P elem esz n zeros x').run P w = .ok new w) (hst : ∀ a, base = some a → (storeCells (a.add (sLen * esz)) new.toList).run P w = .ok () w') (hb : base = none → w' = w) :
    (Builtin.append_ argTypes ty #[.slice base sLen sCap, x']).run P w = .ok (.slice base (sLen + n) sCap) w' := by
  have hsz : ∀ w, (Go.sizeOf elem).run P w = .ok esz w := fun w => run_sizeOf' (P := P) (t := elem) w (show csize P elem = some esz by simp [csize, hi, hs])
  have hti : ∀ w, (typeInfo elem).run P w = .ok i w := fun w => run_typeInfo' w hi
  unfold AppArg at hn
  unfold appCells at hnew
  rcases appZeros_cases hz with ⟨h1, rfl⟩ | ⟨t, d, h1, hd, ⟨rfl, k, rfl⟩ | ⟨rfl, hne⟩⟩
  · simp only [Bool.false_eq_true, if_false] at hn
    simp only [Bool.not_false, if_true] at hnew
    cases base with
    | none => rw [hb rfl]; simp [Builtin.append_, h0, h1, run_und _ hu, hsz, hn, hroom, hnew]
    | some a => simp [Builtin.append_, h0, h1, run_und _ hu, hsz, hn, hroom, hnew, hst a rfl]
  · simp only [if_true] at hn
    obtain ⟨⟨k', rfl⟩, hn1, hn2⟩ := hn
    have hw := wrap_small hn1
    have hneg : ¬ ((n : Int) < 0) := by omega
    have hbig : ¬ ((281474976710656 : Int) < (n : Int) * (i.bytes : Int)) := by
      rw [← Int.natCast_mul]; omega
    simp only [Bool.not_true, Bool.false_eq_true, if_false] at hnew
    by_cases hz0 : n * esz = 0
    · rw [if_pos hz0] at hnew
      cases base with
      | none => rw [hb rfl]; simp [Builtin.append_, h0, h1, run_und _ hu, run_und _ hd, hsz, hti, asInt, asIntOf, hw, hneg, hbig, hroom, hz0]
      | some a =>
        have : new = #[] := by simp at hnew; exact hnew
        subst this
        have := hst a rfl
        simp [Builtin.append_, h0, h1, run_und _ hu, run_und _ hd, hsz, hti, asInt, asIntOf, hw, hneg, hbig, hroom, hz0, this]
    · rw [if_neg hz0] at hnew
      simp only [Sem.run_bind, Sem.run_pure] at hnew
      cases hzv : (zeroValue elem).run P w with
      | halt h w2 => rw [hzv] at hnew; cases hnew
      | ok v w2 =>
        rw [hzv] at hnew
        simp only [Result.andThen_ok, Result.ok.injEq] at hnew
        obtain ⟨hnew, hw2⟩ := hnew
        rw [hw2] at hzv
        cases base with
        | none => rw [hb rfl]; simp [Builtin.append_, h0, h1, run_und _ hu, run_und _ hd, hsz, hti, asInt, asIntOf, hw, hneg, hbig, hroom, hz0, hzv]
        | some a =>
          have := hst a rfl
          simp [Builtin.append_, h0, h1, run_und _ hu, run_und _ hd, hsz, hti, asInt, asIntOf, hw, hneg, hbig, hroom, hz0, hzv, hnew, this]
  · simp only [Bool.false_eq_true, if_false] at hn
    simp only [Bool.not_false, if_true] at hnew
    have hne' : ∀ k, d = .int k → False := hne
    cases base with
    | none => rw [hb rfl]; simp [Builtin.append_, h0, h1, run_und _ hu, run_und _ hd, hsz, hn, hroom, hnew, hne']
    | some a => simp [Builtin.append_, h0, h1, run_und _ hu, run_und _ hd, hsz, hn, hroom, hnew, hst a rfl, hne']

set_option maxHeartbeats 2000000 in
theorem append_grow {argTypes : Array TypeId} {ty elem sType : TypeId} {esz : Nat} {i : TypeInfo} {zeros : Bool} {n : Nat} {base : Option Addr} {sLen sCap : Nat} {x' : Value} {old new : Array Value} {zv : Value}
    (h0 : argTypes[0]? = some sType) (hu : P.underlying sType = some (.slice elem)) (hi : P.info? elem = some i) (hs : i.size = esz)
    (hz : appZeros P argTypes = some zeros) (hn : AppArg P i zeros n x')
    (hroom : ¬ sLen + n ≤ sCap) (hbound : (sLen + n) * i.bytes ≤ 2 ^ 40) (hlen : sLen + n ≤ 2 ^ 40) (hzv : ∀ w, (zeroValue elem).run P w = .ok zv w)
    (hold : (Builtin.firstCells esz sLen (.slice base sLen sCap)).run P w.drew = .ok old w.drew) (hnew : (appCells P elem esz n zeros x').run P w.drew = .ok new w.drew) :
    ∃ cap, sLen + n ≤ cap ∧ (Builtin.append_ argTypes ty #[.slice base sLen sCap, x']).run P w =
      .ok (.slice (some ⟨w.heap.size, 0, none⟩) (sLen + n) cap) { w with drawn := w.drawn + 1, heap := w.heap.push (.cells (old ++ new ++ Builtin.zeroCells zv.cells (cap - (sLen + n))) elem) } := by
  have hsz : ∀ w, (Go.sizeOf elem).run P w = .ok esz w := fun w => run_sizeOf' (P := P) (t := elem) w (show csize P elem = some esz by simp [csize, hi, hs])
  have hti : ∀ w, (typeInfo elem).run P w = .ok i w := fun w => run_typeInfo' w hi
  have hmax : ¬ ((9223372036854775807 : Int) < ((sLen + n : Nat) : Int)) := by omega
  have hmax' : ¬ ((9223372036854775807 : Int) < (sLen : Int) + n) := by omega
  have hcap : ¬ (281474976710656 < Builtin.nextslicecap (sLen + n) sCap * i.bytes) := by
    have := growslice_fits (need := sLen + n) (old := sCap) (bytes := i.bytes) (by omega) (by omega)
    omega
  have hforced : (Question.appendCap (sLen + n) sCap elem).forced = false := rfl
  refine ⟨(Question.appendCap (sLen + n) sCap elem).cut (w.tape w.drawn (Question.appendCap (sLen + n) sCap elem)), by simp only [Question.cut]; omega, ?_⟩
  unfold AppArg at hn
  unfold appCells at hnew
  rcases appZeros_cases hz with ⟨h1, rfl⟩ | ⟨t, d, h1, hd, ⟨rfl, k, rfl⟩ | ⟨rfl, hne⟩⟩
  · simp only [Bool.false_eq_true, if_false] at hn
    simp only [Bool.not_false, if_true] at hnew
    simp [Builtin.append_, h0, h1, run_und _ hu, hsz, hti, hn, hroom, hnew, hold, hzv, hmax', hcap, hforced, newRow]
    rfl
  · simp only [if_true] at hn
    obtain ⟨⟨k', rfl⟩, hn1, hn2⟩ := hn
    have hw := wrap_small hn1
    have hneg : ¬ ((n : Int) < 0) := by omega
    have hbig : ¬ ((281474976710656 : Int) < (n : Int) * (i.bytes : Int)) := by
      rw [← Int.natCast_mul]; omega
    simp only [Bool.not_true, Bool.false_eq_true, if_false] at hnew
    by_cases hz0 : n * esz = 0
    · rw [if_pos hz0] at hnew
      have : new = #[] := by simp at hnew; exact hnew
      subst this
      simp [Builtin.append_, h0, h1, run_und _ hu, run_und _ hd, hsz, hti, asInt, asIntOf, hw, hneg, hbig, hroom, hz0, hold, hzv, hmax', hcap, hforced, newRow]
      rfl
    · rw [if_neg hz0] at hnew
      simp only [Sem.run_bind, Sem.run_pure, hzv, Result.andThen_ok, Result.ok.injEq, and_true] at hnew
      simp [Builtin.append_, h0, h1, run_und _ hu, run_und _ hd, hsz, hti, asInt, asIntOf, hw, hneg, hbig, hroom, hz0, hold, hzv, hmax', hcap, hforced, newRow, hnew]
      rfl
  · simp only [Bool.false_eq_true, if_false] at hn
    simp only [Bool.not_false, if_true] at hnew
    have hne' : ∀ k, d = .int k → False := hne
    simp [Builtin.append_, h0, h1, run_und _ hu, run_und _ hd, hsz, hti, hn, hroom, hnew, hold, hzv, hmax', hcap, hforced, newRow, hne']
    rfl

end
end Go.Proofs.YtcbileongahhiaaGreat.Ev
