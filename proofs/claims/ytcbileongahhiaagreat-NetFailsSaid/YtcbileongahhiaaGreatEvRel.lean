/- What an abstract value and an abstract memory say of the model's: the relations, and how they last. -/
import Derived.Test.YtcbileongahhiaaGreatEv
import Derived.Laws.MakeOwn
import Derived.Laws.IdiomCopy
import Derived.Below
namespace Go.Proofs.YtcbileongahhiaaGreat.Ev
open Go
set_option linter.unusedVariables false
set_option linter.unusedSimpArgs false

structure Place where
  blk : Nat
  off : Nat
  size : Nat

/-- where abstract blocks lie -/
abbrev Inj := Nat → Option Place

def Le (ι κ : Inj) : Prop := ∀ b p, ι b = some p → κ b = some p
theorem Le.refl (ι : Inj) : Le ι ι := fun _ _ h => h
theorem Le.trans {ι κ μ : Inj} (h : Le ι κ) (k : Le κ μ) : Le ι μ := fun b p e => k b p (h b p e)
def Inj.put (ι : Inj) (b : Nat) (p : Place) : Inj := fun k => if k = b then some p else ι k
theorem Inj.put_same (ι : Inj) (b : Nat) (p : Place) : ι.put b p b = some p := by simp [Inj.put]
theorem Inj.put_other (ι : Inj) {b k : Nat} (p : Place) (h : k ≠ b) : ι.put b p k = ι k := by simp [Inj.put, h]
theorem Le.put {ι : Inj} {b : Nat} (p : Place) (h : ι b = none) : Le ι (ι.put b p) := fun k q e => by
  by_cases hk : k = b
  · subst hk; rw [h] at e; cases e
  · rw [Inj.put_other _ _ hk]; exact e

mutual
def VR (ι : Inj) : AV → Value → Prop
  | .bool b, v => v = .bool b
  | .int k n, v => v = .int k n
  | .flt k n, v => v = .float k n
  | .str s, v => v = .string ⟨s.toArray⟩
  | .ptr b o, v => ∃ p, ι b = some p ∧ v = .pointer (some ⟨p.blk, p.off + o, none⟩)
  | .nilp, v => v = .pointer none
  | .slc b o l c e ex, v => ∃ p co c', ι b = some p ∧ v = .slice (some ⟨p.blk, co, none⟩) l c' ∧ (c' = 0 ∨ co = p.off + o) ∧ (if ex then c' = c else c ≤ c') ∧ co + c' * e ≤ p.size ∧ l ≤ c
  | .nils, v => v = .slice none 0 0
  | .map b, v => ∃ p, ι b = some p ∧ v = .map (some p.blk)
  | .nilm, v => v = .map none
  | .func f l c, v => ∃ l' c' : Array Value, v = .func f l' c' ∧ VRL ι l l'.toList ∧ VRL ι c c'.toList
  | .nilf, v => v = .nilFunc
  | .iface t x, v => ∃ x', v = .iface t x' ∧ VR ι x x'
  | .nili, v => v = .nilIface
  | .agg cs, v => ∃ cs' : Array Value, v = .agg cs' ∧ VRL ι cs cs'.toList
  | .tup vs, v => ∃ vs' : Array Value, v = .tuple vs' ∧ VRL ι vs vs'.toList
  | .any, v => v.oneCell' = true
def VRL (ι : Inj) : List AV → List Value → Prop
  | [], l => l = []
  | a :: as, l => ∃ v vs, l = v :: vs ∧ VR ι a v ∧ VRL ι as vs
end

mutual
theorem VR.mono {ι κ : Inj} (h : Le ι κ) : ∀ (a : AV) (v : Value), VR ι a v → VR κ a v
  | .bool _, _, r | .int _ _, _, r | .flt _ _, _, r | .str _, _, r | .nilp, _, r | .nils, _, r | .nilm, _, r | .nilf, _, r | .nili, _, r | .any, _, r => by
    simpa only [VR] using r
  | .ptr _ _, _, r => by simp only [VR] at r ⊢; obtain ⟨p, hp, r⟩ := r; exact ⟨p, h _ _ hp, r⟩
  | .slc _ _ _ _ _ _, _, r => by simp only [VR] at r ⊢; obtain ⟨p, co, c', hp, r⟩ := r; exact ⟨p, co, c', h _ _ hp, r⟩
  | .map _, _, r => by simp only [VR] at r ⊢; obtain ⟨p, hp, r⟩ := r; exact ⟨p, h _ _ hp, r⟩
  | .func _ l c, _, r => by
    simp only [VR] at r ⊢
    obtain ⟨l', c', e, h1, h2⟩ := r
    exact ⟨l', c', e, VRL.mono h l _ h1, VRL.mono h c _ h2⟩
  | .iface _ x, _, r => by simp only [VR] at r ⊢; obtain ⟨x', e, h1⟩ := r; exact ⟨x', e, VR.mono h x _ h1⟩
  | .agg cs, _, r => by simp only [VR] at r ⊢; obtain ⟨x', e, h1⟩ := r; exact ⟨x', e, VRL.mono h cs _ h1⟩
  | .tup cs, _, r => by simp only [VR] at r ⊢; obtain ⟨x', e, h1⟩ := r; exact ⟨x', e, VRL.mono h cs _ h1⟩
theorem VRL.mono {ι κ : Inj} (h : Le ι κ) : ∀ (a : List AV) (v : List Value), VRL ι a v → VRL κ a v
  | [], _, r => by simpa only [VRL] using r
  | a :: as, _, r => by
    simp only [VRL] at r ⊢
    obtain ⟨v, vs, e, h1, h2⟩ := r
    exact ⟨v, vs, e, VR.mono h a _ h1, VRL.mono h as _ h2⟩
end

section lists
variable {ι : Inj}
theorem VRL.nil_iff {l : List Value} : VRL ι [] l ↔ l = [] := by simp only [VRL]
theorem VRL.cons_iff {a : AV} {as : List AV} {l : List Value} : VRL ι (a :: as) l ↔ ∃ v vs, l = v :: vs ∧ VR ι a v ∧ VRL ι as vs := by simp only [VRL]
theorem VRL.cons {a : AV} {as : List AV} {v : Value} {vs : List Value} (h : VR ι a v) (hs : VRL ι as vs) : VRL ι (a :: as) (v :: vs) := VRL.cons_iff.2 ⟨v, vs, rfl, h, hs⟩
theorem VRL.length : ∀ {as : List AV} {l : List Value}, VRL ι as l → l.length = as.length
  | [], l, h => by simp [VRL.nil_iff.1 h]
  | a :: as, l, h => by obtain ⟨v, vs, rfl, _, h2⟩ := VRL.cons_iff.1 h; simp [VRL.length h2]
theorem VRL.get : ∀ {as : List AV} {l : List Value}, VRL ι as l → ∀ {i : Nat} {a : AV}, as[i]? = some a → ∃ v, l[i]? = some v ∧ VR ι a v
  | [], _, _, i, a, e => by simp at e
  | a :: as, l, h, i, b, e => by
    obtain ⟨v, vs, rfl, h1, h2⟩ := VRL.cons_iff.1 h
    cases i with
    | zero => simp at e; subst e; exact ⟨v, rfl, h1⟩
    | succ i => simp at e; obtain ⟨u, hu, r⟩ := VRL.get h2 e; exact ⟨u, by simpa using hu, r⟩
theorem VRL.of_get : ∀ {as : List AV} {l : List Value}, l.length = as.length → (∀ (i : Nat) (a : AV) (v : Value), as[i]? = some a → l[i]? = some v → VR ι a v) → VRL ι as l
  | [], l, hl, _ => VRL.nil_iff.2 (by simpa using hl)
  | a :: as, [], hl, _ => by simp at hl
  | a :: as, v :: vs, hl, h => VRL.cons (h 0 a v rfl rfl) (VRL.of_get (by simpa using hl) fun i a v h1 h2 => h (i + 1) a v (by simpa using h1) (by simpa using h2))
theorem VRL.append : ∀ {as bs : List AV} {l m : List Value}, VRL ι as l → VRL ι bs m → VRL ι (as ++ bs) (l ++ m)
  | [], bs, l, m, h, k => by rw [VRL.nil_iff.1 h]; exact k
  | a :: as, bs, l, m, h, k => by obtain ⟨v, vs, rfl, h1, h2⟩ := VRL.cons_iff.1 h; exact VRL.cons h1 (VRL.append h2 k)
theorem VRL.take : ∀ (n : Nat) {as : List AV} {l : List Value}, VRL ι as l → VRL ι (as.take n) (l.take n)
  | 0, _, _, _ => by simp [VRL.nil_iff]
  | n + 1, [], l, h => by rw [VRL.nil_iff.1 h]; simp [VRL.nil_iff]
  | n + 1, a :: as, l, h => by obtain ⟨v, vs, rfl, h1, h2⟩ := VRL.cons_iff.1 h; exact VRL.cons h1 (VRL.take n h2)
theorem VRL.drop : ∀ (n : Nat) {as : List AV} {l : List Value}, VRL ι as l → VRL ι (as.drop n) (l.drop n)
  | 0, _, _, h => h
  | n + 1, [], l, h => by rw [VRL.nil_iff.1 h]; simp [VRL.nil_iff]
  | n + 1, a :: as, l, h => by obtain ⟨v, vs, rfl, h1, h2⟩ := VRL.cons_iff.1 h; exact VRL.drop n h2
end lists

/-- the cells of a value -/
theorem VR.cells {ι : Inj} {a : AV} {v : Value} (h : VR ι a v) : VRL ι a.cells v.cells.toList := by
  cases a with
  | agg cs => simp only [VR] at h; obtain ⟨cs', rfl, h⟩ := h; exact h
  | tup vs =>
    have h' := h
    simp only [VR] at h
    obtain ⟨l, rfl, _⟩ := h
    exact VRL.cons h' (VRL.nil_iff.2 rfl)
  | bool | int | flt | str | nilp | nils | nilm | nilf | nili => simp only [VR] at h; subst h; exact VRL.cons (by simp only [VR]) (VRL.nil_iff.2 rfl)
  | ptr b o =>
    have h' := h
    simp only [VR] at h
    obtain ⟨p, _, rfl⟩ := h
    exact VRL.cons h' (VRL.nil_iff.2 rfl)
  | slc =>
    have h' := h
    simp only [VR] at h
    obtain ⟨p, co, c', _, rfl, _⟩ := h
    exact VRL.cons h' (VRL.nil_iff.2 rfl)
  | map b =>
    have h' := h
    simp only [VR] at h
    obtain ⟨p, _, rfl⟩ := h
    exact VRL.cons h' (VRL.nil_iff.2 rfl)
  | func =>
    have h' := h
    simp only [VR] at h
    obtain ⟨l, c, rfl, _⟩ := h
    exact VRL.cons h' (VRL.nil_iff.2 rfl)
  | iface =>
    have h' := h
    simp only [VR] at h
    obtain ⟨l, rfl, _⟩ := h
    exact VRL.cons h' (VRL.nil_iff.2 rfl)
  | any =>
    have h' := h
    simp only [VR] at h
    have e : v.cells.toList = [v] := by cases v <;> first | rfl | cases h
    rw [e]
    exact VRL.cons h' (VRL.nil_iff.2 rfl)

theorem VR.flat {ι : Inj} {a : AV} {v : Value} (h : VR ι a v) (hf : a.flat = true) : v.oneCell' = true := by
  cases a with
  | agg | tup => simp [AV.flat] at hf
  | bool | int | flt | str | nilp | nils | nilm | nilf | nili => simp only [VR] at h; subst h; rfl
  | ptr => simp only [VR] at h; obtain ⟨p, _, rfl⟩ := h; rfl
  | slc => simp only [VR] at h; obtain ⟨p, co, c', _, rfl, _⟩ := h; rfl
  | map => simp only [VR] at h; obtain ⟨p, _, rfl⟩ := h; rfl
  | func => simp only [VR] at h; obtain ⟨l, c, rfl, _⟩ := h; rfl
  | iface => simp only [VR] at h; obtain ⟨l, rfl, _⟩ := h; rfl
  | any => simpa only [VR] using h

theorem VR.of_flatAV {ι : Inj} {v : Value} {a : AV} (h : flatAV v = some a) : VR ι a v := by
  unfold flatAV at h
  split at h <;> first
    | (injection h with h; subst h; simp only [VR]; done)
    | (cases h; done)

theorem VRL.of_flatAVs {ι : Inj} : ∀ {l : List Value} {as : List AV}, flatAVs l = some as → VRL ι as l
  | [], as, h => by simp [flatAVs] at h; subst h; exact VRL.nil_iff.2 rfl
  | v :: vs, as, h => by
    simp only [flatAVs] at h
    cases h1 : flatAV v with
    | none => simp [h1] at h
    | some a =>
      cases h2 : flatAVs vs with
      | none => simp [h1, h2] at h
      | some l => simp [h1, h2] at h; subst h; exact VRL.cons (VR.of_flatAV h1) (VRL.of_flatAVs h2)

theorem VR.of_toAV {ι : Inj} {v : Value} {a : AV} (h : toAV v = some a) : VR ι a v := by
  unfold toAV at h
  split at h
  · rename_i cs
    cases h1 : flatAVs cs.toList with
    | none => simp [h1] at h
    | some l => simp [h1] at h; subst h; simp only [VR]; exact ⟨cs, rfl, VRL.of_flatAVs h1⟩
  · exact VR.of_flatAV h

theorem VR.toV {ι : Inj} {a : AV} {u v : Value} (h : toV a = some u) (r : VR ι a v) : v = u := by
  unfold Ev.toV at h
  split at h <;> first
    | (injection h with h; subst h; simpa only [VR] using r)
    | cases h

/-- flat values of constants are no tuples -/
theorem flatAV_flat {v : Value} {a : AV} (h : flatAV v = some a) : a.flat = true := by
  unfold flatAV at h
  split at h <;> first
    | (injection h with h; subst h; rfl)
    | cases h

theorem strip_run {α : Type} {P : Program} : ∀ {s : Sem α} {a : α}, strip P s = some a → ∀ w, s.run P w = .ok a w := by
  intro s
  induction s with
  | pure a => intro b h w; simp [strip] at h; subst h; rfl
  | program k ih => intro b h w; simp only [strip] at h; exact ih _ h w
  | _ => intro b h; simp [strip] at h

/-! the finite maps -/
namespace Tr
variable {α : Type}
theorem get_putF : ∀ (f : Nat) (t : Tr α) (n : Nat) (x : Option α) (k : Nat), n < f → (putF f t n x).get k = if k = n then x else t.get k := by
  intro f
  induction f with
  | zero => intro t n x k h; omega
  | succ f ih =>
    intro t n x k hn
    cases t with
    | nil =>
      simp only [putF]
      by_cases h0 : n = 0
      · subst h0
        simp only [if_true, get]
        by_cases hk : k = 0
        · simp [hk]
        · simp only [hk, if_false]; split <;> rfl
      · simp only [h0, if_false]
        by_cases h1 : n % 2 = 1
        · simp only [h1, if_true, get]
          by_cases hk : k = 0
          · subst hk; simp; intro e; exact absurd e.symm h0
          · simp only [hk, if_false]
            by_cases hk1 : k % 2 = 1
            · simp only [hk1, if_true]
              rw [ih _ _ _ _ (by omega)]
              by_cases e : k = n
              · subst e; simp
              · rw [if_neg (by omega), if_neg e]; rfl
            · simp only [hk1, if_false]
              rw [if_neg (by intro e; subst e; exact hk1 h1)]
        · simp only [h1, if_false, get]
          by_cases hk : k = 0
          · subst hk; simp; intro e; exact absurd e.symm h0
          · simp only [hk, if_false]
            by_cases hk1 : k % 2 = 1
            · simp only [hk1, if_true]
              rw [if_neg (by intro e; subst e; exact h1 hk1)]
            · simp only [hk1, if_false]
              rw [ih _ _ _ _ (by omega)]
              by_cases e : k = n
              · subst e; simp
              · rw [if_neg (by omega), if_neg e]; rfl
    | node l v r =>
      simp only [putF]
      by_cases h0 : n = 0
      · subst h0
        simp only [if_true, get]
        by_cases hk : k = 0
        · simp [hk]
        · simp only [hk, if_false]
      · simp only [h0, if_false]
        by_cases h1 : n % 2 = 1
        · simp only [h1, if_true, get]
          by_cases hk : k = 0
          · subst hk; simp; intro e; exact absurd e.symm h0
          · simp only [hk, if_false]
            by_cases hk1 : k % 2 = 1
            · simp only [hk1, if_true]
              rw [ih _ _ _ _ (by omega)]
              by_cases e : k = n
              · subst e; simp
              · rw [if_neg (by omega), if_neg e]
            · simp only [hk1, if_false]
              rw [if_neg (by intro e; subst e; exact hk1 h1)]
        · simp only [h1, if_false, get]
          by_cases hk : k = 0
          · subst hk; simp; intro e; exact absurd e.symm h0
          · simp only [hk, if_false]
            by_cases hk1 : k % 2 = 1
            · simp only [hk1, if_true]
              rw [if_neg (by intro e; subst e; exact h1 hk1)]
            · simp only [hk1, if_false]
              rw [ih _ _ _ _ (by omega)]
              by_cases e : k = n
              · subst e; simp
              · rw [if_neg (by omega), if_neg e]

theorem get_put (t : Tr α) (n : Nat) (x : Option α) (k : Nat) : (t.put n x).get k = if k = n then x else t.get k := get_putF _ _ _ _ _ (by omega)
theorem get_put_same (t : Tr α) (n : Nat) (x : Option α) : (t.put n x).get n = x := by rw [get_put, if_pos rfl]
theorem get_put_other (t : Tr α) {n k : Nat} (x : Option α) (h : k ≠ n) : (t.put n x).get k = t.get k := by rw [get_put, if_neg h]
end Tr

namespace Mem
theorem get_set (m : Mem) (b : Nat) (x : Blk) (k : Nat) : (m.set b x).get k = if k = b then some x else m.get k := Tr.get_put _ _ _ _
theorem get_kill (m : Mem) (b k : Nat) : (m.kill b).get k = if k = b then none else m.get k := Tr.get_put _ _ _ _
theorem get_new (m : Mem) (x : Blk) (k : Nat) : (m.new x).get k = if k = m.next then some x else m.get k := Tr.get_put _ _ _ _
end Mem

def Blk.own : Blk → Bool
  | .row o _ _ _ => o
  | .map _ => true

/-- the frozen range of a row of ours -/
def FzOk (p : Place) (size : Nat) (fr : Nat × Nat) : Option Nat → Prop
  | some k => fr.1 = fr.2 ∨ (fr.1 = p.off ∧ fr.1 ≤ fr.2 ∧ fr.2 ≤ p.off + k)
  | none => size ≤ fr.1

structure EsR (ι : Inj) (es : List (AV × AV)) (es' : Array MapEntry) (clock : Nat) : Prop where
  len : es'.size = es.length
  at_ : ∀ (i : Nat) (kv : AV × AV) (e : MapEntry), es[i]? = some kv → es'[i]? = some e → VR ι kv.1 e.key ∧ VR ι kv.2 e.val
  born : (es'.toList.map (·.born)).Pairwise (· < ·)
  clock : ∀ e ∈ es'.toList, e.born < clock

/-- an abstract block, and what lies there -/
def BR (P : Program) (ι : Inj) (p : Place) (w : World) : Blk → Prop
  | .row own fz elem cells => ∃ c fr, w.heap[p.blk]? = some (.cells c elem fr) ∧ c.size = p.size ∧ p.off + cells.length ≤ c.size ∧
      VRL ι cells ((c.toList.drop p.off).take cells.length) ∧ (own = true → FzOk p c.size fr fz ∧ p.off % P.cellsOf elem = 0)
  | .map es => ∃ es' clock, w.heap[p.blk]? = some (.map es' clock) ∧ EsR ι es es' clock

/-- the blocks that are known lie as they read -/
def MR (P : Program) (ι : Inj) (m : Mem) (w : World) : Prop := ∀ b p x, ι b = some p → m.get b = some x → BR P ι p w x

structure Rel (P : Program) (B0 : Nat) (ι : Inj) (m : Mem) (w : World) : Prop where
  lt : ∀ b p, ι b = some p → b < m.next ∧ p.blk < w.heap.size
  blk : MR P ι m w
  inj : ∀ b b' p p' x x', ι b = some p → ι b' = some p' → m.get b = some x → m.get b' = some x' → x.own = true → p.blk = p'.blk → b = b'
  base : ∀ b p x, ι b = some p → m.get b = some x → x.own = true → B0 ≤ p.blk
  fresh : ∀ b, m.next ≤ b → m.get b = none
  low : B0 ≤ w.heap.size

/-- a block of the model's that an abstract block of ours lies in -/
def Owned (ι : Inj) (m : Mem) (k : Nat) : Prop := ∃ b p x, ι b = some p ∧ m.get b = some x ∧ x.own = true ∧ p.blk = k

/-- a block of the model's that an abstract block lies in -/
def Known (ι : Inj) (m : Mem) (k : Nat) : Prop := ∃ b p x, ι b = some p ∧ m.get b = some x ∧ p.blk = k

/-- a step of the evaluator and one of the model, together -/
structure Step (P : Program) (B0 : Nat) (ι : Inj) (m : Mem) (w : World) (κ : Inj) (m' : Mem) (w' : World) : Prop where
  rel0 : Rel P B0 ι m w
  le : Le ι κ
  rel : Rel P B0 κ m' w'
  os : w'.os = w.os
  tape : w'.tape = w.tape
  output : w'.output = w.output
  size : w.heap.size ≤ w'.heap.size
  frame : ∀ k, k < w.heap.size → ¬ Owned ι m k → w'.heap[k]? = w.heap[k]?
  owned : ∀ k, k < w.heap.size → Owned κ m' k → Owned ι m k
  keep : ∀ b x, m.get b = some x → ι b = none → m'.get b = some x
  new : ∀ b p, κ b = some p → ι b = none → m.next ≤ b
  next : m.next ≤ m'.next
  gone : ∀ b, b < m.next → m.get b = none → m'.get b = none
  known : ∀ k, k < w.heap.size → Known κ m' k → Known ι m k

theorem Step.refl {P : Program} {B0 : Nat} {ι : Inj} {m : Mem} {w : World} (h : Rel P B0 ι m w) : Step P B0 ι m w ι m w :=
  ⟨h, Le.refl ι, h, rfl, rfl, rfl, Nat.le_refl _, fun _ _ _ => rfl, fun _ _ h => h, fun _ _ h _ => h, fun b p h h' => by (rw [h] at h'; cases h'), Nat.le_refl _, fun _ _ h => h, fun _ _ h => h⟩

theorem Step.trans {P : Program} {B0 : Nat} {ι κ μ : Inj} {m m' m'' : Mem} {w w' w'' : World} (h : Step P B0 ι m w κ m' w') (k : Step P B0 κ m' w' μ m'' w'') : Step P B0 ι m w μ m'' w'' where
  rel0 := h.rel0
  le := h.le.trans k.le
  rel := k.rel
  os := k.os.trans h.os
  tape := k.tape.trans h.tape
  output := k.output.trans h.output
  size := Nat.le_trans h.size k.size
  frame := fun j hj hn => (k.frame j (Nat.lt_of_lt_of_le hj h.size) fun ho => hn (h.owned j hj ho)).trans (h.frame j hj hn)
  owned := fun j hj ho => h.owned j hj (k.owned j (Nat.lt_of_lt_of_le hj h.size) ho)
  keep := fun b x hx hb => by
    have h1 := h.keep b x hx hb
    refine k.keep b x h1 ?_
    cases hk : κ b with
    | none => rfl
    | some p =>
      have h2 := h.new b p hk hb
      have h3 := h.rel0.fresh b h2
      rw [h3] at hx; cases hx
  new := fun b p hp hb => by
    cases hk : κ b with
    | none => exact Nat.le_trans h.next (k.new b p hp hk)
    | some q => exact h.new b q hk hb
  next := Nat.le_trans h.next k.next
  gone := fun b hb hx => k.gone b (Nat.lt_of_lt_of_le hb h.next) (h.gone b hb hx)
  known := fun j hj ho => h.known j hj (k.known j (Nat.lt_of_lt_of_le hj h.size) ho)

end Go.Proofs.YtcbileongahhiaaGreat.Ev
