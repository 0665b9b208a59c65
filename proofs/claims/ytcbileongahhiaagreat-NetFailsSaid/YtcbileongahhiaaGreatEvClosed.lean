/- Runs over what is known of memory everywhere are contracts in any memory. -/
import Derived.Test.YtcbileongahhiaaGreatEvLib
namespace Go.Proofs.YtcbileongahhiaaGreat.Ev
open Go
set_option linter.unusedVariables false
set_option linter.unusedSimpArgs false

mutual
/-- a value in which no block's name stands -/
def AV.plain : AV → Bool
  | .ptr _ _ | .slc _ _ _ _ _ _ | .map _ => false
  | .func _ l c => AV.plainL l && AV.plainL c
  | .iface _ v => AV.plain v
  | .agg cs => AV.plainL cs
  | .tup cs => AV.plainL cs
  | _ => true
def AV.plainL : List AV → Bool
  | [] => true
  | a :: l => AV.plain a && AV.plainL l
end

mutual
theorem VR.plain {ι κ : Inj} : ∀ (a : AV) (v : Value), a.plain = true → VR ι a v → VR κ a v
  | .bool _, _, _, r | .int _ _, _, _, r | .flt _ _, _, _, r | .str _, _, _, r | .nilp, _, _, r | .nils, _, _, r | .nilm, _, _, r | .nilf, _, _, r | .nili, _, _, r | .any, _, _, r => by simpa only [VR] using r
  | .ptr _ _, _, h, _ | .slc _ _ _ _ _ _, _, h, _ | .map _, _, h, _ => by simp [AV.plain] at h
  | .func _ l c, _, h, r => by
    simp only [AV.plain, Bool.and_eq_true] at h
    simp only [VR] at r ⊢
    obtain ⟨l', c', e, h1, h2⟩ := r
    exact ⟨l', c', e, VRL.plain l _ h.1 h1, VRL.plain c _ h.2 h2⟩
  | .iface _ x, _, h, r => by
    simp only [AV.plain] at h
    simp only [VR] at r ⊢
    obtain ⟨x', e, h1⟩ := r
    exact ⟨x', e, VR.plain x _ h h1⟩
  | .agg cs, _, h, r => by
    simp only [AV.plain] at h
    simp only [VR] at r ⊢
    obtain ⟨x', e, h1⟩ := r
    exact ⟨x', e, VRL.plain cs _ h h1⟩
  | .tup cs, _, h, r => by
    simp only [AV.plain] at h
    simp only [VR] at r ⊢
    obtain ⟨x', e, h1⟩ := r
    exact ⟨x', e, VRL.plain cs _ h h1⟩
theorem VRL.plain {ι κ : Inj} : ∀ (a : List AV) (v : List Value), AV.plainL a = true → VRL ι a v → VRL κ a v
  | [], _, _, r => by simpa only [VRL] using r
  | a :: as, _, h, r => by
    simp only [AV.plainL, Bool.and_eq_true] at h
    simp only [VRL] at r ⊢
    obtain ⟨v, vs, e, h1, h2⟩ := r
    exact ⟨v, vs, e, VR.plain a _ h.1 h1, VRL.plain as _ h.2 h2⟩
end

mutual
theorem AV.ren_plain {r : Nat → Nat} : ∀ (a : AV), a.plain = true → AV.ren r a = a
  | .bool _, _ | .int _ _, _ | .flt _ _, _ | .str _, _ | .nilp, _ | .nils, _ | .nilm, _ | .nilf, _ | .nili, _ | .any, _ => by simp only [AV.ren]
  | .ptr _ _, h | .slc _ _ _ _ _ _, h | .map _, h => by simp [AV.plain] at h
  | .func _ l c, h => by simp only [AV.plain, Bool.and_eq_true] at h; simp only [AV.ren, AV.renL_plain l h.1, AV.renL_plain c h.2]
  | .iface _ x, h => by simp only [AV.plain] at h; simp only [AV.ren, AV.ren_plain x h]
  | .agg cs, h => by simp only [AV.plain] at h; simp only [AV.ren, AV.renL_plain cs h]
  | .tup cs, h => by simp only [AV.plain] at h; simp only [AV.ren, AV.renL_plain cs h]
theorem AV.renL_plain {r : Nat → Nat} : ∀ (l : List AV), AV.plainL l = true → AV.renL r l = l
  | [], _ => rfl
  | a :: l, h => by simp only [AV.plainL, Bool.and_eq_true] at h; simp only [AV.renL, AV.ren_plain a h.1, AV.renL_plain l h.2]
end

/-- what was there is as it was -/
def Ext (m m1 : Mem) : Prop := m.next ≤ m1.next ∧ ∀ b, b < m.next → m1.get b = m.get b

section
variable {P : Program} {B0 G : Nat} {ι κ : Inj} {m m' m1 m2 : Mem} {w w' : World}

theorem Ext.refl : Ext m m := ⟨Nat.le_refl _, fun _ _ => rfl⟩
theorem Ext.trans (h : Ext m m1) (k : Ext m1 m2) : Ext m m2 := ⟨Nat.le_trans h.1 k.1, fun b hb => (k.2 b (Nat.lt_of_lt_of_le hb h.1)).trans (h.2 b hb)⟩
theorem Ext.new {x : Blk} (h : Ext m m1) : Ext m (m1.new x) := ⟨Nat.le_succ_of_le h.1, fun b hb => by rw [get_new_ne (by have := h.1; omega)]; exact h.2 b hb⟩
theorem Ext.grow {k : Nat} (h : Ext m m1) : Ext m (m1.grow k) := ⟨Nat.le_trans h.1 (Nat.le_add_right _ _), fun b hb => h.2 b hb⟩
theorem Ext.set {x : Blk} {c : Nat} (h : Ext m m1) (hc : m.next ≤ c) : Ext m (m1.set c x) := ⟨h.1, fun b hb => by rw [get_set_ne (by omega)]; exact h.2 b hb⟩
theorem Ext.kill {c : Nat} (h : Ext m m1) (hc : m.next ≤ c) : Ext m (m1.kill c) := ⟨h.1, fun b hb => by rw [get_kill_ne (by omega)]; exact h.2 b hb⟩

theorem Fresh.new {x : Blk} (h : Fresh m) : Fresh (m.new x) := fresh_new h
theorem Fresh.set {b : Nat} {x : Blk} (h : Fresh m) (hb : b < m.next) : Fresh (m.set b x) := fun c hc => by
  rw [next_set] at hc
  rw [get_set_ne (by omega)]; exact h c hc
theorem Fresh.kill {b : Nat} (h : Fresh m) : Fresh (m.kill b) := fun c hc => by
  rw [next_kill] at hc
  by_cases e : c = b
  · subst e; exact get_kill_same
  · rw [get_kill_ne e]; exact h c hc
theorem Fresh.grow {k : Nat} (h : Fresh m) : Fresh (m.grow k) := fun c hc => h c (by rw [next_grow] at hc; omega)
theorem Fresh.lt (h : Fresh m) {b : Nat} {x : Blk} (hx : m.get b = some x) : b < m.next := by
  by_cases hb : b < m.next
  · exact hb
  · rw [h b (by omega)] at hx; cases hx
theorem Ext.get (h : Ext m m1) (hfr : Fresh m) {b : Nat} {x : Blk} (hx : m.get b = some x) : m1.get b = some x := (h.2 b (hfr.lt hx)).trans hx
theorem Ext.cells (h : Ext m m1) (hfr : Fresh m) {b off n : Nat} {cs : List AV} (hc : m.cells b off n = some cs) : m1.cells b off n = some cs := by
  obtain ⟨o, fz, e, l, h1, h2, h3⟩ := cells_some hc
  rw [cells_of (h.get hfr h1), if_pos h2, h3]
theorem Ext.sl (h : Ext m m1) (hfr : Fresh m) {v : AV} {esz : Nat} {rows : List (List AV)} (hs : Sl m v esz rows) : Sl m1 v esz rows := by
  rcases hs with hs | ⟨b, off, cap, ex, rfl, hc, hl⟩
  · exact .inl hs
  · exact .inr ⟨b, off, cap, ex, rfl, h.cells hfr hc, hl⟩

/-- a plain result, and nothing changed -/
theorem fin_flat {fn : Func} {v : AV} {x : XT} {e : Env} {vs : List AV} (hfr : Fresh m) (hext : Ext m m1) (hx : match x with | .exit _ => False | _ => True) (hres : resultsE P e m1 fn.results.toList = some vs) (hv : tupled vs = v) (hp : v.plain = true) : Fin P fn m v m x e m1 := by
  refine ⟨hx, vs, hres, ?_⟩
  rw [hv]
  exact Weak.same hfr (fun r _ => AV.ren_plain v hp) hext.1 hext.2

theorem BR.same {p : Place} {x : Blk} (h : BR P ι p w x) (he : w'.heap[p.blk]? = w.heap[p.blk]?) : BR P ι p w' x := by
  cases x with
  | row o fz e cs => obtain ⟨c, fr, h1, h2⟩ := h; exact ⟨c, fr, he.trans h1, h2⟩
  | map es => obtain ⟨es', clock, h1, h2⟩ := h; exact ⟨es', clock, he.trans h1, h2⟩

theorem Step.nothing (hR : Rel P B0 ι m w) (hos : w'.os = w.os) (ht : w'.tape = w.tape) (ho : w'.output = w.output) (hs : w.heap.size ≤ w'.heap.size) (hf : ∀ k, k < w.heap.size → w'.heap[k]? = w.heap[k]?) : Step P B0 ι m w ι m w' where
  rel0 := hR
  le := Le.refl ι
  rel := ⟨fun b p h => ⟨(hR.lt b p h).1, Nat.lt_of_lt_of_le (hR.lt b p h).2 hs⟩, fun b p x h hx => (hR.blk b p x h hx).same (hf _ (hR.lt b p h).2), hR.inj, hR.base, hR.fresh, Nat.le_trans hR.low hs⟩
  os := hos
  tape := ht
  output := ho
  size := hs
  frame := fun k hk _ => hf k hk
  owned := fun k _ h => h
  keep := fun b x h _ => h
  new := fun b p h h' => by rw [h] at h'; cases h'
  next := Nat.le_refl _
  gone := fun b _ h => h
  known := fun k _ h => h

/-- what a run shows that knows but the globals -/
theorem contr_closed (hm : P.follows .mixedOrders = true) (hsane : Sane P) {prim : Prim} (hprim : ∀ B0, PrimOk P B0 G prim) {n : Nat} {f : FuncId} {args : List AV} {v : AV} {mg mg' : Mem} (hp : prim f = none)
    (hg : mg.next = G) (hsub : ∀ b x, mg.get b = some x → m.get b = some x ∧ ∃ e cs, x = .row false none e cs ∧ AV.plainL cs = true) (hgf : Fresh mg)
    (h : evCall P prim G n f args mg = some (v, mg')) (ha : AV.plainL args = true) (hv : v.plain = true) : Contr P G f args m v m := by
  intro B0 ι w arr hG hR hargs
  have hno : ∀ b x, mg.get b = some x → x.own = false := fun b x hx => by
    obtain ⟨_, e, cs, rfl, _⟩ := hsub b x hx
    rfl
  have hR0 : Rel P B0 (fun b => if b < G then ι b else none) mg w := by
    refine ⟨fun b p hb => ?_, fun b p x hb hx => ?_, fun b b' p p' x x' hb hb' hx hx' ho => ?_, fun b p x hb hx ho => ?_, hgf, hR.low⟩
    · split at hb
      · exact ⟨by omega, (hR.lt b p hb).2⟩
      · cases hb
    · split at hb
      · obtain ⟨h1, e, cs, rfl, h2⟩ := hsub b x hx
        obtain ⟨c, fr, k1, k2, k3, k4, k5⟩ := hR.blk b p _ hb h1
        exact ⟨c, fr, k1, k2, k3, VRL.plain _ _ h2 k4, k5⟩
      · cases hb
    · rw [hno b x hx] at ho; cases ho
    · rw [hno b x hx] at ho; cases ho
  have hG0 : GlobR (fun b => if b < G then ι b else none) G := fun g hg => by
    obtain ⟨s, hs⟩ := hG g hg
    exact ⟨s, by simp [hg, hs]⟩
  obtain ⟨h1, h2⟩ := callWith_calls hsane (ev_ok hm (hprim B0) hsane n).1 hp h hG0 hR0 (VRL.plain _ _ ha hargs)
  refine .inl ⟨h1, Calls.mono h2 ?_⟩
  rintro e w' ⟨z, rfl, κ, st, r⟩
  refine ⟨z, rfl, ι, Step.nothing hR st.os st.tape st.output st.size fun k hk => st.frame k hk ?_, VR.plain _ _ hv r⟩
  rintro ⟨b, p, x, hb, hx, ho, rfl⟩
  rw [hno b x hx] at ho; cases ho

theorem contr_closed0 (hm : P.follows .mixedOrders = true) (hsane : Sane P) {prim : Prim} (hprim : ∀ B0, PrimOk P B0 0 prim) {n : Nat} {f : FuncId} {args : List AV} {v : AV} (hp : prim f = none)
    (h : (evCall P prim 0 n f args ⟨.nil, 0⟩).map (·.1) = some v) (ha : AV.plainL args = true) (hv : v.plain = true) : Contr P 0 f args m v m := by
  simp only [Option.map_eq_some_iff] at h
  obtain ⟨⟨v', mg'⟩, h, rfl⟩ := h
  refine contr_closed (mg := ⟨.nil, 0⟩) (mg' := mg') hm hsane hprim hp rfl (fun b x hx => ?_) (fun b _ => ?_) h ha hv
  · cases hx
  · rfl
end
end Go.Proofs.YtcbileongahhiaaGreat.Ev
