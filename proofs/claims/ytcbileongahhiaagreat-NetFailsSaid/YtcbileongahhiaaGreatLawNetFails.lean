/- 'NetFails': for every input the law returns true, and its arguments read as they did. No conditions. -/
import Derived.Test.YtcbileongahhiaaGreatNet24
import Derived.Test.YtcbileongahhiaaGreatLaid
import Derived.Test.YtcbileongahhiaaGreatAllNetFails
import Derived.WalkKit
import Derived.ProofKit
import Derived.OpenShut
import Derived.ShutString
import Derived.ChangeOld
import Derived.Below
import Derived.SizedLaws
import Derived.Carry
namespace Go.Proofs.YtcbileongahhiaaGreat.netFails
open Go.ChangeShapes Go.WideShapes Go.ChangeAt Go.RowKit
set_option linter.unusedVariables false

theorem own : ownKnob Tryz.prog.godebug = none := by kernel_rfl

theorem enters (arr : Array Value) (w : World) : (callFunc 10 arr).run Tryz.prog w = .ok (.enter 10 arr) w := by
  have hb : Tryz.f10.body.isSome = true := by kernel_rfl
  obtain ⟨c, hc⟩ := Option.isSome_iff_exists.1 hb
  exact Ev.enter_run Tryz.func10 (Ev.sane 10 Tryz.f10 c Tryz.func10 hc).2 hc arr w

set_option maxRecDepth 100000 in
theorem walk {sz : Int} {w1 w2 v1 : Value} {links : List Ev.LinkL} {ks : List Int} (w : World) (h2 : w2.oneCell' = true)
    (hl : ∀ b, ∃ (i : Option Ev.Place) (E : TypeId) (cells : List Ev.AV) (s : Ev.AV), (∀ p, i = some p → p.blk < w.heap.size ∧ ∀ ι, Ev.BR Tryz.prog ι p w (.row false none E cells)) ∧ (∀ ι : Ev.Inj, ι b = i → Ev.VR ι s w1) ∧ ∀ m : Ev.Mem, m.get b = some (.row false none E cells) → Ev.Sl m s 5 (links.map Ev.LinkL.av))
    (hk : ∀ b, ∃ (i : Option Ev.Place) (E : TypeId) (cells : List Ev.AV) (s : Ev.AV), (∀ p, i = some p → p.blk < w.heap.size ∧ ∀ ι, Ev.BR Tryz.prog ι p w (.row false none E cells)) ∧ (∀ ι : Ev.Inj, ι b = i → Ev.VR ι s v1) ∧ ∀ m : Ev.Mem, m.get b = some (.row false none E cells) → Ev.Sl m s 1 (ks.map fun k => [Ev.AV.int .i64 k])) :
    Calls Tryz.prog 10 #[.agg #[.int .i64 sz, w1, w2], v1] w fun e w' => e = .returned (.bool true) ∧ Below w.heap.size w w' := by
  obtain ⟨i1, E1, c1, s1, a1, b1, d1⟩ := hl 0
  obtain ⟨i2, E2, c2, s2, a2, b2, d2⟩ := hk 1
  have hR := Ev.rel2 (P := Tryz.prog) a1 a2 (E1 := E1) (c1 := c1) (E2 := E2) (c2 := c2)
  have hargs : Ev.VRL (Ev.ι2 i1 i2) [.agg [.int .i64 sz, s1, .any], s2] (#[Value.agg #[.int .i64 sz, w1, w2], v1] : Array Value).toList := by
    refine Ev.VRL.cons ?_ (Ev.VRL.cons (b2 _ rfl) (Ev.VRL.nil_iff.2 rfl))
    simp only [Ev.VR]
    refine ⟨#[.int .i64 sz, w1, w2], rfl, ?_⟩
    refine Ev.VRL.cons Ev.VR.int_mk (Ev.VRL.cons (b1 _ rfl) (Ev.VRL.cons ?_ (Ev.VRL.nil_iff.2 rfl)))
    simp only [Ev.VR]
    exact h2
  have hc := Ev.netFails_ok (sd := .any) (sz := sz) (d1 _ Ev.mem2_0) (d2 _ Ev.mem2_1) w.heap.size (Ev.ι2 i1 i2) w _ (Ev.GlobR.zero _) hR hargs
  rcases hc with ⟨_, hc⟩ | ⟨z, w', hc, _⟩
  · refine hc.mono ?_
    rintro e w' ⟨z, rfl, v, m', κ, rfl, st, r⟩
    exact ⟨by rw [Ev.VR.bool_inv r], st.old⟩
  · rw [enters] at hc
    cases hc

set_option maxRecDepth 100000 in
theorem lifted (os : Os) (started : os.Started) (H : Type) (enc : TypeId × Value → H) :
    ReturnsInHanded {} Tryz.checked os 10 .any (Rows.netFailsSpec.pre6 enc Tryz.prog Tryz.f10 Rows.netFailsRow.domain false) (Rows.netFailsSpec.post enc Tryz.prog Tryz.f10 false true false false) := by
  refine returnsInHanded_of_change_sized (C := Tryz.checked) own started (by kernel_rfl) Tryz.func10
    (ChangeSpec.witness6 (enc := enc) (C := Tryz.checked) false ⟨#[], #[.agg #[.int .i64 0, .slice none 0 0, .slice none 0 0], .slice none 0 0], []⟩ 8 (by kernel_rfl) (by kernel_rfl) (by kernel_rfl) (by kernel_rfl)) ?_
  intro W base args ds gs before hval0 hW hcnd hsz0 _
  have hval : ∀ (j : Nat) t v, Tryz.f10.params[j]? = some t → args[j]? = some v → Value.okWide Tryz.prog W .any base t v := hval0
  have hW' := hW
  obtain ⟨p, q, hA0, hV, rfl, hfz, hnd⟩ := hW
  have hA : DataW.TrodAll enc Tryz.prog W 0 (fun _ => true) true Tryz.f10.params.toList args.toList ds p := hA0
  rw [Tryz.params10] at hA hval
  obtain ⟨v0, vs0, d0, ds0, p0, q0, hargs, rfl, rfl, h0, r0⟩ := trodAll_cons hA
  obtain ⟨v1, vs1, d1, ds1, p1, q1, rfl, rfl, rfl, h1, r1⟩ := trodAll_cons r0
  obtain ⟨rfl, rfl, rfl⟩ := trodAll_nil r1
  obtain rfl : args = #[v0, v1] := by cases args; simp_all
  obtain ⟨rfl, rfl⟩ := trodVars_none hV
  have hlt0 : ∀ x ∈ p0, x.block < W.heap.size := fun x hx => hW'.lt x (by simp [hx])
  have hlt1 : ∀ x ∈ p1, x.block < W.heap.size := fun x hx => hW'.lt x (by simp [hx])
  have k0 := h0
  have k1 := h1
  obtain ⟨sz, w1, w2, rfl, ho, links, hl⟩ := Ev.net_read (hval 0 _ v0 rfl rfl) h0
  obtain ⟨ks, hk⟩ := Ev.ints_read (hval 1 _ v1 rfl rfl) h1
  clear hA0 hval0 hsz0
  refine (walk W ho hl hk).mono fun e W' ⟨he, bel⟩ => ?_
  subst he
  exact ⟨_, rfl, _, _, _, [], _, [], hW', trodAll_mk1 (shut_bool Tryz.underlying4 _),
    (trodAll_cons_mk (Below.trod Ev.laid Ev.readable_net (of_decide_eq_true (by kernel_rfl)) k0 bel hlt0) (trodAll_cons_mk (Below.trod Ev.laid Ev.readable_ints (of_decide_eq_true (by kernel_rfl)) k1 bel hlt1) trodAll_mk0)), rfl, bel.frame _, fun h => by cases h⟩

theorem named : Tryz.prog.funcNamed Rows.netFailsRow.func = some 10 := by kernel_rfl
theorem over : Rows.netFailsRow.holds Tryz.pinned (OpenSpec.ofChange Rows.netFailsSpec) :=
  OpenClaim.holds_of_wide 10 Tryz.f10 rfl rfl rfl rfl rfl rfl rfl ⟨rfl, rfl, rfl, rfl, rfl⟩ rfl rfl rfl rfl rfl named Tryz.func10 netFailsFacts.all
    (of_decide_eq_true (by kernel_rfl)) (by unfold Func.isWrapper; first | (rw [if_pos (by decide +kernel)]; kernel_rfl) | (rw [if_neg (by decide +kernel)]; exact ⟨rfl, rfl⟩))
    (fun os started H enc _ => lifted os started H enc)
end Go.Proofs.YtcbileongahhiaaGreat.netFails
namespace Go.Proofs.YtcbileongahhiaaGreat
theorem netFails_holds : Rows.NetFailsSaid := netFails.over
#print axioms netFails_holds
end Go.Proofs.YtcbileongahhiaaGreat
