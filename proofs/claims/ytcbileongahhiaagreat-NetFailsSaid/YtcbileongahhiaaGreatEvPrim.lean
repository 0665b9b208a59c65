/- Contracts for what the evaluator does not step through. -/
import Derived.Test.YtcbileongahhiaaGreatEvCode
import Derived.RangeFuncLeaves
import Derived.Laws.IdiomRangeMap
import Derived.Laws.Externs
import Derived.Lib.Builder
namespace Go.Proofs.YtcbileongahhiaaGreat.Ev
open Go Go.RowKit
set_option linter.unusedVariables false
set_option linter.unusedSimpArgs false

section
variable {P : Program} {B0 G : Nat} {ι κ : Inj} {m m' : Mem} {w w' : World}

/-- what leaves all that was there as it was -/
theorem Step.below (hR : Rel P B0 ι m w) (h : Below w.heap.size w w') : Step P B0 ι m w ι m w' := by
  have hold : ∀ b p, ι b = some p → w'.heap[p.blk]? = w.heap[p.blk]? := fun b p hb => h.block _ (hR.lt b p hb).2
  refine ⟨hR, Le.refl _, ⟨fun b p hb => ⟨(hR.lt b p hb).1, Nat.lt_of_lt_of_le (hR.lt b p hb).2 h.size⟩, fun b p x hb hx => (hR.blk b p x hb hx).mono (Le.refl _) (hold b p hb), hR.inj, hR.base, hR.fresh, Nat.le_trans hR.low h.size⟩,
    h.os, h.tape, h.output, h.size, fun k hk _ => h.block k hk, fun _ _ h => h, fun _ _ h _ => h, fun b p h h' => by (rw [h] at h'; cases h'), Nat.le_refl _, fun _ _ h => h, fun _ _ h => h⟩

/-- a block that is new and not known is turned -/
theorem Step.after {w'' : World} {D : Nat} (st : Step P B0 ι m w κ m' w') (hD : w.heap.size ≤ D) (hk : ¬ Known κ m' D) (hos : w''.os = w'.os) (htape : w''.tape = w'.tape) (hout : w''.output = w'.output) (hsz : w''.heap.size = w'.heap.size)
    (hold : ∀ k, k ≠ D → w''.heap[k]? = w'.heap[k]?) : Step P B0 ι m w κ m' w'' := by
  refine ⟨st.rel0, st.le, ⟨fun b p hb => ⟨(st.rel.lt b p hb).1, by rw [hsz]; exact (st.rel.lt b p hb).2⟩, fun b p x hb hx => (st.rel.blk b p x hb hx).mono (Le.refl _) (hold _ fun e => hk ⟨b, p, x, hb, hx, e⟩), st.rel.inj, st.rel.base, st.rel.fresh, by rw [hsz]; exact st.rel.low⟩,
    hos.trans st.os, htape.trans st.tape, hout.trans st.output, by rw [hsz]; exact st.size, fun k hk' hn => (hold k (by omega)).trans (st.frame k hk' hn), st.owned, st.keep, st.new, st.next, st.gone, st.known⟩

/-- a function without a body that hands back its argument -/
theorem gives_same {f : FuncId} {fn : Func} (hf : P.funcs[f]? = some fn) (hname : (fn.name == "runtime.NumGoroutine") = false) (hb : fn.body.isNone = true) (hn : Extern.findNext fn = none) (he : Extern.find fn = some Extern.AbiNoEscape.same)
    {args : List AV} {v : AV} (h : (match args with | [x] => some (x, m) | _ => none) = some (v, m')) {arr : Array Value} (hR : Rel P B0 ι m w) (ha : VRL ι args arr.toList) :
    CallGives P f arr w fun z w' => ∃ κ, Step P B0 ι m w κ m' w' ∧ VR κ v z := by
  split at h
  · rename_i x
    simp only [Option.some.injEq, Prod.mk.injEq] at h
    obtain ⟨rfl, rfl⟩ := h
    obtain ⟨u, rfl, r⟩ := args_one ha
    exact .inr ⟨u, w, by rw [run_callFunc_extern hf hname hb hn he]; rfl, ι, Step.refl hR, r⟩
  · cases h

/-! a range over a function that makes no round -/

theorem heap_alloc_at (w : World) (o : Obj) : (w.alloc o).heap[w.heap.size]? = some o := by
  show (w.heap.push o)[w.heap.size]? = _
  simp

theorem wp_rangeFunc0 {g : Operand} {ps : Array Tmp} {assign body : Code} {Q : Exit → Act → World → Prop} {a : Act} {f : FuncId} {caps : Array Value} (hg : a.eval g = .func (.func f) #[] caps)
    (hen : ∀ args w, (callFunc f args).run P w = .ok (.enter f args) w)
    (hcall : ∀ l W, Below w.heap.size w W → Calls P f (#[.func (.yield l) #[] #[]] ++ caps) W fun e W' => ∃ z, e = .returned z ∧ Below W.heap.size W W')
    (hQ : ∀ W', Below w.heap.size w W' → W'.heap[w.heap.size]? = some (.deferred (some [])) → w.heap.size < W'.heap.size → Q .normal { a with defers := { target := .collected w.heap.size, args := #[] } :: a.defers } W') :
    (Code.rangeFunc g ps assign body).wp P Q a w := by
  intro b k cs
  obtain ⟨b0, hb0⟩ : ∃ b0 : Frame, b0 = { b with roundOf := none } := ⟨_, rfl⟩
  have hat : ∀ a K, b.at a K = b0.atR a K := fun a K => by subst hb0; rfl
  obtain ⟨L, hL⟩ : ∃ L : Loop, L = { state := .ready, pending := none, fn := b0.fn, tmps := a.tmps, params := ps, assign, body, defers := w.heap.size } := ⟨_, rfl⟩
  obtain ⟨W1, hW1⟩ : ∃ W1, W1 = (w.alloc (.deferred (some []))).alloc (.loop L) := ⟨_, rfl⟩
  have hsz1 : (w.alloc (.deferred (some []))).heap.size = w.heap.size + 1 := by simp
  have hsz2 : W1.heap.size = w.heap.size + 2 := by rw [hW1]; simp
  have hen1 : (Instr.enterLoop b0.fn a.tmps ps assign body b0.roundOf).run P w = .ok (w.heap.size + 1, [{ target := .collected w.heap.size, args := #[] }]) W1 := by
    subst hb0
    simp [Instr.enterLoop, hW1, hL]
  have hbel : Below w.heap.size w W1 := by
    rw [hW1]
    exact ((Below.refl _ w).alloc (Nat.le_refl _) _).alloc (by simp) _
  have hres : (resolve a.eval (rangeCall g (w.heap.size + 1)) 0).run P W1 = .ok { target := .fn (.func f) caps, args := #[] ++ #[.func (.yield (w.heap.size + 1)) #[] #[]] } W1 := by
    simp only [resolve, rangeCall, hg, Deferred.ofValue]
    simp [Act.eval]
  have hinv : (invoke (.fn (.func f) caps) (#[] ++ #[.func (.yield (w.heap.size + 1)) #[] #[]])).run P W1 = .ok (.enter f (#[.func (.yield (w.heap.size + 1)) #[] #[]] ++ caps)) W1 := by
    simp [invoke, hen]
  have henter := stepR_rangeFunc (P := P) (b := b0) (a := a) (k := k) (cs := cs) (w := w) hen1 hres hinv
  obtain ⟨e, w3, fr, ⟨z, rfl, hbel3⟩, hsteps, hfn, hleave⟩ := hcall (w.heap.size + 1) W1 hbel (b0.atR { a with defers := [{ target := .collected w.heap.size, args := #[] }] ++ a.defers } (.inRangeFunc (w.heap.size + 1) :: k) :: cs)
  have hD1 : W1.heap[w.heap.size]? = some (.deferred (some [])) := by
    rw [hW1]
    rw [Below.heap_alloc _ _ _ (by simp)]
    exact heap_alloc_at _ _
  have hl1 : W1.heap[w.heap.size + 1]? = some (.loop L) := by
    rw [hW1, ← hsz1]
    exact heap_alloc_at _ _
  have hD3 : w3.heap[w.heap.size]? = some (.deferred (some [])) := (hbel3.block _ (by omega)).trans hD1
  have hl3 : w3.heap[w.heap.size + 1]? = some (.loop L) := (hbel3.block _ (by omega)).trans hl1
  obtain ⟨w4, hw4⟩ : ∃ w4 : World, w4 = { w3 with heap := w3.heap.setIfInBounds (w.heap.size + 1) (.loop { L with state := .exhausted }) } := ⟨_, rfl⟩
  have hend : (Instr.endLoop (w.heap.size + 1)).run P w3 = .ok none w4 := by
    have hget : (Instr.getLoop (w.heap.size + 1)).run P w3 = .ok L w3 := by simp [Instr.getLoop, getObj, Sem.run, hl3]
    have hset : (setObj (w.heap.size + 1) (.loop { L with state := .exhausted })).run P w3 = .ok () w4 := by simp [setObj, Sem.run, hw4, hl3]
    have hst : L.state ≠ .busy := by rw [hL]; intro h; cases h
    have hpd : L.pending = none := by rw [hL]
    have hset2 := hset
    simp only [hpd] at hset2
    simp [Instr.endLoop, hget, hst, hset2, hpd]
  have hother : ∀ k, k ≠ w.heap.size + 1 → w4.heap[k]? = w3.heap[k]? := fun k hk => by
    rw [hw4]
    simp only [Array.getElem?_setIfInBounds]
    rw [if_neg (fun e => hk e.symm)]
  have hbel4 : Below w.heap.size w w4 := by
    have h13 : Below w.heap.size w w3 := hbel.trans (hbel3.mono (by omega))
    refine ⟨by rw [hw4]; exact h13.os, by rw [hw4]; exact h13.tape, by rw [hw4]; exact h13.output, by rw [hw4]; simpa using h13.size, fun k hk => (hother k (by omega)).trans (h13.block k hk)⟩
  have hsz4 : w.heap.size < w4.heap.size := by
    rw [hw4]
    have := hbel3.size
    simp
    omega
  refine ⟨.normal, _, w4, hQ w4 hbel4 ((hother _ (by omega)).trans hD3) hsz4, ?_⟩
  show Steps P _ _
  rw [hat, hat]
  refine .head henter (Steps.trans hsteps (.head ?_ (.one (stepR_endRangeFunc hend))))
  rw [← finish_atR_inRangeFunc (w.heap.size + 1) z]
  exact step_leave_returned hleave

/-- a function that leaves with one mark -/
theorem calls_of_wp_mark {f : FuncId} {fn : Func} {c : Code} {args : Array Value} {R : Ending → World → Prop}
    (hf : P.funcs[f]? = some fn) (hb : fn.body = some c)
    (h : c.wp P (fun e a w => e = .ret ∧ ∃ r w1 v, a.defers = [{ target := .collected r, args := #[] }] ∧ (Instr.takeDeferred r).run P w = .ok [] w1 ∧ (Go.results fn a.tmps).run P w1 = .ok v w1 ∧ R (.returned v) w1)
      { tmps := args ++ Array.replicate (fn.ntmps - args.size) undef, defers := [] } w) :
    Calls P f args w R := by
  intro cs
  let b : Frame := { (default : Frame) with fn := f, kind := .normal }
  have henter : Frame.enter P f args .normal =
      b.at { tmps := args ++ Array.replicate (fn.ntmps - args.size) undef, defers := [] } [.code c] := by
    simp [Frame.enter, Frame.at, hf, hb, b]
  obtain ⟨e, a', w', hq, harr⟩ := h b [] cs
  rw [← henter] at harr
  obtain ⟨rfl, r, w1, v, hd, htake, hres, hR⟩ := hq
  obtain ⟨todo, hs⟩ := harr
  have h1 := step_collected (P := P) (fr := { b.at a' todo with mode := .returning }) (cs := cs) (by simp) (show ({ b.at a' todo with mode := .returning } : Frame).defers = _ from hd) rfl htake
  exact ⟨.returned v, w1, _, hR, Steps.trans hs (.one h1), rfl, rfl, rfl, rfl, fn, hf, hres⟩

/-- what is known of an iterator over a map's keys, where the map is empty -/
def KeysOk (P : Program) (f : FuncId) : Prop :=
  (∀ args w, (callFunc f args).run P w = .ok (.enter f args) w) ∧
  ∀ (l : Nat) (p : Addr) (W : World), (W.cell? p = some (.map none) ∨ ∃ q clock, W.cell? p = some (.map (some q)) ∧ W.heap[q]? = some (.map #[] clock)) →
    Calls P f #[.func (.yield l) #[] #[], .pointer (some p)] W fun e W' => ∃ z, e = .returned z ∧ Below W.heap.size W W'

def emptyMap (m : Mem) (b off : Nat) : Bool :=
  match m.cells b off 1 with
  | some [.nilm] => true
  | some [.map k] => match m.entries k with
    | some [] => true
    | _ => false
  | _ => false

/-- a function that ranges over such an iterator -/
def seqPrim (P : Program) (run : Code → Tr AV → Mem → Option (XT × Tr AV × Mem)) (G : Nat) (keysF : FuncId) (fn : Func) : List AV → Mem → Option (AV × Mem) := fun args m =>
  match fn.body with
  | some (.seq ca (.seq (.seq cb (.block _ (.rangeFunc g _ _ _))) cc)) =>
    if args.length ≤ fn.ntmps then
      match run ca (initT args 0 .nil) m with
      | some (.normal, ts, m) =>
        match run cb ts m with
        | some (.normal, ts, m) =>
          match evOperand G ts g with
          | some (.func (.func f) [] [.ptr b off]) =>
            if f = keysF && emptyMap m b off then
              match run cc ts m with
              | some (.ret, ts, m) => (evResults P ts m fn.results.toList).map fun vs => (tupled vs, m)
              | _ => none
            else none
          | _ => none
        | _ => none
      | _ => none
    else none
  | _ => none

theorem seqPrim_ok (hsane : Sane P) {run : Code → Tr AV → Mem → Option (XT × Tr AV × Mem)} (hrun : CodeOk P B0 G run) {keysF : FuncId} (hkeys : KeysOk P keysF) {f : FuncId} {fn : Func} (hf : P.funcs[f]? = some fn)
    {args : List AV} {v : AV} (h : seqPrim P run G keysF fn args m = some (v, m')) {arr : Array Value} (hG : GlobR ι G) (hR : Rel P B0 ι m w) (hargs : VRL ι args arr.toList) :
    CallGives P f arr w fun z w' => ∃ κ, Step P B0 ι m w κ m' w' ∧ VR κ v z := by
  unfold seqPrim at h
  split at h
  · rename_i ca cb id g ps assign body cc hb
    have hok := (hsane f fn _ hf hb).1
    simp only [codeOk, Bool.and_eq_true] at hok
    obtain ⟨hoka, ⟨hokb, _⟩, hokc⟩ := hok
    split at h
    · rename_i hc
      split at h
      · rename_i ts1 m1 h1
        split at h
        · rename_i ts2 m2 h2
          split at h
          · rename_i f' b off hgv
            split at h
            · rename_i hcond
              simp only [Bool.and_eq_true, decide_eq_true_eq] at hcond
              obtain ⟨rfl, hem⟩ := hcond
              split at h
              · rename_i ts3 m3 h3
                simp only [Option.map_eq_some_iff, Prod.mk.injEq] at h
                obtain ⟨vs, hvs, rfl, rfl⟩ := h
                have hlen := VRL.length hargs
                rw [Array.length_toList] at hlen
                refine .inl ⟨enter_run hf (hsane f fn _ hf hb).2 hb arr w, ?_⟩
                refine calls_of_wp_mark hf hb (wp_seq (hrun ca fn.ntmps _ m .normal ts1 m1 hoka h1 ι _ w [] _ hG hR ⟨fun t u hu => ?_, ?_, rfl⟩ fun κ1 a1 w1 st1 hA1 => ?_))
                · rw [initT_get] at hu
                  split at hu
                  · rename_i ht
                    simp only [Nat.sub_zero, Nat.zero_add] at hu ht
                    obtain ⟨z, hz, rz⟩ := VRL.get hargs hu
                    rw [Array.getElem?_toList] at hz
                    refine ⟨z, ?_, rz⟩
                    rw [Array.getElem?_append_left (by omega)]
                    exact hz
                  · simp [Tr.get] at hu
                · simp; omega
                · refine wp_seq (wp_seq (hrun cb fn.ntmps _ m1 .normal ts2 m2 hokb h2 κ1 a1 w1 [] _ (hG.mono st1.le) st1.rel hA1 fun κ2 a2 w2 st2 hA2 => ?_))
                  have st12 := st1.trans st2
                  have hG2 := hG.mono st12.le
                  have hgr := eval_of hG2 (fun t _ => hA2.slot t) hgv
                  obtain ⟨l', c', hge, r1, r2⟩ := VR.func_inv hgr
                  have el : l' = #[] := Array.ext' (VRL.nil_iff.1 r1)
                  subst el
                  obtain ⟨u, rfl, ru⟩ := args_one r2
                  obtain ⟨p, hp, rfl⟩ := VR.ptr_inv ru
                  have hmap : ∀ W, Below w2.heap.size w2 W → (W.cell? ⟨p.blk, p.off + off, none⟩ = some (.map none) ∨ ∃ q clock, W.cell? ⟨p.blk, p.off + off, none⟩ = some (.map (some q)) ∧ W.heap[q]? = some (.map #[] clock)) := by
                    intro W hW
                    unfold emptyMap at hem
                    have hcell : ∀ {x : AV}, m2.cells b off 1 = some [x] → ∃ y, W.cell? ⟨p.blk, p.off + off, none⟩ = some y ∧ VR κ2 x y := by
                      intro x hx
                      obtain ⟨own, fz, el, all, hg, hle, hxe⟩ := cells_get hx
                      obtain ⟨c, fr, hh, hs, hcl, hcr, _⟩ := st2.rel.blk.row hp hg
                      have hx0 : all[off]? = some x := by
                        have : ((all.drop off).take 1)[0]? = some x := by rw [← hxe]; rfl
                        rw [List.getElem?_take, if_pos (by omega), List.getElem?_drop] at this
                        simpa using this
                      obtain ⟨y, hy, ry⟩ := VRL.get hcr hx0
                      rw [List.getElem?_take] at hy
                      split at hy
                      · rw [List.getElem?_drop, Array.getElem?_toList] at hy
                        refine ⟨y, ?_, ry⟩
                        have hblk : W.heap[p.blk]? = some (.cells c el fr) := (hW.block _ (st2.rel.lt b p hp).2).trans hh
                        rw [cell?_row hblk]
                        exact hy
                      · cases hy
                    split at hem
                    · rename_i hx
                      obtain ⟨y, hy, ry⟩ := hcell hx
                      rw [VR.nilm_inv ry] at hy
                      exact .inl hy
                    · rename_i kk hx
                      obtain ⟨y, hy, ry⟩ := hcell hx
                      obtain ⟨q, hq, rfl⟩ := VR.map_inv ry
                      split at hem
                      · rename_i hes
                        obtain ⟨es', clock, hh, he⟩ := st2.rel.blk.map hq (entries_get hes)
                        have : es' = #[] := Array.eq_empty_of_size_eq_zero he.len
                        subst this
                        exact .inr ⟨q.blk, clock, hy, (hW.block _ (st2.rel.lt kk q hq).2).trans hh⟩
                      · cases hem
                    · cases hem
                  refine wp_block (wp_rangeFunc0 hge hkeys.1 (fun l W hW => hkeys.2 l _ W (hmap W hW)) fun W' hW' hD hDlt => ?_)
                  have st3 := Step.below st2.rel hW'
                  have hA3 : ActR κ2 ts2 fn.ntmps [{ target := .collected w2.heap.size, args := #[] }] { a2 with defers := { target := .collected w2.heap.size, args := #[] } :: a2.defers } := ⟨fun t => hA2.slot t, hA2.size, by rw [hA2.defers]⟩
                  show Code.wp P cc _ _ _
                  refine hrun cc fn.ntmps _ m2 .ret ts3 m3 hokc h3 κ2 _ W' _ _ hG2 st3.rel hA3 fun κ4 a4 w4 st4 hA4 => ?_
                  have hnk2 : ¬ Known κ2 m2 w2.heap.size := by
                    rintro ⟨b', p', x', hb', hx', e'⟩
                    have := (st2.rel.lt b' p' hb').2
                    omega
                  have hnk4 : ¬ Known κ4 m3 w2.heap.size := fun hk => hnk2 (st4.known _ hDlt hk)
                  have hD4 : w4.heap[w2.heap.size]? = some (.deferred (some [])) := (st4.frame _ hDlt fun ho => hnk2 ho.known).trans hD
                  obtain ⟨w5, hw5⟩ : ∃ w5 : World, w5 = { w4 with heap := w4.heap.setIfInBounds w2.heap.size (.deferred none) } := ⟨_, rfl⟩
                  have htake : (Instr.takeDeferred w2.heap.size).run P w4 = .ok [] w5 := by
                    have hget : (getObj w2.heap.size).run P w4 = .ok (.deferred (some [])) w4 := by simp [getObj, Sem.run, hD4]
                    have hset : (setObj w2.heap.size (.deferred none)).run P w4 = .ok () w5 := by simp [setObj, Sem.run, hw5, hD4]
                    simp [Instr.takeDeferred, hget, hset]
                  have st5 : Step P B0 ι m w κ4 m3 w5 := by
                    refine Step.after (D := w2.heap.size) (st12.trans (st3.trans st4)) st12.size hnk4 (by rw [hw5]) (by rw [hw5]) (by rw [hw5]) (by rw [hw5]; simp) fun k hk => ?_
                    rw [hw5]
                    simp only [Array.getElem?_setIfInBounds]
                    rw [if_neg (fun e => hk e.symm)]
                  obtain ⟨z, hz, rz⟩ := tupled_run st5.rel.blk hA4.slot hvs
                  exact ⟨rfl, w2.heap.size, w5, z, hA4.defers, htake, hz, z, rfl, κ4, st5, rz⟩
              · cases h
            · cases h
          · cases h
        · cases h
      · cases h
    · cases h
  · cases h

end
end Go.Proofs.YtcbileongahhiaaGreat.Ev
