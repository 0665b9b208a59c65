/- The operations that look at no memory: the theorem. -/
import Derived.Test.YtcbileongahhiaaGreatEvPure4
import Derived.Laws.Build
namespace Go.Proofs.YtcbileongahhiaaGreat.Ev
open Go
set_option linter.unusedVariables false
set_option linter.unusedSimpArgs false

section
variable {P : Program} {ι : Inj}

theorem args_one {x : AV} {arr : Array Value} (h : VRL ι [x] arr.toList) : ∃ u, arr = #[u] ∧ VR ι x u := by
  obtain ⟨v, vs, e, h1, h2⟩ := VRL.cons_iff.1 h
  rw [VRL.nil_iff.1 h2] at e
  exact ⟨v, by apply Array.ext'; simpa using e, h1⟩

theorem args_two {x y : AV} {arr : Array Value} (h : VRL ι [x, y] arr.toList) : ∃ u v, arr = #[u, v] ∧ VR ι x u ∧ VR ι y v := by
  obtain ⟨v, vs, e, h1, h2⟩ := VRL.cons_iff.1 h
  obtain ⟨u, us, e', h3, h4⟩ := VRL.cons_iff.1 h2
  rw [VRL.nil_iff.1 h4] at e'
  subst e'
  exact ⟨v, u, by apply Array.ext'; simpa using e, h1, h3⟩

theorem foldInt_run {f : Int → Int → Int} {g : Value → Value → Sem Value} (hg : ∀ k a k' b w, (g (.int k a) (.int k' b)).run P w = .ok (.int k (f a b)) w) : ∀ (l : List AV) (l' : List Value) (k : IntKind) (a r : Int),
    VRL ι l l' → foldInt f a l = some r → ∀ w, (l'.foldlM g (.int k a)).run P w = .ok (.int k r) w
  | [], l', k, a, r, hl, h, w => by
    rw [VRL.nil_iff.1 hl]
    simp [foldInt] at h
    subst h
    rfl
  | x :: l, l', k, a, r, hl, h, w => by
    obtain ⟨v, vs, rfl, h1, h2⟩ := VRL.cons_iff.1 hl
    cases x with
    | int k' b =>
      simp only [foldInt] at h
      rw [VR.int_inv h1]
      simp only [List.foldlM_cons, Sem.run_bind, hg, Result.andThen_ok]
      exact foldInt_run hg l vs k _ r h2 h w
    | _ => simp [foldInt] at h

theorem sliceData_nil (ts : Array TypeId) (t : TypeId) (l c : Nat) : Builtin.unsafeSliceData_ ts t #[.slice none l c] = pure (.pointer none) := rfl
theorem sliceData_some (ts : Array TypeId) (t : TypeId) (a : Addr) (l c : Nat) : Builtin.unsafeSliceData_ ts t #[.slice (some a) l c] = (do
    if c ≠ 0 then pure (.pointer (some a))
    else if (← viewAt a.block).isSome then pure (.pointer (some a))
    else pure (.pointer (some ⟨← newObj (.view a (← elemOf t)), 0, none⟩))) := rfl

/-- an operand, and the values that it has -/
def OpdR (ι : Inj) (ρ : Operand → Option AV) (ev : Operand → Value) (o : Oper) : Prop := ∀ x ∈ o.op.operands.toList, ∀ a, ρ x = some a → VR ι a (ev x)

theorem optVal_rel {ρ : Operand → Option AV} {ev : Operand → Value} {o : Option Operand} {r : Option AV} (hρ : ∀ x, o = some x → ∀ a, ρ x = some a → VR ι a (ev x)) (h : optVal ρ o = some r) : OptR ι r (o.map ev) := by
  cases o with
  | none => simp [optVal] at h; subst h; trivial
  | some x =>
    simp only [optVal, Option.map_eq_some_iff] at h
    obtain ⟨a, ha, rfl⟩ := h
    exact hρ x rfl a ha

theorem unary_bind (op : UnOp) {a : AV} {v : Value} {r : AV} (hv : toV a = some v) (h : (strip P (Op.unary op v)).bind flatAV = some r) : ∃ z, (∀ w, (Op.unary op v).run P w = .ok z w) ∧ VR ι r z := by
  cases hs : strip P (Op.unary op v) with
  | none => simp [hs] at h
  | some z => simp only [hs, Option.bind_some] at h; exact ⟨z, strip_run hs, VR.of_flatAV h⟩

set_option maxHeartbeats 4000000 in
theorem evPure_run {ρ : Operand → Option AV} {ev : Operand → Value} {o : Oper} {r : AV} (hρ : OpdR ι ρ ev o) (h : evPure P ρ o = some r) : ∃ z, (∀ w, (execOp ev o).run P w = .ok (.value z) w) ∧ VR ι r z := by
  unfold OpdR at hρ
  unfold evPure at h
  split at h
  · -- move
    rename_i x hop
    exact ⟨ev x, fun w => by simp [execOp, hop], hρ x (by simp [hop, Op.operands]) r h⟩
  · rename_i x hop
    exact ⟨ev x, fun w => by simp [execOp, hop], hρ x (by simp [hop, Op.operands]) r h⟩
  · -- pick
    rename_i c a b hop
    split at h
    · rename_i hc
      have hc' := VR.bool_inv (hρ c (by simp [hop, Op.operands]) _ hc)
      exact ⟨ev a, fun w => by simp [execOp, hop, hc', asBool], hρ a (by simp [hop, Op.operands]) r h⟩
    · rename_i hc
      have hc' := VR.bool_inv (hρ c (by simp [hop, Op.operands]) _ hc)
      exact ⟨ev b, fun w => by simp [execOp, hop, hc', asBool], hρ b (by simp [hop, Op.operands]) r h⟩
    · cases h
  · -- build
    rename_i t parts hop
    split at h
    · rename_i z ps hz hps
      obtain ⟨zv, hzr, hzv, _⟩ := run_zeroAV hz
      have hmem : ∀ x ∈ parts.toList.map (·.2), ∀ a, ρ x = some a → VR ι a (ev x) := fun x hx => hρ x (by simp only [hop, Op.operands]; simpa using hx)
      obtain ⟨hl, hr⟩ := partVals_rel hmem hps
      have hcells := VR.cells (hzv ι)
      split at h
      · rename_i fs hu
        split at h
        · cases h
        · rename_i hall
          simp only [Bool.not_eq_true', Bool.not_eq_false, List.all_eq_true] at hall
          cases hf : fillAV (fun i => fs[i]?.bind fun f => (csize P f.type).map fun s => (f.offset, s)) z.cells ps with
          | none => simp [hf] at h
          | some cs =>
            simp only [hf, Option.map_some, Option.some.injEq] at h
            subst h
            have hpl : ∀ (i : Nat) (x : Nat × Nat), (fs[i]?.bind fun (f : Field) => (csize P f.type).map fun s => (f.offset, s)) = some x → ((fs.toList.map fun (f : Field) => (f.offset, (csize P f.type).getD 0)).toArray[i]?) = some x := by
              intro i x hx
              cases hfi : fs[i]? with
              | none => simp [hfi] at hx
              | some f =>
                cases hc : csize P f.type with
                | none => simp [hfi, hc] at hx
                | some s => simp [hfi, hc] at hx ⊢; exact hx
            obtain ⟨cs', h1, h2, _⟩ := fill_run hpl ps _ z.cells cs zv.cells hl hr hcells hf
            refine ⟨.agg cs', fun w => ?_, by simp only [VR]; exact ⟨cs', rfl, h2⟩⟩
            have hm : ∀ w, ((fs.mapM fun (f : Field) => do pure (f.offset, ← Go.sizeOf f.type) : Sem (Array (Nat × Nat)))).run P w = .ok ((fs.toList.map fun (f : Field) => (f.offset, (csize P f.type).getD 0)).toArray) w := by
              intro w
              rw [Array.mapM_eq_mapM_toList]
              simp only [Sem.run_map]
              rw [mapM_run _ (fun (f : Field) => (f.offset, (csize P f.type).getD 0))]
              · rfl
              · intro f hf w
                obtain ⟨s, hs⟩ := Option.isSome_iff_exists.1 (hall f hf)
                simp [run_sizeOf' w hs, hs]
            have hparts : (parts.map fun (i, x) => (i, ev x)).toList = parts.toList.map fun x => (x.1, ev x.2) := by simp
            simp only [execOp, hop, Instr.build, Sem.run_bind, hzr, Result.andThen_ok, run_und w hu, hm, hparts, h1, Sem.run_pure]
      · rename_i n e hu
        cases hs : csize P e with
        | none => simp [hs] at h
        | some s =>
          simp only [hs, Option.bind_some] at h
          cases hf : fillAV (fun i => some (i * s, s)) z.cells ps with
          | none => simp [hf] at h
          | some cs =>
            simp only [hf, Option.map_some, Option.some.injEq] at h
            subst h
            obtain ⟨cs', h1, h2, _⟩ := fill_run (pl' := fun i => some (i * s, s)) (fun i x hx => hx) ps _ z.cells cs zv.cells hl hr hcells hf
            refine ⟨.agg cs', fun w => ?_, by simp only [VR]; exact ⟨cs', rfl, h2⟩⟩
            have hparts : (parts.map fun (i, x) => (i, ev x)).toList = parts.toList.map fun x => (x.1, ev x.2) := by simp
            simp only [execOp, hop, Instr.build, Sem.run_bind, hzr, Result.andThen_ok, run_und w hu, run_sizeOf' w hs, hparts, h1, Sem.run_pure]
      · cases h
    · cases h
  · -- nilCheck
    rename_i x hop
    split at h
    · rename_i b oo hx
      injection h with h; subst h
      have r := hρ x (by simp [hop, Op.operands]) _ hx
      obtain ⟨p, hp, e⟩ := VR.ptr_inv r
      exact ⟨ev x, fun w => by simp [execOp, hop, e], r⟩
    · rename_i f l c hx
      injection h with h; subst h
      have r := hρ x (by simp [hop, Op.operands]) _ hx
      obtain ⟨l', c', e, _⟩ := VR.func_inv r
      exact ⟨ev x, fun w => by simp [execOp, hop, e], r⟩
    · cases h
  · -- binOp
    rename_i op t x y ty hop
    split at h
    · rename_i a b hx hy
      obtain ⟨z, h1, h2⟩ := evBin_run (hρ x (by simp [hop, Op.operands]) _ hx) (hρ y (by simp [hop, Op.operands]) _ hy) h
      refine ⟨z, fun w => ?_, h2⟩
      have := h1 w
      simp only [execOp, hop, Sem.run_bind] at this ⊢
      rw [this]; rfl
    · cases h
  · -- unOp
    rename_i op t x hop
    cases hx : ρ x with
    | none => simp [hx] at h
    | some a =>
      simp only [hx, Option.bind_some] at h
      cases hv : toV a with
      | none => simp [hv] at h
      | some v =>
        simp only [hv, Option.bind_some] at h
        obtain ⟨z, h1, h2⟩ := unary_bind op hv h
        have e := VR.toV hv (hρ x (by simp [hop, Op.operands]) _ hx)
        exact ⟨z, fun w => by simp [execOp, hop, e, h1], h2⟩
  · -- convert
    rename_i src dst x hop
    split at h
    · rename_i d k j n hs hd hx
      injection h with h; subst h
      have e := VR.int_inv (hρ x (by simp [hop, Op.operands]) _ hx)
      exact ⟨_, fun w => by simp [execOp, hop, e, convert, run_und w hs, run_und w hd, Conv.intToInt], VR.int_mk⟩
    · rename_i d k j n hs hd hx
      have e := VR.int_inv (hρ x (by simp [hop, Op.operands]) _ hx)
      cases hst : strip P (convert src dst (.int j n)) with
      | none => simp [hst] at h
      | some z =>
        simp only [hst, Option.bind_some] at h
        exact ⟨z, fun w => by simp [execOp, hop, e, strip_run hst w], VR.of_flatAV h⟩
    · rename_i d s hs hd hx
      injection h with h; subst h
      have r := hρ x (by simp [hop, Op.operands]) _ hx
      have e := VR.str_inv r
      exact ⟨_, fun w => by simp [execOp, hop, e, convert, run_und w hs, run_und w hd], VR.str_mk⟩
    · rename_i e hs hd hx
      split at h
      · rename_i he
        injection h with h; subst h
        have e' := VR.nils_inv (hρ x (by simp [hop, Op.operands]) _ hx)
        exact ⟨.string .empty, fun w => by simp [execOp, hop, e', convert, run_und w hs, run_und w hd, run_und w he, Conv.bytesToString], by simp only [VR]; rfl⟩
      · cases h
    · cases h
  · -- makeInterface
    rename_i t x hop
    split at h
    · cases h
    · rename_i d hne hd
      simp only [Option.map_eq_some_iff] at h
      obtain ⟨a, hx, rfl⟩ := h
      have r := hρ x (by simp [hop, Op.operands]) _ hx
      refine ⟨.iface t (ev x), fun w => ?_, by simp only [VR]; exact ⟨_, rfl, r⟩⟩
      have : P.concrete t = true := by
        unfold Program.concrete
        rw [hd]
        cases d <;> first | rfl | exact (hne _ rfl).elim
      simp [execOp, hop, run_makeInterface w t (ev x) this]
    · cases h
  · -- makeFunc
    rename_i fn first captured hop
    split at h
    · rename_i l c h1 h2
      injection h with h; subst h
      refine ⟨.func fn (first.map ev) (captured.map ev), fun w => by simp [execOp, hop, Instr.makeFunc], ?_⟩
      simp only [VR]
      refine ⟨_, _, rfl, ?_, ?_⟩
      · rw [Array.toList_map]; exact VRL.of_opVals (fun x hx => hρ x (by simp only [hop, Op.operands]; simp; left; simpa using hx)) h1
      · rw [Array.toList_map]; exact VRL.of_opVals (fun x hx => hρ x (by simp only [hop, Op.operands]; simp; right; simpa using hx)) h2
    · cases h
  · -- slice
    rename_i t x lo hi mx hop
    split at h
    · rename_i a l hh m hx h1 h2 h3
      have rx := hρ x (by simp [hop, Op.operands]) _ hx
      obtain ⟨z, e1, e2⟩ := evSlice_run rx
        (optVal_rel (fun y hy => hρ y (by simp [hop, Op.operands, hy])) h1)
        (optVal_rel (fun y hy => hρ y (by simp [hop, Op.operands, hy])) h2)
        (optVal_rel (fun y hy => hρ y (by simp [hop, Op.operands, hy])) h3) h
      exact ⟨z, fun w => by simp [execOp, hop, e1], e2⟩
    · cases h
  · -- fieldAddr
    rename_i s x f hop
    split at h
    · rename_i f b off hf hx
      split at h
      · rename_i hz
        injection h with h; subst h
        simp only [Option.any_eq_true, bne_iff_ne, ne_eq] at hz
        obtain ⟨n, hn, h0⟩ := hz
        obtain ⟨p, hp, e⟩ := VR.ptr_inv (hρ x (by simp [hop, Op.operands]) _ hx)
        unfold asField at hf
        split at hf
        · rename_i fs hu
          refine ⟨.pointer (some ⟨p.blk, p.off + (off + f.offset), none⟩), fun w => ?_, by simp only [VR]; exact ⟨p, hp, rfl⟩⟩
          have : Addr.add ⟨p.blk, p.off + off, none⟩ f.offset = ⟨p.blk, p.off + (off + f.offset), none⟩ := by
            rw [Addr.add_lit, Nat.add_assoc]
          simp [execOp, hop, Instr.fieldAt, run_und w hu, hf, e, Instr.sureAddr, fieldPlace, run_sizeOf' w hn, h0, this]
        · cases hf
      · cases h
    · cases h
  · -- field
    rename_i t x f hop
    split at h
    · rename_i f cs hf hx
      obtain ⟨cs', e, rc⟩ := VR.agg_inv (hρ x (by simp [hop, Op.operands]) _ hx)
      unfold asField at hf
      split at hf
      · rename_i fs hu
        obtain ⟨z, h1, h2⟩ := run_part h rc
        exact ⟨z, fun w => by simp [execOp, hop, Instr.field, run_und w hu, hf, e, asAgg, h1], h2⟩
      · cases hf
    · cases h
  · -- indexAddr
    rename_i t x ix hop
    split at h
    · rename_i n e b off i hu hx hi
      cases hs : csize P e with
      | none => simp [hs] at h
      | some s =>
        simp only [hs, Option.bind_some] at h
        split at h
        · rename_i hlt
          injection h with h; subst h
          obtain ⟨a, ha, hn⟩ := Option.bind_eq_some_iff.1 hi
          obtain ⟨k, rfl⟩ := natOf_int hn
          obtain ⟨p, hp, e'⟩ := VR.ptr_inv (hρ x (by simp [hop, Op.operands]) _ hx)
          have ei := VR.int_inv (hρ ix (by simp [hop, Op.operands]) _ ha)
          refine ⟨.pointer (some ⟨p.blk, p.off + (off + i * s), none⟩), fun w => ?_, by simp only [VR]; exact ⟨p, hp, rfl⟩⟩
          have : Addr.add ⟨p.blk, p.off + off, none⟩ (i * s) = ⟨p.blk, p.off + (off + i * s), none⟩ := by rw [Addr.add_lit, Nat.add_assoc]
          simp [execOp, hop, Instr.indexAt, run_und w hu, e', ei, asIntOf, Instr.sureAddr, run_sizeOf' w hs, hlt, this]
        · cases h
    · rename_i e b off len cap s ex i hu hx hi
      split at h
      · rename_i hc
        simp only [Bool.and_eq_true, decide_eq_true_eq] at hc
        obtain ⟨hlt, hs⟩ := hc
        injection h with h; subst h
        obtain ⟨a, ha, hn⟩ := Option.bind_eq_some_iff.1 hi
        obtain ⟨k, rfl⟩ := natOf_int hn
        obtain ⟨p, co, c', hp, e', hco, hcap, hsz, hlen⟩ := VR.slc_inv (hρ x (by simp [hop, Op.operands]) _ hx)
        have ei := VR.int_inv (hρ ix (by simp [hop, Op.operands]) _ ha)
        have hco : co = p.off + off := by
          rcases hco with h0 | h0
          · exfalso; split at hcap <;> omega
          · exact h0
        refine ⟨.pointer (some ⟨p.blk, p.off + (off + i * s), none⟩), fun w => ?_, by simp only [VR]; exact ⟨p, hp, rfl⟩⟩
        have : Addr.add ⟨p.blk, co, none⟩ (i * s) = ⟨p.blk, p.off + (off + i * s), none⟩ := by rw [Addr.add_lit, hco, Nat.add_assoc]
        simp [execOp, hop, Instr.indexAt, run_und w hu, e', ei, asIntOf, run_sizeOf' w hs, hlt, this]
      · cases h
    · cases h
  · -- index
    rename_i t x ix hop
    split at h
    · rename_i n e cs i hu hx hi
      cases hs : csize P e with
      | none => simp [hs] at h
      | some s =>
        simp only [hs, Option.bind_some] at h
        split at h
        · rename_i hlt
          obtain ⟨a, ha, hn⟩ := Option.bind_eq_some_iff.1 hi
          obtain ⟨k, rfl⟩ := natOf_int hn
          obtain ⟨cs', e', rc⟩ := VR.agg_inv (hρ x (by simp [hop, Op.operands]) _ hx)
          have ei := VR.int_inv (hρ ix (by simp [hop, Op.operands]) _ ha)
          obtain ⟨z, h1, h2⟩ := run_part h rc
          exact ⟨z, fun w => by simp [execOp, hop, Instr.index, run_und w hu, e', ei, asIntOf, run_sizeOf' w hs, hlt, h1], h2⟩
        · cases h
    · rename_i s i hu hx hi
      simp only [Option.map_eq_some_iff] at h
      obtain ⟨c, hc, rfl⟩ := h
      obtain ⟨a, ha, hn⟩ := Option.bind_eq_some_iff.1 hi
      obtain ⟨k, rfl⟩ := natOf_int hn
      have e' := VR.str_inv (hρ x (by simp [hop, Op.operands]) _ hx)
      have ei := VR.int_inv (hρ ix (by simp [hop, Op.operands]) _ ha)
      have : (⟨s.toArray⟩ : ByteArray)[i]? = some c := by
        have hlt : i < s.length := by
          rcases Nat.lt_or_ge i s.length with hh | hh
          · exact hh
          · rw [List.getElem?_eq_none hh] at hc; cases hc
        rw [getElem?_pos _ _ (by rw [ba_size]; exact hlt)]
        rw [List.getElem?_eq_getElem hlt] at hc
        injection hc with hc
        rw [← hc]; rfl
      exact ⟨_, fun w => by simp [execOp, hop, Instr.index, run_und w hu, e', ei, asIntOf, this], VR.int_mk⟩
    · cases h
  · -- typeAssert
    rename_i x xt asserted ok hop
    split at h
    · cases h
    · rename_i d hne hu hx
      have e := VR.nili_inv (hρ x (by simp [hop, Op.operands]) _ hx)
      cases ok with
      | false => simp at h
      | true =>
        simp only [if_true, Option.map_eq_some_iff] at h
        obtain ⟨z, hz, rfl⟩ := h
        obtain ⟨zv, hzr, hzv, _⟩ := run_zeroAV hz
        refine ⟨.tuple #[zv, .bool false], fun w => ?_, by simp only [VR]; exact ⟨_, rfl, VRL.cons (hzv ι) (VRL.cons VR.bool_mk (VRL.nil_iff.2 rfl))⟩⟩
        cases d <;> first | exact absurd rfl (hne _) | simp [execOp, hop, Instr.typeAssert, run_und w hu, e, hzr]
    · rename_i d t v hne hu hx
      obtain ⟨x', e, rv⟩ := VR.iface_inv (hρ x (by simp [hop, Op.operands]) _ hx)
      split at h
      · rename_i ht
        injection h with h; subst h
        cases ok with
        | false =>
          simp only [Bool.false_eq_true, if_false]
          refine ⟨x', fun w => ?_, rv⟩
          cases d <;> first | exact absurd rfl (hne _) | simp [execOp, hop, Instr.typeAssert, run_und w hu, e, ht]
        | true =>
          simp only [if_true]
          refine ⟨.tuple #[x', .bool true], fun w => ?_, by simp only [VR]; exact ⟨_, rfl, VRL.cons rv (VRL.cons VR.bool_mk (VRL.nil_iff.2 rfl))⟩⟩
          cases d <;> first | exact absurd rfl (hne _) | simp [execOp, hop, Instr.typeAssert, run_und w hu, e, ht]
      · rename_i ht
        cases ok with
        | false => simp at h
        | true =>
          simp only [if_true, Option.map_eq_some_iff] at h
          obtain ⟨z, hz, rfl⟩ := h
          obtain ⟨zv, hzr, hzv, _⟩ := run_zeroAV hz
          refine ⟨.tuple #[zv, .bool false], fun w => ?_, by simp only [VR]; exact ⟨_, rfl, VRL.cons (hzv ι) (VRL.cons VR.bool_mk (VRL.nil_iff.2 rfl))⟩⟩
          cases d <;> first | exact absurd rfl (hne _) | simp [execOp, hop, Instr.typeAssert, run_und w hu, e, ht, hzr]
    · cases h
  · -- extract
    rename_i t ix hop
    split at h
    · rename_i vs hx
      obtain ⟨vs', e, rv⟩ := VR.tup_inv (hρ t (by simp [hop, Op.operands]) _ hx)
      obtain ⟨z, h1, h2⟩ := VRL.get rv h
      refine ⟨z, fun w => ?_, h2⟩
      have : vs'[ix]? = some z := by simpa using h1
      simp [execOp, hop, Instr.extract, e, this]
    · cases h
  · -- builtins
    rename_i b args argTypes hop
    have hops : ∀ {l : List AV}, opVals ρ args.toList = some l → VRL ι l (args.map ev).toList := fun hl => by
      rw [Array.toList_map]
      exact VRL.of_opVals (fun x hx => hρ x (by rw [hop]; simp [Op.operands, Call.operands]; simpa using hx)) hl
    obtain ⟨cs, hex⟩ : ∃ cs, ∀ w, (execOp ev o).run P w = (builtin b argTypes o.type cs (args.map ev)).run P w :=
      ⟨_, fun w => by simp only [execOp, hop, resolve, invoke, Sem.run_bind, Sem.run_pure, Result.andThen_ok]; rfl⟩
    split at h
    · rename_i x hargs
      obtain ⟨u, hu', rx⟩ := args_one (hops hargs)
      split at h
      · rename_i s ht
        obtain ⟨t, ht0, ht⟩ := Option.bind_eq_some_iff.1 ht
        injection h with h; subst h
        have e := VR.str_inv rx
        exact ⟨_, fun w => by simp [hex, builtin, Builtin.len_, ht0, hu', run_und w ht, e, goInt, ba_size], VR.int_mk⟩
      · rename_i el b off len cap esz ex ht
        obtain ⟨t, ht0, ht⟩ := Option.bind_eq_some_iff.1 ht
        injection h with h; subst h
        obtain ⟨p, co, c', hp, e, _⟩ := VR.slc_inv rx
        exact ⟨_, fun w => by simp [hex, builtin, Builtin.len_, ht0, hu', run_und w ht, e, goInt], VR.int_mk⟩
      · rename_i el ht
        obtain ⟨t, ht0, ht⟩ := Option.bind_eq_some_iff.1 ht
        injection h with h; subst h
        have e := VR.nils_inv rx
        exact ⟨_, fun w => by simp [hex, builtin, Builtin.len_, ht0, hu', run_und w ht, e, goInt], VR.int_mk⟩
      · rename_i n el ht
        obtain ⟨t, ht0, ht⟩ := Option.bind_eq_some_iff.1 ht
        injection h with h; subst h
        exact ⟨_, fun w => by simp [hex, builtin, Builtin.len_, ht0, hu', run_und w ht, goInt], VR.int_mk⟩
      · rename_i arr ht
        obtain ⟨t, ht0, ht⟩ := Option.bind_eq_some_iff.1 ht
        split at h
        · rename_i n el ha
          injection h with h; subst h
          exact ⟨_, fun w => by simp [hex, builtin, Builtin.len_, ht0, hu', run_und w ht, run_und w ha, goInt], VR.int_mk⟩
        · cases h
      · rename_i kt et ht
        obtain ⟨t, ht0, ht⟩ := Option.bind_eq_some_iff.1 ht
        injection h with h; subst h
        have e := VR.nilm_inv rx
        exact ⟨_, fun w => by simp [hex, builtin, Builtin.len_, ht0, hu', run_und w ht, e, goInt], VR.int_mk⟩
      · cases h
    · rename_i x hargs
      obtain ⟨u, hu', rx⟩ := args_one (hops hargs)
      split at h
      · rename_i el b off len cap esz ht
        obtain ⟨t, ht0, ht⟩ := Option.bind_eq_some_iff.1 ht
        injection h with h; subst h
        obtain ⟨p, co, c', hp, e, _, hc, _⟩ := VR.slc_inv rx
        simp only [if_true] at hc
        subst hc
        exact ⟨_, fun w => by simp [hex, builtin, Builtin.cap_, ht0, hu', run_und w ht, e, goInt], VR.int_mk⟩
      · rename_i el ht
        obtain ⟨t, ht0, ht⟩ := Option.bind_eq_some_iff.1 ht
        injection h with h; subst h
        have e := VR.nils_inv rx
        exact ⟨_, fun w => by simp [hex, builtin, Builtin.cap_, ht0, hu', run_und w ht, e, goInt], VR.int_mk⟩
      · cases h
    · rename_i k a l hargs
      simp only [Option.map_eq_some_iff] at h
      obtain ⟨q, hq, rfl⟩ := h
      obtain ⟨v, vs, hl, h1, h2⟩ := VRL.cons_iff.1 (hops hargs)
      have hv := VR.int_inv h1
      subst hv
      refine ⟨.int k q, fun w => ?_, VR.int_mk⟩
      have := foldInt_run (P := P) (ι := ι) (g := Builtin.max2) (fun k a k' b w => by simp [Builtin.max2]) l vs k a q h2 hq w
      simp only [hex, builtin, Builtin.max_, hl, this, Sem.run_bind, Result.andThen_ok, Sem.run_pure]
    · rename_i k a l hargs
      simp only [Option.map_eq_some_iff] at h
      obtain ⟨q, hq, rfl⟩ := h
      obtain ⟨v, vs, hl, h1, h2⟩ := VRL.cons_iff.1 (hops hargs)
      have hv := VR.int_inv h1
      subst hv
      refine ⟨.int k q, fun w => ?_, VR.int_mk⟩
      have := foldInt_run (P := P) (ι := ι) (g := Builtin.min2) (fun k a k' b w => by simp [Builtin.min2]) l vs k a q h2 hq w
      simp only [hex, builtin, Builtin.min_, hl, this, Sem.run_bind, Result.andThen_ok, Sem.run_pure]
    · rename_i x hargs
      obtain ⟨u, hu', rx⟩ := args_one (hops hargs)
      split at h
      · injection h with h; subst h
        have e := VR.nils_inv rx
        exact ⟨.pointer none, fun w => by simp [hex, builtin, sliceData_nil, hu', e], by simp only [VR]⟩
      · rename_i b off len cap esz ex
        split at h
        · cases h
        · rename_i h0
          injection h with h; subst h
          obtain ⟨p, co, c', hp, e, hco, hcap, hsz, hlen⟩ := VR.slc_inv rx
          have hc0 : c' ≠ 0 := by split at hcap <;> omega
          have hco : co = p.off + off := by rcases hco with hh | hh; · exact absurd hh hc0
                                            · exact hh
          exact ⟨.pointer (some ⟨p.blk, p.off + off, none⟩), fun w => by simp [hex, builtin, sliceData_some, hu', e, hc0, hco], by simp only [VR]; exact ⟨p, hp, rfl⟩⟩
      · cases h
    · cases h
  · cases h

end
end Go.Proofs.YtcbileongahhiaaGreat.Ev
