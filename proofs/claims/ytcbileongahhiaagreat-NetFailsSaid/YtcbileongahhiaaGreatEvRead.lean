/- The operations that read memory. -/
import Derived.Test.YtcbileongahhiaaGreatEvPure5
namespace Go.Proofs.YtcbileongahhiaaGreat.Ev
open Go
set_option linter.unusedVariables false
set_option linter.unusedSimpArgs false

section
variable {P : Program} {ι : Inj} {m : Mem} {w : World}

theorem cellsOf_eq {t : TypeId} {n : Nat} (h : csize P t = some n) : P.cellsOf t = n := by
  obtain ⟨i, hi, rfl⟩ := csize_info h
  simp [Program.cellsOf, hi]

theorem MR.row (h : MR P ι m w) {b : Nat} {p : Place} {own : Bool} {fz : Option Nat} {el : TypeId} {cs : List AV} (hb : ι b = some p) (hg : m.get b = some (.row own fz el cs)) :
    ∃ c fr, w.heap[p.blk]? = some (.cells c el fr) ∧ c.size = p.size ∧ p.off + cs.length ≤ c.size ∧ VRL ι cs ((c.toList.drop p.off).take cs.length) ∧ (own = true → FzOk p c.size fr fz ∧ p.off % P.cellsOf el = 0) := by
  simpa only [BR] using h b p _ hb hg

theorem MR.map (h : MR P ι m w) {b : Nat} {p : Place} {es : List (AV × AV)} (hb : ι b = some p) (hg : m.get b = some (.map es)) : ∃ es' clock, w.heap[p.blk]? = some (.map es' clock) ∧ EsR ι es es' clock := by
  simpa only [BR] using h b p _ hb hg

theorem cells_get {b off n : Nat} {cs : List AV} (h : m.cells b off n = some cs) : ∃ own fz el all, m.get b = some (.row own fz el all) ∧ off + n ≤ all.length ∧ cs = (all.drop off).take n := by
  unfold Mem.cells at h
  split at h
  · rename_i own fz el all hg
    split at h
    · rename_i hl; injection h with h; exact ⟨own, fz, el, all, hg, hl, h.symm⟩
    · cases h
  · cases h

theorem entries_get {b : Nat} {es : List (AV × AV)} (h : m.entries b = some es) : m.get b = some (.map es) := by
  unfold Mem.entries at h
  split at h
  · rename_i es' hg; injection h with h; rw [← h]; exact hg
  · cases h

theorem cell?_row {k i : Nat} {c : Array Value} {el : TypeId} {fr : Nat × Nat} (h : w.heap[k]? = some (.cells c el fr)) : w.cell? ⟨k, i, none⟩ = c[i]? := by
  simp [World.cell?, h]

/-- the cells of a block, as the model loads them -/
theorem MR.cells (h : MR P ι m w) {b off n : Nat} {p : Place} {cs : List AV} (hb : ι b = some p) (hc : m.cells b off n = some cs) :
    ∃ cs' : List Value, cs'.length = n ∧ VRL ι cs cs' ∧ (loadCells ⟨p.blk, p.off + off, none⟩ n).run P w = .ok cs'.toArray w ∧ (∀ j v, cs'[j]? = some v → w.cell? ⟨p.blk, p.off + off + j, none⟩ = some v) ∧
      ∃ c el fr, w.heap[p.blk]? = some (.cells c el fr) ∧ c.size = p.size ∧ p.off + off + n ≤ c.size := by
  obtain ⟨own, fz, el, all, hg, hl, rfl⟩ := cells_get hc
  obtain ⟨c, fr, hh, hs, hle, hr, _⟩ := h.row hb hg
  refine ⟨(((c.toList.drop p.off).take all.length).drop off).take n, ?_, VRL.take _ (VRL.drop _ hr), ?_, ?_, c, el, fr, hh, hs, by omega⟩
  · simp; omega
  · have hcells : ∀ j v, ((((c.toList.drop p.off).take all.length).drop off).take n)[j]? = some v → w.cell? (Addr.add ⟨p.blk, p.off + off, none⟩ j) = some v := by
      intro j v hv
      rw [Addr.add_lit, cell?_row hh]
      simp only [List.getElem?_take, List.getElem?_drop] at hv
      split at hv
      · split at hv
        · rw [← Array.getElem?_toList, show p.off + off + j = p.off + (off + j) by omega]; exact hv
        · cases hv
      · cases hv
    have := run_loadCells_list (P := P) w ⟨p.blk, p.off + off, none⟩ _ hcells
    rw [show ((((c.toList.drop p.off).take all.length).drop off).take n).length = n by simp; omega] at this
    exact this
  · intro j v hv
    rw [cell?_row hh]
    simp only [List.getElem?_take, List.getElem?_drop] at hv
    split at hv
    · split at hv
      · rw [← Array.getElem?_toList, show p.off + off + j = p.off + (off + j) by omega]; exact hv
      · cases hv
    · cases hv

theorem intsOf_rel {g : Value → ByteArray → Sem (ForInStep ByteArray)} (hg : ∀ n s w, (g (.int .u8 n) s).run P w = .ok (.yield (s.push (UInt8.ofNat n.toNat))) w) : ∀ {cs : List AV} {s : List UInt8} {cs' : List Value}, intsOf cs = some s → VRL ι cs cs' → ∀ (acc : ByteArray) (w : World),
    (forIn cs' acc g).run P w = .ok ⟨acc.data ++ s.toArray⟩ w
  | [], s, cs', h, r, acc, w => by
    simp [intsOf] at h; subst h
    rw [VRL.nil_iff.1 r]
    simp
  | c :: cs, s, cs', h, r, acc, w => by
    obtain ⟨v, vs, rfl, h1, h2⟩ := VRL.cons_iff.1 r
    unfold intsOf at h
    split at h
    · cases ‹_ = []›
    · rename_i n l he
      injection he with he1 he2
      subst he1; subst he2
      simp only [Option.map_eq_some_iff] at h
      obtain ⟨t, ht, rfl⟩ := h
      rw [VR.int_inv h1]
      simp only [List.forIn_cons, Sem.run_bind, hg, Result.andThen_ok]
      rw [intsOf_rel hg ht h2]
      congr 2
      apply Array.ext'
      simp [ByteArray.push]
    · cases h

theorem seenAt_run {b : Nat} {p : Place} {el : TypeId} {c : Array Value} {fr : Nat × Nat} (hh : w.heap[p.blk]? = some (.cells c el fr)) (i : Nat) : (Conv.seenAt ⟨p.blk, i, none⟩).run P w = .ok ⟨p.blk, i, none⟩ w := by
  have : w.shape? p.blk = some (el, c.size) := by simp [World.shape?, hh]
  simp [Conv.seenAt, viewAt, this]

theorem depth_pos : ∃ d, P.depth = d + 2 := ⟨_, rfl⟩

theorem sameLayout_self {d : Nat} {t : TypeId} : sameLayout P (d + 1) t t = true := by simp [sameLayout]

theorem rowAt_here {fits : TypeId → Bool} {d : Nat} {e : TypeId} {count off n : Nat} (hs : P.cellsOf e ≠ 0) (ha : off % P.cellsOf e = 0) (hn : off / P.cellsOf e + n ≤ count) (hf : fits e = true) :
    rowAt P fits (d + 1) e count off n = true := by
  unfold rowAt
  simp only [hs, if_false]
  rw [Bool.or_eq_true]
  left
  simp [ha, hn, hf]

theorem lies_here {d : Nat} {u : TypeId} {count off n : Nat} (h : rowAt P (sameLayout P P.depth · u) P.depth u count off n = true) : liesAt P (d + 1) u count off u n = true := by
  unfold liesAt
  rw [Bool.or_eq_true]
  exact .inl h

theorem depth_succ : P.depth = (2 * (P.types.size + Made.depth) + 1) + 1 := rfl

theorem lies_depth {u : TypeId} {count off n : Nat} (hs : P.cellsOf u ≠ 0) (ha : off % P.cellsOf u = 0) (hn : off / P.cellsOf u + n ≤ count) : liesAt P P.depth u count off u n = true := by
  have hr : rowAt P (sameLayout P P.depth · u) P.depth u count off n = true := by
    generalize hf : (fun x => sameLayout P P.depth x u) = fits
    rw [depth_succ]
    refine rowAt_here hs ha hn ?_
    rw [← hf]
    show sameLayout P P.depth u u = true
    rw [depth_succ]
    exact sameLayout_self
  generalize hd : P.depth = D at hr ⊢
  rw [depth_succ] at hd
  subst hd
  exact lies_here (by rw [depth_succ]; exact hr)

/-- a variable that fills a row's element, at the row's own type -/
theorem lies_one {u : TypeId} {k off : Nat} (hs : P.cellsOf u ≠ 0) (ha : off % P.cellsOf u = 0) (hle : off + P.cellsOf u ≤ k) : liesAt P P.depth u (k / P.cellsOf u) off u 1 = true := by
  refine lies_depth hs ha ?_
  have hpos : 0 < P.cellsOf u := Nat.pos_of_ne_zero hs
  rw [Nat.le_div_iff_mul_le hpos, Nat.add_mul, Nat.one_mul]
  have := Nat.div_mul_le_self off (P.cellsOf u)
  omega

/-- bytes of a row of bytes -/
theorem lies_bytes {u : TypeId} {k off n : Nat} (hs : P.cellsOf u = 1) (hle : off + n ≤ k) : liesAt P P.depth u (k / P.cellsOf u) off u n = true :=
  lies_depth (by omega) (by rw [hs]; exact Nat.mod_one _) (by rw [hs]; simpa using hle)

set_option maxHeartbeats 2000000 in
theorem evRead_run (hm : MR P ι m w) {ρ : Operand → Option AV} {ev : Operand → Value} {o : Oper} {r : AV} {fx : Fx} (hρ : OpdR ι ρ ev o) (h : evRead P ρ o m = some (r, fx)) :
    ∃ z, (execOp ev o).run P w = .ok (.value z) w ∧ VR ι r z := by
  unfold OpdR at hρ
  unfold evRead at h
  split at h
  · -- load
    rename_i t a hop
    split at h
    · rename_i b off n ha hn hagg
      simp only [Option.map_eq_some_iff, Prod.mk.injEq] at h
      obtain ⟨cs, hc, rfl, rfl⟩ := h
      obtain ⟨p, hp, e⟩ := VR.ptr_inv (hρ a (by simp [hop, Op.operands]) _ ha)
      obtain ⟨cs', hl, hr, hrun, _⟩ := hm.cells hp hc
      exact ⟨.agg cs'.toArray, by simp [execOp, hop, Instr.loadAt, e, Instr.sureAddr, loadVar, run_isAgg w hagg, run_sizeOf' w hn, hrun], by simp only [VR]; exact ⟨_, rfl, hr⟩⟩
    · rename_i b off n ha hn hagg
      split at h
      · rename_i v hc
        simp only [Option.some.injEq, Prod.mk.injEq] at h
        obtain ⟨rfl, rfl⟩ := h
        obtain ⟨p, hp, e⟩ := VR.ptr_inv (hρ a (by simp [hop, Op.operands]) _ ha)
        obtain ⟨cs', hl, hr, _, hcell, _⟩ := hm.cells hp hc
        obtain ⟨u, us, rfl, h1, h2⟩ := VRL.cons_iff.1 hr
        have := hcell 0 u rfl
        simp only [Nat.add_zero] at this
        exact ⟨u, by simp [execOp, hop, Instr.loadAt, e, Instr.sureAddr, loadVar, run_isAgg w hagg, this], h1⟩
      · cases h
    · cases h
  · -- convert
    rename_i src dst x hop
    split at h
    · rename_i t b off hs hd hx
      split at h
      · rename_i hz
        simp only [Option.any_eq_true, bne_iff_ne, ne_eq] at hz
        obtain ⟨n, hn, h0⟩ := hz
        simp only [Option.map_eq_some_iff, Prod.mk.injEq] at h
        obtain ⟨cs, hc, rfl, rfl⟩ := h
        have rx := hρ x (by simp [hop, Op.operands]) _ hx
        obtain ⟨p, hp, e⟩ := VR.ptr_inv rx
        obtain ⟨cs', hl, hr, _, hcell, c, el, fr, hh, hsz, hle⟩ := hm.cells hp hc
        have hshape : w.shape? p.blk = some (el, c.size) := by simp [World.shape?, hh]
        refine ⟨ev x, ?_, rx⟩
        rw [e]
        have : ¬ (c.size ≤ p.off + off) := by omega
        simp [execOp, hop, e, convert, run_und w hs, run_und w hd, Conv.unsafePointer, seenAt_run (P := P) (b := b) hh, cellsIn, hshape, run_sizeOf' w hn, h0, this]
      · cases h
    · rename_i u b off hs hd hx
      split at h
      · rename_i n hn
        split at h
        · rename_i hc
          simp only [Bool.and_eq_true, decide_eq_true_eq, bne_iff_ne, ne_eq] at hc
          obtain ⟨⟨hel, h0⟩, hn0⟩ := hc
          subst h0
          simp only [Option.map_eq_some_iff, Prod.mk.injEq] at h
          obtain ⟨cs, hc, rfl, rfl⟩ := h
          have rx := hρ x (by simp [hop, Op.operands]) _ hx
          obtain ⟨p, hp, e⟩ := VR.ptr_inv rx
          obtain ⟨fz, all, hg⟩ : ∃ fz all, m.get b = some (.row true fz u all) := by
            unfold Mem.elem at hel
            split at hel
            · rename_i fz el all hg; injection hel with hel; subst hel; exact ⟨fz, all, hg⟩
            · cases hel
          obtain ⟨c, fr, hh, hsz, hle, hr, hown⟩ := hm.row hp hg
          have hal := (hown rfl).2
          obtain ⟨own', fz', el', all', hg', hl', _⟩ := cells_get hc
          rw [hg] at hg'
          injection hg' with hg'
          injection hg' with _ _ _ hg'
          subst hg'
          have hcell := cellsOf_eq hn
          have hshape : w.shape? p.blk = some (u, c.size) := by simp [World.shape?, hh]
          refine ⟨ev x, ?_, rx⟩
          have hlie := lies_one (P := P) (u := u) (k := c.size) (off := p.off) (by rw [hcell]; exact hn0) hal (by rw [hcell]; omega)
          rw [e]
          simp [execOp, hop, e, convert, run_und w hs, run_und w hd, Conv.unsafePointer, seenAt_run (P := P) (b := b) hh, run_sizeOf' w hn, hn0, variablesAt, hshape, hlie]
        · cases h
      · cases h
    · rename_i e b off len cap ex hs hd hx
      split at h
      · rename_i he
        cases hc : m.cells b off len with
        | none => simp [hc] at h
        | some cs =>
          simp only [hc, Option.bind_some, Option.map_eq_some_iff, Prod.mk.injEq] at h
          obtain ⟨s, hi, rfl, rfl⟩ := h
          obtain ⟨p, co, c', hp, e', hco, hcap, hsz, hlen⟩ := VR.slc_inv (hρ x (by simp [hop, Op.operands]) _ hx)
          obtain ⟨cs', hl, hr, hrun, _⟩ := hm.cells hp hc
          have hcoo : c' = 0 ∨ co = p.off + off := hco
          refine ⟨.string ⟨s.toArray⟩, ?_, VR.str_mk⟩
          have hload : (loadCells ⟨p.blk, co, none⟩ len).run P w = .ok cs'.toArray w := by
            rcases hco with h0 | h0
            · have : len = 0 := by split at hcap <;> omega
              subst this
              have : cs' = [] := by cases cs' <;> simp_all
              subst this
              simp [loadCells, loadCellsFrom]
            · rw [h0]; exact hrun
          simp only [execOp, hop, e', convert, Sem.run_bind, run_und w hs, run_und w hd, run_und w he, Result.andThen_ok, Conv.bytesToString, hload]
          rw [← Array.forIn_toList, intsOf_rel (fun n s w => rfl) hi hr]
          simp
      · cases h
    · cases h
  · -- lookup
    rename_i t x k ok hop
    split at h
    · rename_i kt et b k hu hx hk
      cases hes : m.entries b with
      | none => simp [hes] at h
      | some es =>
        simp only [hes] at h
        split at h
        · rename_i hkey
          simp only [Bool.and_eq_true] at hkey
          obtain ⟨p, hp, e⟩ := VR.map_inv (hρ x (by simp [hop, Op.operands]) _ hx)
          have rk := hρ _ (by simp [hop, Op.operands]) _ hk
          obtain ⟨es', clock, hh, he⟩ := hm.map hp (entries_get hes)
          have hobj : ∀ w', w' = w → (getObj p.blk).run P w' = .ok (.map es' clock) w' := by intro w' e; subst e; simp [getObj, Sem.run, hh]
          have hck := checkKey_run 100 10000 (by decide) kt k _ rk hkey.1 es'.isEmpty
          obtain ⟨ukt, hukt⟩ : ∃ u, P.underlying kt = some u := by
            have := hkey.1
            cases hq : P.underlying kt with
            | none => simp [keyV, hq] at this
            | some u => exact ⟨u, rfl⟩
          split at h
          · rename_i i v hf
            simp only [Option.some.injEq, Prod.mk.injEq] at h
            obtain ⟨rfl, rfl⟩ := h
            obtain ⟨r', hrun, e0, he0, _, _, rv⟩ := findKey_run hukt rk he hf
            subst he0
            cases ok with
            | true => exact ⟨.tuple #[e0.val, .bool true], by simp [execOp, hop, Instr.lookup, run_und w hu, e, hobj, hck, hrun], by simp only [if_true, VR]; exact ⟨_, rfl, VRL.cons rv (VRL.cons VR.bool_mk (VRL.nil_iff.2 rfl))⟩⟩
            | false => exact ⟨e0.val, by simp [execOp, hop, Instr.lookup, run_und w hu, e, hobj, hck, hrun], by simpa using rv⟩
          · rename_i hf
            simp only [Option.map_eq_some_iff, Prod.mk.injEq] at h
            obtain ⟨z, hz, rfl, rfl⟩ := h
            obtain ⟨zv, hzr, hzv, _⟩ := run_zeroAV hz
            obtain ⟨r', hrun, he0⟩ := findKey_run hukt rk he hf
            have he0 : r' = none := he0
            subst he0
            cases ok with
            | true => exact ⟨.tuple #[zv, .bool false], by simp [execOp, hop, Instr.lookup, run_und w hu, e, hobj, hck, hrun, hzr], by simp only [if_true, VR]; exact ⟨_, rfl, VRL.cons (hzv ι) (VRL.cons VR.bool_mk (VRL.nil_iff.2 rfl))⟩⟩
            | false => exact ⟨zv, by simp [execOp, hop, Instr.lookup, run_und w hu, e, hobj, hck, hrun, hzr], by simpa using hzv ι⟩
          · cases h
        · cases h
    · cases h
  · -- slice
    rename_i t x lo hi mx hop
    split at h
    · rename_i n e b off lo' hi' mx' hu hx h1 h2 h3
      split at h
      · rename_i mm hh l esz g1 g2 g3 g4
        split at h
        · rename_i hc
          simp only [Bool.and_eq_true, decide_eq_true_eq, Bool.or_eq_true, Option.isNone_iff_eq_none] at hc
          obtain ⟨⟨⟨c1, c2⟩, c3⟩, c4⟩ := hc
          simp only [Option.map_eq_some_iff, Prod.mk.injEq] at h
          obtain ⟨cs, hcs, rfl, rfl⟩ := h
          obtain ⟨p, hp, e'⟩ := VR.ptr_inv (hρ x (by simp [hop, Op.operands]) _ hx)
          obtain ⟨cs', _, _, _, _, c, el, fr, hhp, hsz, hle⟩ := hm.cells hp hcs
          have r1 := optVal_rel (fun y hy => hρ y (by simp [hop, Op.operands, hy])) h1
          have r2 := optVal_rel (fun y hy => hρ y (by simp [hop, Op.operands, hy])) h2
          have r3 := optVal_rel (fun y hy => hρ y (by simp [hop, Op.operands, hy])) h3
          have hrun : (Instr.sliceBounds false n n (lo.map ev) (hi.map ev) (mx.map ev)).run P w = .ok (l, hh, mm) w :=
            sliceBounds_run (NumOr.of g1 r3) (NumOr.of g2 r2) (NumOr.of g3 r1) c1 c2 c3 (hi_of_mx r3 r2 c4) w
          refine ⟨.slice (some ⟨p.blk, if mm = l then p.off + off else p.off + off + l * esz, none⟩) (hh - l) (mm - l), ?_, ?_⟩
          · by_cases e0 : mm = l
            · simp [execOp, hop, Instr.sliceAt, run_und w hu, e', Instr.sureAddr, hrun, run_sizeOf' w g4, e0]
            · simp [execOp, hop, Instr.sliceAt, run_und w hu, e', Instr.sureAddr, hrun, run_sizeOf' w g4, e0, Addr.add_lit]
          · simp only [VR]
            refine ⟨p, _, mm - l, hp, rfl, ?_, by simp, ?_, by omega⟩
            · split
              · left; omega
              · right; omega
            · have hmul : l * esz + (mm - l) * esz ≤ n * esz := by rw [← Nat.add_mul]; exact Nat.mul_le_mul_right _ (by omega)
              split
              · rename_i e0
                rw [show mm - l = 0 by omega, Nat.zero_mul]
                omega
              · omega
        · cases h
      · cases h
    · cases h
  · -- len
    rename_i args argTypes hop
    split at h
    · rename_i b kt et hargs ht
      obtain ⟨t, ht0, ht⟩ := Option.bind_eq_some_iff.1 ht
      simp only [Option.map_eq_some_iff, Prod.mk.injEq] at h
      obtain ⟨es, hes, rfl, rfl⟩ := h
      have hops : VRL ι [.map b] (args.map ev).toList := by
        rw [Array.toList_map]
        exact VRL.of_opVals (fun x hx => hρ x (by rw [hop]; simp [Op.operands, Call.operands]; simpa using hx)) hargs
      obtain ⟨u, hu', rx⟩ := args_one hops
      obtain ⟨p, hp, e⟩ := VR.map_inv rx
      obtain ⟨es', clock, hh, he⟩ := hm.map hp (entries_get hes)
      have hobj : (getObj p.blk).run P w = .ok (.map es' clock) w := by simp [getObj, Sem.run, hh]
      refine ⟨.int .i64 es.length, ?_, VR.int_mk⟩
      simp [execOp, hop, resolve, invoke, builtin, Builtin.len_, ht0, hu', run_und w ht, e, hobj, goInt, he.len]
    · cases h
  · cases h

end
end Go.Proofs.YtcbileongahhiaaGreat.Ev
