/- The operations that make a block. -/
import Derived.Test.YtcbileongahhiaaGreatEvRead
namespace Go.Proofs.YtcbileongahhiaaGreat.Ev
open Go
set_option linter.unusedVariables false
set_option linter.unusedSimpArgs false

section
variable {P : Program} {ι : Inj}

theorem repCells_length (z : List AV) : ∀ n, (repCells z n).length = n * z.length
  | 0 => by simp [repCells]
  | n + 1 => by simp [repCells, repCells_length z n, Nat.add_mul, Nat.add_comm]

theorem repCells_get (z : List AV) : ∀ (n i : Nat), i < n * z.length → (repCells z n)[i]? = z[i % z.length]?
  | 0, i, h => by simp at h
  | n + 1, i, h => by
    simp only [repCells]
    by_cases hi : i < z.length
    · rw [List.getElem?_append_left hi, Nat.mod_eq_of_lt hi]
    · rw [List.getElem?_append_right (by omega), repCells_get z n (i - z.length) (by rw [Nat.add_mul, Nat.one_mul] at h; omega)]
      congr 1
      rw [← Nat.mod_eq_sub_mod (by omega)]

theorem zeros_rel {z : List AV} {zv : Array Value} (h : VRL ι z zv.toList) (n s : Nat) (hs : z.length = s) : VRL ι (repCells z n) ((Array.range (n * s)).map (zv[· % zv.size]!)).toList := by
  have hl := VRL.length h
  rw [Array.length_toList] at hl
  refine VRL.of_get ?_ ?_
  · simp [repCells_length, hs]
  · intro i a v ha hv
    have hi : i < n * z.length := by
      have := (List.getElem?_eq_some_iff.1 ha).1
      rw [repCells_length] at this
      exact this
    rw [repCells_get z n i hi] at ha
    obtain ⟨u, hu, ru⟩ := VRL.get h ha
    have : v = u := by
      have h0 : 0 < z.length := by rcases Nat.eq_zero_or_pos z.length with h0 | h0; · rw [h0] at hi; omega
                                   · exact h0
      rw [Array.getElem?_toList, Array.getElem?_map] at hv
      simp only [Option.map_eq_some_iff] at hv
      obtain ⟨j, hj, rfl⟩ := hv
      rw [Array.getElem?_range] at hj
      split at hj
      · injection hj with hj
        subst hj
        rw [Array.getElem?_toList, ← hl] at hu
        rw [getElem!_def, hu]
      · cases hj
    rw [this]; exact ru

theorem zeroCells_rel {z : List AV} {zv : Array Value} (h : VRL ι z zv.toList) (n s : Nat) (hs : z.length = s) : VRL ι (repCells z n) (Builtin.zeroCells zv n).toList := by
  have hl := VRL.length h
  rw [Array.length_toList, hs] at hl
  have := zeros_rel h n s hs
  unfold Builtin.zeroCells
  rw [hl] at this ⊢
  exact this

/-- what the making of a block says -/
structure Made (P : Program) (ι : Inj) (w w' : World) (rf : Ref) (blk : Blk) (z : Value) : Prop where
  os : w'.os = w.os
  tape : w'.tape = w.tape
  output : w'.output = w.output
  size : w'.heap.size = w.heap.size + 1
  old : ∀ k, k < w.heap.size → w'.heap[k]? = w.heap[k]?
  lies : ∃ n, ∀ (κ : Inj) (b : Nat), Le ι κ → κ b = some ⟨w.heap.size, 0, n⟩ → VR κ (rf.at b) z ∧ BR P κ ⟨w.heap.size, 0, n⟩ w' blk

theorem push_old {w : World} {o : Obj} {k : Nat} (h : k < w.heap.size) : (w.heap.push o)[k]? = w.heap[k]? := by
  rw [Array.getElem?_push, if_neg (by omega)]

theorem push_new {w : World} {o : Obj} : (w.heap.push o)[w.heap.size]? = some o := by simp

/-- a new row of cells -/
theorem row_lies {w : World} {d : Nat} {el : TypeId} {cs : List AV} {cs' : Array Value} {rf : Ref} {z : Value} (hc : VRL ι cs cs'.toList)
    (hz : ∀ (κ : Inj) b, Le ι κ → κ b = some ⟨w.heap.size, 0, cs'.size⟩ → VR κ (rf.at b) z) :
    Made P ι w { w with heap := w.heap.push (.cells cs' el), drawn := d } rf (.row true (some 0) el cs) z where
  os := rfl
  tape := rfl
  output := rfl
  size := by simp
  old := fun k hk => push_old hk
  lies := ⟨cs'.size, fun κ b hκ hb => ⟨hz κ b hκ hb, by
    simp only [BR]
    have hl := VRL.length hc
    rw [Array.length_toList] at hl
    refine ⟨cs', (0, 0), push_new, rfl, by omega, ?_, fun _ => ⟨.inl rfl, Nat.zero_mod _⟩⟩
    rw [List.drop_zero, ← hl, ← Array.length_toList, List.take_length]
    exact VRL.mono hκ _ _ hc⟩⟩

theorem ptr_at {w : World} {n : Nat} : ∀ (κ : Inj) (b : Nat), Le ι κ → κ b = some ⟨w.heap.size, 0, n⟩ → VR κ (Ref.ptr.at b) (.pointer (some ⟨w.heap.size, 0, none⟩)) := fun κ b _ hb => by
  simp only [Ref.at, VR]; exact ⟨_, hb, rfl⟩

theorem slc_at {w : World} {n l c c' e : Nat} {ex : Bool} (h1 : if ex then c' = c else c ≤ c') (h2 : c' * e ≤ n) (h3 : l ≤ c) : ∀ (κ : Inj) (b : Nat), Le ι κ → κ b = some ⟨w.heap.size, 0, n⟩ →
    VR κ ((Ref.slc l c e ex).at b) (.slice (some ⟨w.heap.size, 0, none⟩) l c') := fun κ b _ hb => by
  simp only [Ref.at, VR]; exact ⟨_, 0, c', hb, rfl, .inr rfl, h1, by simpa using h2, h3⟩

set_option maxHeartbeats 2000000 in
theorem evNew_run {ρ : Operand → Option AV} {ev : Operand → Value} {o : Oper} {rf : Ref} {blk : Blk} (hρ : OpdR ι ρ ev o) (h : evNew P ρ o = some (rf, blk)) (w : World) :
    ∃ z w', (execOp ev o).run P w = .ok (.value z) w' ∧ Made P ι w w' rf blk z := by
  unfold OpdR at hρ
  unfold evNew at h
  split at h
  · -- alloc
    rename_i el hop
    simp only [Option.map_eq_some_iff, Prod.mk.injEq] at h
    obtain ⟨z, hz, rfl, rfl⟩ := h
    obtain ⟨zv, hzr, hzv, _⟩ := run_zeroAV hz
    exact ⟨_, _, by simp [execOp, hop, Instr.alloc, hzr, newVar, newRow]; rfl, row_lies (VR.cells (hzv ι)) ptr_at⟩
  · -- box
    rename_i el x hop
    simp only [Option.map_eq_some_iff, Prod.mk.injEq] at h
    obtain ⟨v, hx, rfl, rfl⟩ := h
    exact ⟨_, _, by simp [execOp, hop, Instr.box, newVar, newRow]; rfl, row_lies (VR.cells (hρ x (by simp [hop, Op.operands]) _ hx)) ptr_at⟩
  · -- buildSlice
    rename_i t len parts hop
    split at h
    · rename_i elem ps hu hps
      split at h
      · rename_i s z hs hz
        split at h
        · rename_i hc
          simp only [Bool.and_eq_true, decide_eq_true_eq] at hc
          obtain ⟨c1, c2⟩ := hc
          simp only [Option.map_eq_some_iff, Prod.mk.injEq] at h
          obtain ⟨cs, hf, rfl, rfl⟩ := h
          obtain ⟨zv, hzr, hzv, _⟩ := run_zeroAV hz
          have hcells := VR.cells (hzv ι)
          have hmem : ∀ x ∈ parts.toList.map (·.2), ∀ a, ρ x = some a → VR ι a (ev x) := fun x hx => hρ x (by simp only [hop, Op.operands]; simpa using hx)
          obtain ⟨hl, hr⟩ := partVals_rel hmem hps
          have hzero : VRL ι (repCells z.cells len) ((Array.range (len * s)).map ((if len * s = 0 then #[] else zv.cells)[· % (if len * s = 0 then #[] else zv.cells).size]!)).toList := by
            by_cases h0 : len * s = 0
            · rw [h0]
              have : (repCells z.cells len) = [] := by
                apply List.eq_nil_of_length_eq_zero
                rw [repCells_length, c2]; exact h0
              rw [this]
              simp [VRL.nil_iff]
            · rw [if_neg h0]; exact zeros_rel hcells len s c2
          obtain ⟨cs', h1, h2, h3⟩ := fill_run (pl' := fun i => some (i * s, s)) (fun i x hx => hx) ps _ _ cs _ hl hr hzero hf
          have hparts : (parts.map fun (i, x) => (i, ev x)).toList = parts.toList.map fun x => (x.1, ev x.2) := by simp
          have hnot : ¬ (len * s > 2 ^ 24) := by omega
          have hrun : (Instr.buildSlice t len (parts.map fun (i, x) => (i, ev x))).run P w = .ok (.slice (some ⟨w.heap.size, 0, none⟩) len len) { w with heap := w.heap.push (.cells cs' elem) } := by
            simp only [Instr.buildSlice, Sem.run_bind, run_und w hu, Result.andThen_ok, run_sizeOf' w hs, hparts]
            rw [if_neg hnot]
            by_cases h0 : len * s = 0
            · rw [if_pos h0] at h1 ⊢
              rw [h0] at h1 ⊢
              simp [Array.range_zero'] at h1 ⊢
              simp [h1, newRow]
            · rw [if_neg h0] at h1 ⊢
              simp only [Sem.run_bind, hzr, Sem.run_pure, Result.andThen_ok, h1, newRow, run_newObj]
          refine ⟨_, _, ?_, row_lies (d := w.drawn) h2 (slc_at (c' := len) (by simp) ?_ (Nat.le_refl _))⟩
          · simp only [execOp, hop, Sem.run_bind, hrun, Result.andThen_ok, Sem.run_pure]
          · rw [h3]; simp
        · cases h
      · cases h
    · cases h
  · -- string to bytes
    rename_i src dst x hop
    split at h
    · rename_i d e s hs hd hx
      split at h
      · rename_i he
        simp only [Option.some.injEq, Prod.mk.injEq] at h
        obtain ⟨rfl, rfl⟩ := h
        have e' := VR.str_inv (hρ x (by simp [hop, Op.operands]) _ hx)
        -- the capacity that the tape gives
        obtain ⟨cap, hcap, hchoose⟩ : ∃ cap, s.length ≤ cap ∧ (choose (.appendCap s.length 0 e)).run P w = .ok cap { w with drawn := w.drawn + 1 } := by
          refine ⟨_, ?_, by simp only [run_choose, Question.forced, Bool.false_eq_true, if_false]; rfl⟩
          simp only [Question.cut]; omega
        let cells : Array Value := (s.toArray.map fun b => Value.int .u8 b.toNat) ++ Array.replicate (cap - s.length) (.int .u8 0)
        have hsize : cells.size = cap := by simp [cells]; omega
        let w1 : World := { w with drawn := w.drawn + 1, heap := w.heap.push (.cells cells e) }
        have hshape : w1.shape? w.heap.size = some (e, cap) := by simp [w1, World.shape?, hsize]
        refine ⟨.slice (some ⟨w.heap.size, 0, none⟩) s.length cap, w1.freeze ⟨w.heap.size, cap, none⟩ 1, ?_, ?_⟩
        · simp only [execOp, hop, e', convert, Sem.run_bind, run_und w hs, run_und w hd, Result.andThen_ok, run_und w he, Conv.stringToBytes, ba_size, hchoose, newRow, run_newObj, Sem.run_pure, markStringish, run_shape]
          have : w1.shape? w.heap.size = some (e, cap) := hshape
          simp only [w1, cells] at this
          simp only [this, Sem.run_bind, Result.andThen_ok, run_freeze, Sem.run_pure]
          rfl
        · have hz : w1.freeze ⟨w.heap.size, cap, none⟩ 1 = { w1 with heap := w1.heap.modify w.heap.size fun
              | .cells c elem (lo, hi) => .cells c elem (if lo == hi then (cap, cap + 1) else (min lo cap, max hi (cap + 1)))
              | o => o } := by simp only [World.freeze]; rfl
          refine ⟨by rw [hz], by rw [hz], by rw [hz], by rw [hz]; simp [w1], fun k hk => ?_, cap, fun κ b hκ hb => ⟨slc_at (by simpa using hcap) (by simp) (Nat.le_refl _) κ b hκ hb, ?_⟩⟩
          · rw [hz]
            simp only [Array.getElem?_modify]
            rw [if_neg (by omega)]
            exact push_old hk
          · simp only [BR]
            refine ⟨cells, (cap, cap + 1), ?_, hsize, by simp; omega, ?_, fun _ => ⟨by simp [FzOk, hsize], Nat.zero_mod _⟩⟩
            · rw [hz]
              simp only [Array.getElem?_modify, if_true]
              have : w1.heap[w.heap.size]? = some (.cells cells e) := push_new
              rw [this]
              rfl
            · refine VRL.of_get ?_ ?_
              · simp [cells]
              · intro i a v ha hv
                simp only [List.getElem?_map, Option.map_eq_some_iff] at ha
                obtain ⟨c, hc, rfl⟩ := ha
                have hi : i < s.length := (List.getElem?_eq_some_iff.1 hc).1
                simp only [List.drop_zero, List.length_map, List.getElem?_take, hi, if_true, cells, Array.toList_append, Array.toList_map] at hv
                rw [List.getElem?_append_left (by simpa using hi)] at hv
                simp only [List.getElem?_map, Option.map_eq_some_iff] at hv
                obtain ⟨c', hc', rfl⟩ := hv
                rw [hc] at hc'
                injection hc' with hc'
                subst hc'
                exact VR.int_mk
      · cases h
    · cases h
  · -- makeMap
    rename_i t hop
    simp only [Option.some.injEq, Prod.mk.injEq] at h
    obtain ⟨rfl, rfl⟩ := h
    refine ⟨.map (some w.heap.size), { w with heap := w.heap.push (.map #[] 0) }, by simp [execOp, hop, Instr.makeMap], rfl, rfl, rfl, by simp, fun k hk => push_old hk, 0, fun κ b hκ hb => ⟨by simp only [Ref.at, VR]; exact ⟨_, hb, rfl⟩, ?_⟩⟩
    simp only [BR]
    exact ⟨#[], 0, push_new, rfl, fun i kv e h => by simp at h, by simp, fun e he => by simp at he⟩
  · rename_i t x hop
    split at h
    · rename_i kt et k n hu hx
      simp only [Option.some.injEq, Prod.mk.injEq] at h
      obtain ⟨rfl, rfl⟩ := h
      have e' := VR.int_inv (hρ x (by simp [hop, Op.operands]) _ hx)
      refine ⟨.map (some w.heap.size), { w with heap := w.heap.push (.map #[] 0) }, by simp [execOp, hop, Instr.makeMap, run_und w hu, e', asInt, asIntOf], rfl, rfl, rfl, by simp, fun k hk => push_old hk, 0, fun κ b hκ hb => ⟨by simp only [Ref.at, VR]; exact ⟨_, hb, rfl⟩, ?_⟩⟩
      simp only [BR]
      exact ⟨#[], 0, push_new, rfl, fun i kv e h => by simp at h, by simp, fun e he => by simp at he⟩
    · cases h
  · -- makeSlice
    rename_i t l c hop
    split at h
    · rename_i elem l' c' hu hl hc
      split at h
      · rename_i s bytes z hs hb hz
        split at h
        · rename_i hcond
          simp only [Bool.and_eq_true, decide_eq_true_eq] at hcond
          obtain ⟨⟨⟨c1, c2⟩, c3⟩, c4⟩ := hcond
          simp only [Option.some.injEq, Prod.mk.injEq] at h
          obtain ⟨rfl, rfl⟩ := h
          obtain ⟨a, ha, hna⟩ := Option.bind_eq_some_iff.1 hl
          obtain ⟨k1, rfl⟩ := natOf_int hna
          obtain ⟨b, hb', hnb⟩ := Option.bind_eq_some_iff.1 hc
          obtain ⟨k2, rfl⟩ := natOf_int hnb
          have e1 := VR.int_inv (hρ l (by simp [hop, Op.operands]) _ ha)
          have e2 := VR.int_inv (hρ c (by simp [hop, Op.operands]) _ hb')
          obtain ⟨i, zv, hi, hzi, hzv⟩ := zeroAV_info hz
          have hbytes : i.bytes = bytes := by simpa [hi] using hb
          have hsize : i.size = s := by unfold csize at hs; simpa [hi] using hs
          have hcells := VR.cells (VR.of_toAV (ι := ι) hzv)
          have hb2 : (i.bytes : Int) * c' ≤ 281474976710656 := by
            rw [hbytes]
            have h1 : bytes * c' ≤ 281474976710656 := Nat.le_trans c3 (by decide)
            rw [← Int.natCast_mul]
            exact Int.ofNat_le.2 h1
          have hrun := run_make (P := P) w t elem i zv hu hi hzi k1 k2 l' c' (by omega) (by omega) hb2 (by omega)
          simp only [Int.toNat_natCast, madeCells, hsize] at hrun
          refine ⟨_, _, ?_, row_lies (d := w.drawn) (zeros_rel hcells c' s c4) (slc_at (c' := c') (by simp) ?_ c1)⟩
          · simp only [execOp, hop, e1, e2, Sem.run_bind, hrun, Result.andThen_ok, Sem.run_pure]; rfl
          · rw [Array.size_map, Array.size_range]; exact Nat.le_refl _
        · cases h
      · cases h
    · cases h
  · cases h

end
end Go.Proofs.YtcbileongahhiaaGreat.Ev
