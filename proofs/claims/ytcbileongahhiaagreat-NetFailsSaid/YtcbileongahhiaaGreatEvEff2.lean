/- The operations that write memory: the theorem. -/
import Derived.Test.YtcbileongahhiaaGreatEvApp
namespace Go.Proofs.YtcbileongahhiaaGreat.Ev
open Go
set_option linter.unusedVariables false
set_option linter.unusedSimpArgs false

section
variable {P : Program} {B0 : Nat} {ι : Inj} {m : Mem} {w : World}

theorem MR.drew (h : MR P ι m w) : MR P ι m w.drew := fun b p x hb hx => (h b p x hb hx).mono (Le.refl _) rfl

theorem appNew_run (hm : MR P ι m w) {argTypes : Array TypeId} {elem : TypeId} {i : TypeInfo} {esz n : Nat} {zeros : Bool} {x : AV} {x' : Value} {new : List AV} (rx : VR ι x x') (hi : P.info? elem = some i) (hs : i.size = esz)
    (h : appNew P m elem esz i.bytes zeros x = some (n, new)) :
    AppArg P i zeros n x' ∧ ∃ new' : Array Value, (appCells P elem esz n zeros x').run P w = .ok new' w ∧ VRL ι new new'.toList ∧ new'.size = n * esz := by
  unfold appNew at h
  unfold AppArg appCells
  cases zeros with
  | true =>
    simp only [if_true] at h ⊢
    split at h
    · rename_i n' z hn hz
      split at h
      · rename_i hc
        simp only [Bool.and_eq_true, decide_eq_true_eq] at hc
        simp only [Option.some.injEq, Prod.mk.injEq] at h
        obtain ⟨rfl, rfl⟩ := h
        obtain ⟨k, rfl⟩ := natOf_int hn
        obtain ⟨zv, hzr, hzv, _⟩ := run_zeroAV hz
        have hcells := VR.cells (hzv ι)
        refine ⟨⟨⟨k, VR.int_inv rx⟩, hc.1.2, hc.1.1⟩, ?_⟩
        simp only [Bool.not_true, Bool.false_eq_true, if_false]
        by_cases h0 : n' * esz = 0
        · rw [if_pos h0]
          refine ⟨#[], rfl, ?_, by simp [h0]⟩
          have : repCells z.cells n' = [] := List.eq_nil_of_length_eq_zero (by rw [repCells_length, hc.2]; exact h0)
          rw [this]; exact VRL.nil_iff.2 rfl
        · rw [if_neg h0]
          refine ⟨Builtin.zeroCells zv.cells n', by simp [hzr], zeroCells_rel hcells n' esz hc.2, ?_⟩
          have := VRL.length hcells
          rw [Array.length_toList] at this
          simp [Builtin.zeroCells, this, hc.2]
      · cases h
    · cases h
  | false =>
    simp only [Bool.false_eq_true, if_false] at h ⊢
    obtain ⟨n', hn, h⟩ := Option.bind_eq_some_iff.1 h
    simp only [Option.map_eq_some_iff, Prod.mk.injEq] at h
    obtain ⟨cs, hcs, rfl, rfl⟩ := h
    refine ⟨fun w => lenAV_run rx hn w, ?_⟩
    simp only [Bool.not_false, if_true]
    exact src_run hm rx hcs

/-- a new row of which the first cells are known -/
theorem row_lies_more {d k : Nat} {el : TypeId} {cs : List AV} {cs' : Array Value} {rf : Ref} {z : Value} (hl : cs.length ≤ cs'.size) (hc : VRL ι cs (cs'.toList.take cs.length))
    (hz : ∀ (κ : Inj) b, Le ι κ → κ b = some ⟨w.heap.size, 0, cs'.size⟩ → VR κ (rf.at b) z) :
    Made P ι w { w with heap := w.heap.push (.cells cs' el), drawn := d } rf (.row true (some k) el cs) z where
  os := rfl
  tape := rfl
  output := rfl
  size := by simp
  old := fun k hk => push_old hk
  lies := ⟨cs'.size, fun κ b hκ hb => ⟨hz κ b hκ hb, by
    simp only [BR]
    refine ⟨cs', (0, 0), push_new, rfl, by omega, ?_, fun _ => ⟨.inl rfl, Nat.zero_mod _⟩⟩
    rw [List.drop_zero]
    exact VRL.mono hκ _ _ hc⟩⟩

theorem grow_made {elem : TypeId} {esz need cap d : Nat} (k : Nat) {oldA newA : List AV} {old new : Array Value} {zv : Value} (ho : VRL ι oldA old.toList) (hn : VRL ι newA new.toList) (hlen : old.size + new.size = need * esz) (hcap : need ≤ cap) (hz : zv.cells.size = esz) :
    Made P ι w { w with drawn := d, heap := w.heap.push (.cells (old ++ new ++ Builtin.zeroCells zv.cells (cap - need)) elem) } (.slc need need esz false) (.row true (some k) elem (oldA ++ newA)) (.slice (some ⟨w.heap.size, 0, none⟩) need cap) := by
  have l1 := VRL.length ho
  have l2 := VRL.length hn
  rw [Array.length_toList] at l1 l2
  have hzs : (Builtin.zeroCells zv.cells (cap - need)).size = (cap - need) * esz := by rw [size_zeroCells, hz]
  have hmul : need * esz + (cap - need) * esz = cap * esz := by rw [← Nat.add_mul]; congr 1; omega
  refine row_lies_more (by simp; omega) ?_ (slc_at (by simpa using hcap) ?_ (Nat.le_refl _))
  · have : (old ++ new ++ Builtin.zeroCells zv.cells (cap - need)).toList.take (oldA ++ newA).length = old.toList ++ new.toList := by
      rw [Array.toList_append, Array.toList_append, List.length_append, ← l1, ← l2]
      rw [List.take_append_of_le_length (by simp)]
      rw [List.take_of_length_le (by simp)]
    rw [this]
    exact VRL.append ho hn
  · simp only [Array.size_append, hzs]
    omega

theorem nil_of_size {a : Array Value} (h : a.size = 0) : a = #[] := Array.eq_empty_of_size_eq_zero h

set_option maxHeartbeats 1000000 in
theorem append_run (hR : Rel P B0 ι m w) {argTypes : Array TypeId} {ty : TypeId} {s x : AV} {s' x' : Value} {r : AV} {m' : Mem} (rs : VR ι s s') (rx : VR ι x x') (h : evAppend P m argTypes s x = some (r, m')) :
    ∃ z w' κ, (Builtin.append_ argTypes ty #[s', x']).run P w = .ok z w' ∧ Step P B0 ι m w κ m' w' ∧ VR κ r z := by
  unfold evAppend at h
  split at h
  · rename_i elem zeros hu hz
    obtain ⟨sType, h0, hu⟩ := Option.bind_eq_some_iff.1 hu
    split at h
    · rename_i esz bytes hs hb
      obtain ⟨i, hi, hsz⟩ := csize_info hs
      have hbytes : i.bytes = bytes := by simpa [hi] using hb
      subst hbytes
      obtain ⟨⟨n, new⟩, hnew, h⟩ := Option.bind_eq_some_iff.1 h
      simp only at h
      unfold appRow at h
      split at h
      · -- nil
        have es := VR.nils_inv rs
        subst es
        split at h
        · rename_i hn0
          subst hn0
          simp only [Option.some.injEq, Prod.mk.injEq] at h
          obtain ⟨rfl, rfl⟩ := h
          obtain ⟨ha, new', hr, hv, hl⟩ := appNew_run (argTypes := argTypes) hR.blk rx hi hsz hnew
          exact ⟨_, w, ι, append_room h0 hu hi hsz hz ha (by simp) hr (fun a e => by cases e) (fun _ => rfl), Step.refl hR, by simp only [VR]⟩
        · rename_i hn0
          split at h
          · rename_i hc
            simp only [Bool.and_eq_true, decide_eq_true_eq, Option.any_eq_true] at hc
            obtain ⟨⟨c1, c2⟩, z, hzz, hzl⟩ := hc
            obtain ⟨zv, hzr, hzv, _⟩ := run_zeroAV hzz
            have hzs : zv.cells.size = esz := by have := VRL.length (VR.cells (hzv ι)); rw [Array.length_toList] at this; omega
            simp only [Option.some.injEq, Prod.mk.injEq] at h
            obtain ⟨rfl, rfl⟩ := h
            obtain ⟨ha, new', hr, hv, hl⟩ := appNew_run (argTypes := argTypes) hR.blk.drew rx hi hsz hnew
            obtain ⟨cap, hcap, hrun⟩ := append_grow (ty := ty) (w := w) (base := none) (sLen := 0) (sCap := 0) (old := #[]) h0 hu hi hsz hz ha (by omega) (by simpa using c1) (by omega) hzr (by simp [Builtin.firstCells]) hr
            rw [Nat.zero_add] at hcap hrun
            have hM := grow_made (P := P) (k := 0) (w := w) (d := w.drawn + 1) (elem := elem) (need := n) (cap := cap) (esz := esz) (VRL.nil_iff.2 (rfl : (#[] : Array Value).toList = [])) hv (by simp [hl]) hcap hzs
            obtain ⟨κ, st, rv⟩ := hM.step hR rfl
            exact ⟨_, _, κ, hrun, st, rv⟩
          · cases h
      · rename_i b off len cap e ex _
        split at h
        · cases h
        · rename_i he
          have he : e = esz := Classical.not_not.1 he
          subst he
          obtain ⟨p, co, c', hp, es, hco, hcap, hpsz, hlen⟩ := VR.slc_inv rs
          subst es
          split at h
          · rename_i hroom
            have hle : cap ≤ c' := by split at hcap <;> omega
            split at h
            · rename_i hn0
              subst hn0
              simp only [Option.some.injEq, Prod.mk.injEq] at h
              obtain ⟨rfl, rfl⟩ := h
              obtain ⟨ha, new', hr, hv, hl⟩ := appNew_run (argTypes := argTypes) hR.blk rx hi hsz hnew
              have hnil : new' = #[] := nil_of_size (by simpa using hl)
              subst hnil
              refine ⟨_, w, ι, append_room h0 hu hi hsz hz ha (by omega) hr (fun a e => by simp [storeCells]) (fun e => by cases e), Step.refl hR, ?_⟩
              simpa using rs
            · rename_i hn0
              simp only [Option.map_eq_some_iff, Prod.mk.injEq] at h
              obtain ⟨m2, hst, rfl, rfl⟩ := h
              obtain ⟨ha, new', hr, hv, hl⟩ := appNew_run (argTypes := argTypes) hR.blk rx hi hsz hnew
              have hco : co = p.off + off := by rcases hco with hh | hh; · omega
                                                · exact hh
              obtain ⟨w', hrun, st⟩ := store_run hR hp hst hv
              refine ⟨_, w', ι, append_room h0 hu hi hsz hz ha (by omega) hr (fun a e' => ?_) (fun e => by cases e), st, ?_⟩
              · injection e' with e'
                subst e'
                rw [Addr.add_lit, hco, Nat.add_assoc]
                exact hrun
              · simp only [VR]
                exact ⟨p, co, c', hp, rfl, .inr hco, hcap, hpsz, hroom⟩
          · rename_i hroom
            split at h
            · rename_i hc
              simp only [Bool.and_eq_true, decide_eq_true_eq, Option.any_eq_true] at hc
              obtain ⟨⟨c1, c2⟩, z, hzz, hzl⟩ := hc
              obtain ⟨zv, hzr, hzv, _⟩ := run_zeroAV hzz
              have hzs : zv.cells.size = e := by have := VRL.length (VR.cells (hzv ι)); rw [Array.length_toList] at this; omega
              cases hold : m.cells b off (len * e) with
              | none => simp [hold] at h
              | some old =>
                simp only [hold] at h
                obtain ⟨old', hol, hor, _, hcell, _⟩ := hR.blk.cells hp hold
                -- what the slice holds, wherever it is loaded
                have hfirst : ∀ w2, w2.heap = w.heap → (Builtin.firstCells e len (.slice (some ⟨p.blk, co, none⟩) len c')).run P w2 = .ok old'.toArray w2 := by
                  intro w2 hw2
                  have hm2 : MR P ι m w2 := fun b p x hb hx => (hR.blk b p x hb hx).mono (Le.refl _) (by rw [hw2])
                  obtain ⟨old2, hol2, _, hrun2, hcell2, _⟩ := hm2.cells hp hold
                  have heq : old2 = old' := by
                    apply List.ext_getElem?
                    intro j
                    by_cases hj : j < len * e
                    · have a1 := hcell j _ (List.getElem?_eq_getElem (by omega))
                      have a2 := hcell2 j _ (List.getElem?_eq_getElem (by omega))
                      simp only [World.cell?, hw2] at a2
                      simp only [World.cell?] at a1
                      rw [a1] at a2
                      injection a2 with a2
                      rw [List.getElem?_eq_getElem (by omega), List.getElem?_eq_getElem (by omega), a2]
                    · rw [List.getElem?_eq_none (by omega), List.getElem?_eq_none (by omega)]
                  simp only [Builtin.firstCells]
                  rcases hco with hh | hh
                  · have : len = 0 := by split at hcap <;> omega
                    subst this
                    have : old' = [] := by cases old' <;> simp_all
                    subst this
                    simp [loadCells, loadCellsFrom]
                  · rw [hh, ← heq]; exact hrun2
                split at h
                · -- the capacity is known
                  rename_i hex
                  simp only [hex, if_true] at hcap
                  simp only [Option.some.injEq, Prod.mk.injEq] at h
                  obtain ⟨rfl, rfl⟩ := h
                  obtain ⟨ha, new', hr, hv, hl⟩ := appNew_run (argTypes := argTypes) hR.blk.drew rx hi hsz hnew
                  obtain ⟨cap2, hcap2, hrun⟩ := append_grow (ty := ty) (w := w) (base := some ⟨p.blk, co, none⟩) (sLen := len) (sCap := c') h0 hu hi hsz hz ha (by omega) c1 c2 hzr (hfirst _ rfl) hr
                  have hM := grow_made (P := P) (k := 0) (w := w) (d := w.drawn + 1) (elem := elem) (need := len + n) (cap := cap2) (esz := e) (old := old'.toArray) hor hv (by simp [hl, hol, Nat.add_mul]) hcap2 hzs
                  obtain ⟨κ, st, rv⟩ := hM.step hR rfl
                  exact ⟨_, _, κ, hrun, st, rv⟩
                · -- it isn't
                  rename_i hex
                  have hex : ex = false := by simpa using hex
                  simp only [hex, Bool.false_eq_true, if_false] at hcap
                  split at h
                  · rename_i fz el cs hg
                    split at h
                    · rename_i hc
                      simp only [Bool.and_eq_true, decide_eq_true_eq, Bool.or_eq_true] at hc
                      obtain ⟨⟨⟨⟨⟨rfl, hflat⟩, hfz⟩, hsome⟩, hoff⟩, hal⟩ := hc
                      obtain ⟨k, rfl⟩ := Option.isSome_iff_exists.1 hsome
                      simp only [Option.getD_some] at hfz
                      simp only [Option.some.injEq, Prod.mk.injEq] at h
                      obtain ⟨rfl, rfl⟩ := h
                      obtain ⟨own2, fz2, el2, all2, hg2, hle2, hold2⟩ := cells_get hold
                      rw [hg] at hg2
                      injection hg2 with hg2
                      injection hg2 with _ _ _ hg2
                      subst hg2
                      by_cases hfit : len + n ≤ c'
                      · -- in place
                        have hco : co = p.off + off := by rcases hco with hh | hh; · omega
                                                          · exact hh
                        subst hco
                        obtain ⟨ha, new', hr, hv, hl⟩ := appNew_run (argTypes := argTypes) hR.blk rx hi hsz hnew
                        obtain ⟨c, fr, hh, hcs, hcle, hcr, hown⟩ := hR.blk.row hp hg
                        have hmul : (len + n) * e ≤ c' * e := Nat.mul_le_mul_right _ hfit
                        rw [Nat.add_mul] at hmul
                        have hnl := VRL.length hv
                        rw [Array.length_toList] at hnl
                        have hnf : ∀ j, 0 ≤ j → j < 0 + new'.toList.length → ¬ (fr.1 ≤ p.off + off + len * e + j ∧ p.off + off + len * e + j < fr.2) := by
                          intro j _ _
                          have := (hown rfl).1
                          simp only [FzOk] at this
                          rcases hoff with h1 | h1
                          · omega
                          · injection h1 with h1; omega
                        have hrun := storeCells_run (P := P) (k := p.blk) (o := p.off + off + len * e) new'.toList 0 w c hh (by simp only [Array.length_toList]; omega) hnf (flats_one hv hflat)
                        rw [Nat.add_zero] at hrun
                        have hss : (splice c (p.off + off + len * e) new'.toList).size = c.size := splice_size (by simp only [Array.length_toList]; omega)
                        have hkb : p.blk < w.heap.size := (hR.lt b p hp).2
                        have hX : VRL ι (cs.take (off + len * e) ++ new) (((splice c (p.off + off + len * e) new'.toList).toList.drop p.off).take (cs.take (off + len * e) ++ new).length) := by
                          have e1 : ((splice c (p.off + off + len * e) new'.toList).toList.drop p.off).take (cs.take (off + len * e) ++ new).length = (((c.toList.drop p.off).take cs.length).take (off + len * e)) ++ new'.toList := by
                            have hcl : c.toList.length = c.size := by simp
                            apply List.ext_getElem?
                            intro j
                            simp only [splice, List.getElem?_take, List.getElem?_drop, List.getElem?_append, List.length_append, List.length_take, List.length_drop, List.append_assoc, Array.length_toList]
                            rw [Array.length_toList] at hcl
                            have t1 : min (p.off + off + len * e) c.size = p.off + off + len * e := by omega
                            have t2 : min (off + len * e) cs.length = off + len * e := by omega
                            have t3 : min (off + len * e) (min cs.length (c.size - p.off)) = off + len * e := by omega
                            rw [t1, t2, t3]
                            by_cases g1 : j < off + len * e
                            · have a1 : j < off + len * e + new.length := by omega
                              have a2 : p.off + j < p.off + off + len * e := by omega
                              have a3 : j < cs.length := by omega
                              simp [g1, a1, a2, a3]
                            · have a2 : ¬ (p.off + j < p.off + off + len * e) := by omega
                              have a4 : p.off + j - (p.off + off + len * e) = j - (off + len * e) := by omega
                              by_cases g2 : j < off + len * e + new.length
                              · have a5 : j - (off + len * e) < new'.size := by omega
                                simp [g1, g2, a2, a4, a5]
                              · have a5 : ¬ (j - (off + len * e) < new'.size) := by omega
                                simp [g1, g2, a5]
                          rw [e1]
                          exact VRL.append (VRL.take _ hcr) hv
                        have st1 := Step.write (ob := .cells (splice c (p.off + off + len * e) new'.toList) el fr) (x1 := .row true (some k) el (cs.take (off + len * e) ++ new)) hR hp hg rfl (by
                          simp only [BR]
                          refine ⟨_, fr, by simp [hkb], by rw [hss, hcs], ?_, hX, fun _ => ?_⟩
                          · rw [hss]; simp; omega
                          · rw [hss]; exact hown rfl)
                        have hgb : (m.set b (.row true (some k) el (cs.take (off + len * e) ++ new))).get b = some (.row true (some k) el (cs.take (off + len * e) ++ new)) := by rw [Mem.get_set, if_pos rfl]
                        have st2 := Step.move (off := off) st1.rel hp hgb (by simp; omega) (by rw [cellsOf_eq hs]; exact hal) hoff
                        rw [kill_set] at st2
                        have hdrop : (cs.take (off + len * e) ++ new).drop off = old ++ new := by
                          rw [hold2, List.drop_append_of_le_length (by simp; omega), List.drop_take]
                          congr 2
                          omega
                        rw [hdrop] at st2
                        refine ⟨_, _, _, append_room h0 hu hi hsz hz ha hfit hr (fun a e' => ?_) (fun e => by cases e), st1.trans st2, ?_⟩
                        · injection e' with e'
                          subst e'
                          rw [Addr.add_lit]
                          exact hrun
                        · simp only [VR]
                          exact ⟨⟨p.blk, p.off + off, p.size⟩, p.off + off, c', Inj.put_same _ _ _, rfl, .inr rfl, by simpa using hfit, hpsz, Nat.le_refl _⟩
                      · -- in a new row
                        have st1 := Step.kill hR hp
                        obtain ⟨ha, new', hr, hv, hl⟩ := appNew_run (argTypes := argTypes) hR.blk.drew rx hi hsz hnew
                        obtain ⟨cap2, hcap2, hrun⟩ := append_grow (ty := ty) (w := w) (base := some ⟨p.blk, co, none⟩) (sLen := len) (sCap := c') h0 hu hi hsz hz ha hfit c1 c2 hzr (hfirst _ rfl) hr
                        have hM := grow_made (P := P) (k := k) (w := w) (d := w.drawn + 1) (elem := el) (need := len + n) (cap := cap2) (esz := e) (old := old'.toArray) hor hv (by simp [hl, hol, Nat.add_mul]) hcap2 hzs
                        obtain ⟨κ, st, rv⟩ := hM.step st1.rel rfl
                        exact ⟨_, _, κ, hrun, st1.trans st, rv⟩
                    · cases h
                  · cases h
            · cases h
      · cases h
    · cases h
  · cases h

end
end Go.Proofs.YtcbileongahhiaaGreat.Ev
