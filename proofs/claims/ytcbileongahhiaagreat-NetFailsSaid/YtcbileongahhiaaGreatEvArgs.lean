/- What a slice argument is: a row of the world before, and an abstract row that stands for it. -/
import Derived.Test.YtcbileongahhiaaGreatEvLib
import Derived.ChangeArms
import Derived.DataReads
namespace Go.Proofs.YtcbileongahhiaaGreat.Ev
open Go Go.Proofs
set_option linter.unusedVariables false
set_option linter.unusedSimpArgs false

theorem addr_add {blk off n : Nat} : (⟨blk, off, none⟩ : Addr).add n = ⟨blk, off + n, none⟩ := by
  unfold Addr.add
  split
  · rename_i h; rw [h]; rfl
  · rfl

theorem rowAt_le {P : Program} {fits : TypeId → Bool} {d : Nat} {e : TypeId} {count off n : Nat} (h : rowAt P fits d e count off n = true) : off ≤ count * P.cellsOf e := by
  cases d with
  | zero => simp [rowAt] at h
  | succ d =>
    unfold rowAt at h
    by_cases hs : P.cellsOf e = 0
    · simp [hs] at h
    · simp only [hs, if_false, Bool.or_eq_true, Bool.and_eq_true, beq_iff_eq, decide_eq_true_eq] at h
      have h0 := Nat.div_add_mod off (P.cellsOf e)
      rcases h with ⟨⟨h1, h2⟩, _⟩ | ⟨h1, _⟩
      · have h3 : off / P.cellsOf e ≤ count := by omega
        have h4 := Nat.mul_le_mul_left (P.cellsOf e) h3
        rw [Nat.mul_comm count]
        omega
      · have h3 : off / P.cellsOf e + 1 ≤ count := by omega
        have h4 := Nat.mul_le_mul_left (P.cellsOf e) h3
        have h5 := Nat.mod_lt off (Nat.pos_of_ne_zero hs)
        rw [Nat.mul_add, Nat.mul_one] at h4
        rw [Nat.mul_comm count]
        omega

theorem lies_le {P : Program} : ∀ {d : Nat} {e : TypeId} {count off : Nat} {u : TypeId} {n : Nat}, liesAt P d e count off u n = true → off ≤ count * P.cellsOf e
  | 0, _, _, _, _, _, h => by simp [liesAt] at h
  | d + 1, e, count, off, u, n, h => by
    unfold liesAt at h
    rw [Bool.or_eq_true] at h
    rcases h with h | h
    · exact rowAt_le h
    · split at h
      · exact lies_le h
      · cases h

theorem open_row {H : Type} {enc : TypeId × Value → H} {P : Program} {w : World} {base : Nat} {t e : TypeId} {ce : Nat} {v : Value} {fuel : Nat} {x : DataW H × List MemPlace} (ht : P.underlying t = some (.slice e)) (hc : P.cellsOf e = ce) (hce : 0 < ce)
    (hv : Cell.okWide P w .any base t v) (h : DataW.trod enc P w 0 (fun _ => true) true fuel t [v] = some x) :
    v = .slice none 0 0 ∨ ∃ blk off len cap c el fr n, v = .slice (some ⟨blk, off, none⟩) len cap ∧ len ≤ cap ∧ w.heap[blk]? = some (.cells c el fr) ∧ off + cap * ce ≤ c.size ∧
      ∀ i, i < len → ∃ y, DataW.trod enc P w 0 (fun _ => true) true n e ((c.toList.drop (off + i * ce)).take ce) = some y := by
  rcases DataW.trod_slice ht h with ⟨hcs, _⟩ | ⟨a, len, cap, elems, rest, n, rfl, hcs, _, _, hle, _, hel, hread, hsp, _⟩
  · injection hcs with hcs
    exact .inl hcs
  · injection hcs with hcs
    subst hcs
    have hok : Cell.ok P w .any base t (.slice (some a) len cap) := by
      unfold Cell.okWide at hv
      rw [ht] at hv
      exact hv
    unfold Cell.ok at hok
    rw [ht] at hok
    obtain ⟨_, _, _, hspot, row, cells, hshape, hlies⟩ := hok
    obtain ⟨blk, off, spot⟩ := a
    simp only at hspot hshape hlies
    subst hspot
    unfold World.shape? at hshape
    split at hshape
    · rename_i c el fr hh
      injection hshape with hshape
      injection hshape with h1 h2
      subst h1; subst h2
      have hoff : off ≤ c.size := Nat.le_trans (lies_le hlies) (Nat.div_mul_le_self _ _)
      rw [hc] at hread hsp
      have each : ∀ i, i < cap → ∃ cs' y, w.cells? 0 ((⟨blk, off, none⟩ : Addr).add (i * ce)) ce = some cs' ∧ DataW.trod enc P w 0 (fun _ => true) true n e cs' = some y := by
        intro i hi
        have : ∃ y, (w.cells? 0 ((⟨blk, off, none⟩ : Addr).add (i * ce)) ce).bind (DataW.trod enc P w 0 (fun _ => true) true n e) = some y := by
          by_cases hil : i < len
          · rw [hread i hil]
            exact ⟨_, List.getElem?_eq_getElem (by omega)⟩
          · obtain ⟨h1, h2⟩ := hsp rfl
            have := h2 (i - len) (by omega)
            rw [show len + (i - len) = i by omega] at this
            rw [this]
            exact ⟨_, List.getElem?_eq_getElem (by omega)⟩
        obtain ⟨y, hy⟩ := this
        obtain ⟨cs', h1, h2⟩ := Option.bind_eq_some_iff.1 hy
        exact ⟨cs', y, h1, h2⟩
      have hcell : ∀ k, w.cell? ⟨blk, k, none⟩ = c[k]? := fun k => by unfold World.cell?; simp [hh]
      have at_ : ∀ i cs', w.cells? 0 ((⟨blk, off, none⟩ : Addr).add (i * ce)) ce = some cs' → cs'.length = ce ∧ ∀ k, k < ce → c[off + i * ce + k]? = cs'[k]? := by
        intro i cs' h1
        obtain ⟨_, h2, h3⟩ := World.cells?_some h1
        exact ⟨h2, fun k hk => by rw [← h3 k hk, addr_add, addr_add]; exact (hcell _).symm⟩
      refine .inr ⟨blk, off, len, cap, c, el, fr, n, rfl, hle, hh, ?_, fun i hi => ?_⟩
      · by_cases h0 : cap = 0
        · subst h0; omega
        · obtain ⟨cs', y, h1, _⟩ := each (cap - 1) (by omega)
          obtain ⟨h2, h3⟩ := at_ _ _ h1
          have h4 := h3 (ce - 1) (by omega)
          rw [List.getElem?_eq_getElem (by omega)] at h4
          have h5 := (Array.getElem?_eq_some_iff.1 h4).1
          obtain ⟨q, rfl⟩ : ∃ q, cap = q + 1 := ⟨cap - 1, by omega⟩
          rw [Nat.add_mul, Nat.one_mul]
          simp only [Nat.add_sub_cancel] at h5
          omega
      · obtain ⟨cs', y, h1, h2⟩ := each i (by omega)
        obtain ⟨h3, h4⟩ := at_ _ _ h1
        refine ⟨y, ?_⟩
        have : (c.toList.drop (off + i * ce)).take ce = cs' := by
          refine List.ext_getElem? fun k => ?_
          rw [List.getElem?_take]
          split
          · rename_i hk
            rw [List.getElem?_drop, ← h4 k hk]
            simp
          · rw [List.getElem?_eq_none (by omega)]
        rw [this]; exact h2
    · cases hshape

theorem list_of {α : Type} {p : Nat → α → Prop} : ∀ (n : Nat), (∀ i, i < n → ∃ x, p i x) → ∃ l : List α, l.length = n ∧ ∀ i x, l[i]? = some x → p i x
  | 0, _ => ⟨[], rfl, fun i x h => by simp at h⟩
  | n + 1, h => by
    obtain ⟨l, h1, h2⟩ := list_of n fun i hi => h i (by omega)
    obtain ⟨x, hx⟩ := h n (by omega)
    refine ⟨l ++ [x], by simp [h1], fun i y hy => ?_⟩
    by_cases hi : i < l.length
    · rw [List.getElem?_append_left hi] at hy; exact h2 i y hy
    · have := (List.getElem?_eq_some_iff.1 hy).1
      simp at this
      obtain rfl : i = l.length := by omega
      simp at hy
      subst hy
      rw [h1]; exact hx

theorem VRL.rows {ι : Inj} {ce : Nat} : ∀ {rows : List (List AV)} {L : List Value}, (∀ i r, rows[i]? = some r → VRL ι r ((L.drop (i * ce)).take ce)) → VRL ι rows.flatten (L.take (rows.length * ce))
  | [], L, _ => by simp [VRL.nil_iff]
  | r :: rs, L, h => by
    have h0 := h 0 r rfl
    have ih := VRL.rows (rows := rs) (L := L.drop ce) (ce := ce) fun i s hs => by
      have := h (i + 1) s (by simpa using hs)
      rw [List.drop_drop]
      rwa [Nat.add_mul, Nat.one_mul, Nat.add_comm] at this
    simp only [Nat.zero_mul, List.drop_zero] at h0
    have e : L.take ((r :: rs).length * ce) = L.take ce ++ (L.drop ce).take (rs.length * ce) := by
      rw [List.length_cons, Nat.add_mul, Nat.one_mul, Nat.add_comm, List.take_add]
    rw [e, List.flatten_cons]
    exact VRL.append h0 ih

/-- an abstract row for a slice of plain cells -/
theorem arg_slice {P : Program} {w : World} {ce : Nat} {rows : List (List AV)} {v : Value} {b : Nat} (hrl : ∀ r ∈ rows, r.length = ce)
    (h : (v = .slice none 0 0 ∧ rows = []) ∨ ∃ blk off cap c el fr, v = .slice (some ⟨blk, off, none⟩) rows.length cap ∧ rows.length ≤ cap ∧ w.heap[blk]? = some (.cells c el fr) ∧ off + cap * ce ≤ c.size ∧ ∀ i r, rows[i]? = some r → flatAVs ((c.toList.drop (off + i * ce)).take ce) = some r) :
    ∃ (i : Option Place) (E : TypeId) (cells : List AV) (s : AV), (∀ p, i = some p → p.blk < w.heap.size ∧ ∀ ι, BR P ι p w (.row false none E cells)) ∧ (∀ ι : Inj, ι b = i → VR ι s v) ∧ ∀ m : Mem, m.get b = some (.row false none E cells) → Sl m s ce rows := by
  rcases h with ⟨rfl, rfl⟩ | ⟨blk, off, cap, c, el, fr, rfl, hle, hh, hsz, hfl⟩
  · exact ⟨none, 0, [], .nils, fun p hp => (by cases hp), fun ι _ => (by simp only [VR]), fun m _ => .inl ⟨rfl, rfl⟩⟩
  · have hlen : rows.flatten.length = rows.length * ce := by
      clear hfl hle
      induction rows with
      | nil => simp
      | cons r rs ih =>
        rw [List.flatten_cons, List.length_append, ih (fun r hr => hrl r (by simp [hr])), hrl r (by simp), List.length_cons, Nat.add_mul, Nat.one_mul, Nat.add_comm]
    have hmul := Nat.mul_le_mul_right ce hle
    refine ⟨some ⟨blk, off, c.size⟩, el, rows.flatten, .slc b 0 rows.length cap ce false, fun p hp => ?_, fun ι hι => ?_, fun m hm => .inr ⟨b, 0, cap, false, rfl, ?_, hrl⟩⟩
    · injection hp with hp
      subst hp
      refine ⟨(Array.getElem?_eq_some_iff.1 hh).1, fun ι => ⟨c, fr, hh, rfl, ?_, ?_, fun h => by cases h⟩⟩
      · rw [hlen]; simp only; omega
      · rw [hlen]
        refine VRL.rows fun i r hr => ?_
        rw [List.drop_drop]
        exact VRL.of_flatAVs (hfl i r hr)
    · simp only [VR]
      refine ⟨⟨blk, off, c.size⟩, off, cap, hι, rfl, .inr rfl, ?_, hsz, hle⟩
      simp
    · rw [cells_row hm, if_pos (by rw [hlen]; omega), List.drop_zero, ← hlen, List.take_length]

/-- two abstract rows, and nothing else -/
def ι2 (i1 i2 : Option Place) : Inj := fun b => if b = 0 then i1 else if b = 1 then i2 else none
def mem2 (E1 : TypeId) (c1 : List AV) (E2 : TypeId) (c2 : List AV) : Mem := ((⟨.nil, 0⟩ : Mem).new (.row false none E1 c1)).new (.row false none E2 c2)
theorem mem2_0 {E1 : TypeId} {c1 : List AV} {E2 : TypeId} {c2 : List AV} : (mem2 E1 c1 E2 c2).get 0 = some (.row false none E1 c1) := by
  unfold mem2; rw [Mem.get_new, if_neg (show ¬ (0 : Nat) = ((⟨.nil, 0⟩ : Mem).new (.row false none E1 c1)).next from fun h => Nat.zero_ne_one h), Mem.get_new]; rfl
theorem mem2_1 {E1 : TypeId} {c1 : List AV} {E2 : TypeId} {c2 : List AV} : (mem2 E1 c1 E2 c2).get 1 = some (.row false none E2 c2) := by
  unfold mem2; rw [Mem.get_new]; rfl
theorem rel2 {P : Program} {w : World} {i1 i2 : Option Place} {E1 : TypeId} {c1 : List AV} {E2 : TypeId} {c2 : List AV}
    (h1 : ∀ p, i1 = some p → p.blk < w.heap.size ∧ ∀ ι, BR P ι p w (.row false none E1 c1)) (h2 : ∀ p, i2 = some p → p.blk < w.heap.size ∧ ∀ ι, BR P ι p w (.row false none E2 c2)) :
    Rel P w.heap.size (ι2 i1 i2) (mem2 E1 c1 E2 c2) w := by
  have hcase : ∀ b p, ι2 i1 i2 b = some p → (b = 0 ∧ i1 = some p) ∨ (b = 1 ∧ i2 = some p) := by
    intro b p h
    unfold ι2 at h
    split at h
    · exact .inl ⟨‹_›, h⟩
    · split at h
      · exact .inr ⟨‹_›, h⟩
      · cases h
  have hown : ∀ b p x, ι2 i1 i2 b = some p → (mem2 E1 c1 E2 c2).get b = some x → x.own = false := by
    intro b p x hb hx
    rcases hcase b p hb with ⟨rfl, _⟩ | ⟨rfl, _⟩
    · rw [mem2_0] at hx; injection hx with hx; subst hx; rfl
    · rw [mem2_1] at hx; injection hx with hx; subst hx; rfl
  refine ⟨fun b p hb => ?_, fun b p x hb hx => ?_, fun b b' p p' x x' hb _ hx _ ho => ?_, fun b p x hb hx ho => ?_, fun b hb => ?_, Nat.le_refl _⟩
  · rcases hcase b p hb with ⟨rfl, h⟩ | ⟨rfl, h⟩
    · exact ⟨Nat.zero_lt_two, (h1 p h).1⟩
    · exact ⟨Nat.one_lt_two, (h2 p h).1⟩
  · rcases hcase b p hb with ⟨rfl, h⟩ | ⟨rfl, h⟩
    · rw [mem2_0] at hx; injection hx with hx; subst hx; exact (h1 p h).2 _
    · rw [mem2_1] at hx; injection hx with hx; subst hx; exact (h2 p h).2 _
  · rw [hown b p x hb hx] at ho; cases ho
  · rw [hown b p x hb hx] at ho; cases ho
  · have hb' : 2 ≤ b := hb
    unfold mem2
    rw [Mem.get_new, Mem.get_new, if_neg (by show ¬ b = 1; omega), if_neg (by show ¬ b = 0; omega)]
    rfl
end Go.Proofs.YtcbileongahhiaaGreat.Ev
