/- Slices that read as lists. -/
import Derived.Test.YtcbileongahhiaaGreatEvSym
namespace Go.Proofs.YtcbileongahhiaaGreat.Ev
open Go
set_option linter.unusedVariables false
set_option linter.unusedSimpArgs false

/-- a slice whose elements have these cells -/
def Sl (m : Mem) (v : AV) (esz : Nat) (rows : List (List AV)) : Prop :=
  (v = .nils ∧ rows = []) ∨ ∃ b off cap ex, v = .slc b off rows.length cap esz ex ∧ m.cells b off (rows.length * esz) = some rows.flatten ∧ ∀ r ∈ rows, r.length = esz

theorem cells_some {m : Mem} {b off n : Nat} {cs : List AV} (h : m.cells b off n = some cs) : ∃ o fz e l, m.get b = some (.row o fz e l) ∧ off + n ≤ l.length ∧ cs = (l.drop off).take n := by
  unfold Mem.cells at h
  split at h
  · rename_i o fz e l hl
    split at h
    · rename_i hle
      injection h with h
      exact ⟨o, fz, e, l, hl, hle, h.symm⟩
    · cases h
  · cases h

theorem cells_sub {m : Mem} {b off n : Nat} {cs : List AV} (h : m.cells b off n = some cs) {i k : Nat} (hi : i + k ≤ n) : m.cells b (off + i) k = some ((cs.drop i).take k) := by
  obtain ⟨o, fz, e, l, hl, hle, rfl⟩ := cells_some h
  rw [cells_of hl, if_pos (by omega), List.drop_take, List.take_take, List.drop_drop, Nat.min_eq_left (by omega)]

theorem flatten_at {esz : Nat} : ∀ {rows : List (List AV)} {i : Nat} {r : List AV}, (∀ r ∈ rows, r.length = esz) → rows[i]? = some r → (rows.flatten.drop (i * esz)).take esz = r
  | [], i, r, _, h => by simp at h
  | a :: rows, 0, r, hl, h => by
    simp at h
    subst h
    have := hl a (by simp)
    rw [Nat.zero_mul, List.drop_zero, List.flatten_cons, List.take_append_of_le_length (by omega), ← this, List.take_length]
  | a :: rows, i + 1, r, hl, h => by
    simp at h
    have ha := hl a (by simp)
    have ih := flatten_at (i := i) (fun r hr => hl r (by simp [hr])) h
    rw [List.flatten_cons, Nat.succ_mul, Nat.add_comm, ← List.drop_drop, List.drop_append_of_le_length (by omega), ← ha, List.drop_length, List.nil_append, ha]
    exact ih

theorem Sl.at {m : Mem} {b off n cap esz : Nat} {ex : Bool} {rows : List (List AV)} (h : Sl m (.slc b off n cap esz ex) esz rows) {i : Nat} (hi : i < rows.length) : m.cells b (off + i * esz) esz = some rows[i] := by
  rcases h with ⟨h, _⟩ | ⟨b', off', cap', ex', h, hc, hl⟩
  · cases h
  · injection h with h1 h2 h3 h4 h5 h6
    subst h1; subst h2
    have hle : i * esz + esz ≤ rows.length * esz := by
      rw [← Nat.succ_mul]; exact Nat.mul_le_mul_right _ hi
    rw [cells_sub hc hle, flatten_at hl (List.getElem?_eq_getElem hi)]

theorem Sl.at1 {m : Mem} {b off n cap : Nat} {ex : Bool} {rows : List (List AV)} (h : Sl m (.slc b off n cap 1 ex) 1 rows) {i : Nat} (hi : i < rows.length) : m.cells b (off + i) 1 = some rows[i] := by
  simpa using h.at hi

/-- of an old slice nothing changes where its block does not -/
theorem Sl.keep {m m' : Mem} {v : AV} {esz : Nat} {rows : List (List AV)} (h : Sl m v esz rows) (hk : ∀ b off len cap e ex, v = .slc b off len cap e ex → m'.get b = m.get b) : Sl m' v esz rows := by
  rcases h with h | ⟨b, off, cap, ex, rfl, hc, hl⟩
  · exact .inl h
  · refine .inr ⟨b, off, cap, ex, rfl, ?_, hl⟩
    have := hk _ _ _ _ _ _ rfl
    obtain ⟨o, fz, e, l, h1, hle, h2⟩ := cells_some hc
    rw [h1] at this
    rw [cells_of this, if_pos hle, h2]

def intRow (n : Int) : List AV := [.int .i64 n]
def Ints (m : Mem) (v : AV) (l : List Int) : Prop := Sl m v 1 (l.map intRow)
end Go.Proofs.YtcbileongahhiaaGreat.Ev
