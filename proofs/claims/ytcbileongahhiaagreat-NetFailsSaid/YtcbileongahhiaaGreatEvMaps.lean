/- Maps that read as lists of pairs. -/
import Derived.Test.YtcbileongahhiaaGreatEvClosed
namespace Go.Proofs.YtcbileongahhiaaGreat.Ev
open Go
set_option linter.unusedVariables false
set_option linter.unusedSimpArgs false

section
variable {α β : Type} [DecidableEq α] {P : Program} {m : Mem}

/-- a map's entries: keys and values, as they are written -/
def mapEs (enc : α → AV) (encv : β → AV) (l : List (α × β)) : List (AV × AV) := l.map fun p => (enc p.1, encv p.2)

def idxOf (x : α) : List (α × β) → Nat → Option (Nat × β)
  | [], _ => none
  | (a, v) :: l, i => if x = a then some (i, v) else idxOf x l (i + 1)

def look (x : α) : List (α × β) → Option β
  | [] => none
  | (a, v) :: l => if x = a then some v else look x l

/-- a key's value is exchanged, or it is put behind -/
def putAt (x : α) (v : β) : List (α × β) → List (α × β)
  | [] => [(x, v)]
  | (a, u) :: l => if x = a then (x, v) :: l else (a, u) :: putAt x v l

theorem findAV_idx {kt : TypeId} {enc : α → AV} {encv : β → AV} (hk : ∀ a b, eqv P 100 kt (enc a) (enc b) = some (decide (a = b))) (x : α) : ∀ (l : List (α × β)) (i : Nat), findAV P kt (enc x) (mapEs enc encv l) i = some ((idxOf x l i).map fun p => (p.1, encv p.2))
  | [], i => rfl
  | (a, v) :: l, i => by
    simp only [mapEs, List.map_cons, findAV, hk, idxOf]
    by_cases h : x = a
    · simp [h]
    · simp only [h, decide_false, if_false]
      exact findAV_idx hk x l (i + 1)

theorem idxOf_look (x : α) : ∀ (l : List (α × β)) (i : Nat), (idxOf x l i).map (·.2) = look x l
  | [], _ => rfl
  | (a, v) :: l, i => by
    simp only [idxOf, look]
    split
    · rfl
    · exact idxOf_look x l (i + 1)

theorem idxOf_some {x : α} : ∀ {l : List (α × β)} {i j : Nat} {v : β}, idxOf x l i = some (j, v) → i ≤ j ∧ l[j - i]? = some (x, v) ∧ ∀ u, l.set (j - i) (x, u) = putAt x u l
  | [], _, _, _, h => by cases h
  | (a, v) :: l, i, j, u, h => by
    simp only [idxOf] at h
    split at h
    · rename_i hx
      injection h with h
      injection h with h1 h2
      subst h1; subst h2; subst hx
      simp [putAt]
    · rename_i hx
      obtain ⟨h1, h2, h3⟩ := idxOf_some h
      obtain ⟨k, rfl⟩ : ∃ k, j = i + 1 + k := ⟨j - (i + 1), by omega⟩
      have e1 : i + 1 + k - (i + 1) = k := by omega
      have e2 : i + 1 + k - i = k + 1 := by omega
      rw [e1] at h2 h3
      rw [e2]
      refine ⟨by omega, by simpa using h2, fun u => ?_⟩
      simp only [List.set_cons_succ, putAt, hx, if_false, h3]

theorem idxOf_none {x : α} : ∀ {l : List (α × β)} {i : Nat}, idxOf x l i = none → ∀ u, l ++ [(x, u)] = putAt x u l
  | [], _, _, u => rfl
  | (a, v) :: l, i, h, u => by
    simp only [idxOf] at h
    split at h
    · cases h
    · rename_i hx
      simp only [List.cons_append, putAt, hx, if_false, idxOf_none h u]

theorem look_putAt (x y : α) (u : β) : ∀ (l : List (α × β)), look y (putAt x u l) = if y = x then some u else look y l
  | [] => by simp [putAt, look]
  | (a, v) :: l => by
    simp only [putAt]
    by_cases hx : x = a
    · subst hx
      simp only [if_true, look]
      split <;> rfl
    · simp only [hx, if_false, look, look_putAt x y u l]
      by_cases hy : y = a
      · subst hy
        simp only [if_true, if_neg (fun h : y = x => hx h.symm)]
      · simp [hy]

theorem look_some {x : α} {v : β} : ∀ {l : List (α × β)}, look x l = some v → (x, v) ∈ l
  | [], h => by cases h
  | (a, u) :: l, h => by
    simp only [look] at h
    split at h
    · rename_i hx; injection h with h; subst h; subst hx; simp
    · exact List.mem_cons_of_mem _ (look_some h)

/-- the entries that a map block has -/
def IsMap (m : Mem) (b : Nat) (enc : α → AV) (encv : β → AV) (l : List (α × β)) : Prop := m.get b = some (.map (mapEs enc encv l))

theorem IsMap.entries {b : Nat} {enc : α → AV} {encv : β → AV} {l : List (α × β)} (h : IsMap m b enc encv l) : m.entries b = some (mapEs enc encv l) := by
  simp only [Mem.entries, show m.get b = _ from h]

theorem mapEs_set {enc : α → AV} {encv : β → AV} {l : List (α × β)} {i : Nat} {x : α} {u : β} : (mapEs enc encv l).set i (enc x, encv u) = mapEs enc encv (l.set i (x, u)) := by
  simp only [mapEs, List.map_set]
theorem mapEs_append {enc : α → AV} {encv : β → AV} {l : List (α × β)} {x : α} {u : β} : mapEs enc encv l ++ [(enc x, encv u)] = mapEs enc encv (l ++ [(x, u)]) := by
  simp only [mapEs, List.map_append, List.map_cons, List.map_nil]

variable (P) in
/-- keys of a type, written so -/
structure KeyOk (kt : TypeId) (enc : α → AV) : Prop where
  eqv : ∀ a b, Ev.eqv P 100 kt (enc a) (enc b) = some (decide (a = b))
  key : ∀ a, keyV P 100 kt (enc a) = true
  scal : ∀ a, (enc a).scal = true
  same : ∀ a, AV.same (enc a) (enc a) = true

variable {kt et mt : TypeId} {enc : α → AV} {encv : β → AV} {l : List (α × β)} {b : Nat} {G : Nat} {call : FuncId → List AV → Mem → Option (AV × Mem)} {e : Env}

def lookAV (ok : Bool) (zero : AV) (encv : β → AV) : Option β → AV
  | some v => if ok then .tup [encv v, .bool true] else encv v
  | none => if ok then .tup [zero, .bool false] else zero

theorem evOp_lookup {ρ : Operand → Option AV} {d : Option Tmp} {t : TypeId} {p : String} {a : Array Edge} {g : Option (Nat × Bool)} {mo ko : Operand} {ok : Bool} {x : α} {zero : AV}
    (K : KeyOk P kt enc) (ht : P.underlying mt = some (.map kt et)) (hz : zeroAV P et = some zero) (hm : ρ mo = some (.map b)) (hx : ρ ko = some (enc x)) (hb : IsMap m b enc encv l) :
    evOp P ρ ⟨d, .lookup mt mo ko ok, t, p, a, g⟩ m = some (lookAV ok zero encv (look x l), m, .obj b) := by
  have h1 := findAV_idx (encv := encv) K.eqv x l 0
  rw [← idxOf_look x l 0]
  simp only [evOp, evPure, evNew, evRead, ht, hm, hx, hb.entries, K.key, K.scal, Bool.and_self, if_true, h1]
  cases h : idxOf x l 0 with
  | none => simp [lookAV, hz]
  | some q => simp [lookAV]

theorem evOp_mapUpdate {ρ : Operand → Option AV} {d : Option Tmp} {t : TypeId} {p : String} {a : Array Edge} {g : Option (Nat × Bool)} {mo ko vo : Operand} {x : α} {u : β}
    (K : KeyOk P kt enc) (ht : P.underlying mt = some (.map kt et)) (hm : ρ mo = some (.map b)) (hx : ρ ko = some (enc x)) (hv : ρ vo = some (encv u)) (hb : IsMap m b enc encv l) :
    evOp P ρ ⟨d, .mapUpdate mt mo ko vo, t, p, a, g⟩ m = some (.tup [], m.set b (.map (mapEs enc encv (putAt x u l))), .eff) := by
  have h1 := findAV_idx (encv := encv) K.eqv x l 0
  simp only [evOp, evPure, evNew, evRead, evEff, ht, hm, hx, hv, hb.entries, K.key, K.scal, Bool.and_self, if_true, h1, Option.bind_some]
  cases h : idxOf x l 0 with
  | none => simp [mapEs_append, idxOf_none h u]
  | some q =>
    obtain ⟨i, w⟩ := q
    obtain ⟨_, h3, h4⟩ := idxOf_some h
    rw [Nat.sub_zero] at h3 h4
    have h5 : (mapEs enc encv l)[i]? = some (enc x, encv w) := by simp [mapEs, h3]
    simp [h5, K.same, mapEs_set, h4]

variable (P) in
def lookEs (kt : TypeId) (es : List (AV × AV)) (k : AV) : Option (Option AV) :=
  if keyV P 100 kt k && k.scal then
    match findAV P kt k es 0 with
    | some (some (_, v)) => some (some v)
    | some none => some none
    | none => none
  else none
variable (P) in
def putEs (kt : TypeId) (es : List (AV × AV)) (k v : AV) : Option (List (AV × AV)) :=
  if keyV P 100 kt k && k.scal then
    match findAV P kt k es 0 with
    | some (some (i, _)) => match es[i]? with
      | some (k', _) => if AV.same k' k then some (es.set i (k, v)) else none
      | none => none
    | some none => some (es ++ [(k, v)])
    | none => none
  else none
/-- what a lookup says -/
def foundAV (ok : Bool) (zero : Option AV) (r : Option (Option AV)) (b : Nat) : Option (AV × Fx) :=
  match r with
  | some (some v) => some (if ok then .tup [v, .bool true] else v, .obj b)
  | some none => zero.map fun z => (if ok then .tup [z, .bool false] else z, .obj b)
  | none => none
def lookOf (P : Program) (m : Mem) (ok : Bool) (t : Option TypeDesc) (x k : Option AV) : Option (AV × Fx) :=
  match t, x, k with
  | some (.map kt et), some (.map b), some k => match m.get b with
    | some (.map es) => foundAV ok (zeroAV P et) (lookEs P kt es k) b
    | _ => none
  | _, _, _ => none
def putOf (P : Program) (m : Mem) (t : Option TypeDesc) (x k v : Option AV) : Option (AV × Mem) :=
  match t, x, k, v with
  | some (.map kt _), some (.map b), some k, some v => match m.get b with
    | some (.map es) => (putEs P kt es k v).map fun es' => (.tup [], m.set b (.map es'))
    | _ => none
  | _, _, _, _ => none

omit [DecidableEq α] in
theorem evRead_lookup {ρ : Operand → Option AV} {d : Option Tmp} {ty : TypeId} {p : String} {a : Array Edge} {g : Option (Nat × Bool)} {x k : Operand} {ok : Bool} {t : TypeId} :
    evRead P ρ ⟨d, .lookup t x k ok, ty, p, a, g⟩ m = lookOf P m ok (P.underlying t) (ρ x) (ρ k) := by
  simp only [evRead, lookOf]
  generalize P.underlying t = u
  generalize ρ x = vx
  generalize ρ k = vk
  cases u with
  | none => rfl
  | some u => cases u with
    | map kt et => cases vx with
      | none => rfl
      | some vx => cases vx with
        | map b => cases vk with
          | none => rfl
          | some k =>
            simp only [Mem.entries]
            cases m.get b with
            | none => rfl
            | some y => cases y with
              | row => rfl
              | map es =>
                simp only [lookEs, foundAV]
                split
                · cases findAV P kt k es 0 with
                  | none => rfl
                  | some r => cases r <;> rfl
                · rfl
        | _ => rfl
    | _ => rfl
omit [DecidableEq α] in
theorem evEff_mapUpdate {ρ : Operand → Option AV} {d : Option Tmp} {ty : TypeId} {p : String} {a : Array Edge} {g : Option (Nat × Bool)} {x k v : Operand} {t : TypeId} :
    evEff P ρ ⟨d, .mapUpdate t x k v, ty, p, a, g⟩ m = putOf P m (P.underlying t) (ρ x) (ρ k) (ρ v) := by
  simp only [evEff, putOf]
  generalize P.underlying t = u
  generalize ρ x = vx
  generalize ρ k = vk
  generalize ρ v = vv
  cases u with
  | none => rfl
  | some u => cases u with
    | map kt et => cases vx with
      | none => rfl
      | some vx => cases vx with
        | map b => cases vk with
          | none => rfl
          | some k => cases vv with
            | none => rfl
            | some v =>
              simp only [Mem.entries]
              cases m.get b with
              | none => rfl
              | some y => cases y with
                | row => rfl
                | map es =>
                  simp only [putEs, Option.bind_some]
                  split
                  · cases findAV P kt k es 0 with
                    | none => rfl
                    | some r => cases r with
                      | none => rfl
                      | some q =>
                        simp only
                        cases es[q.1]? with
                        | none => rfl
                        | some kv =>
                          simp only
                          split <;> rfl
                  · rfl
        | _ => rfl
    | _ => rfl

theorem lookEs_mapEs (K : KeyOk P kt enc) {x : α} : lookEs P kt (mapEs enc encv l) (enc x) = some ((look x l).map encv) := by
  simp only [lookEs, K.key, K.scal, Bool.and_self, if_true, findAV_idx K.eqv]
  rw [← idxOf_look x l 0]
  cases idxOf x l 0 <;> rfl
theorem putEs_mapEs (K : KeyOk P kt enc) {x : α} {u : β} : putEs P kt (mapEs enc encv l) (enc x) (encv u) = some (mapEs enc encv (putAt x u l)) := by
  simp only [putEs, K.key, K.scal, Bool.and_self, if_true, findAV_idx K.eqv]
  cases h : idxOf x l 0 with
  | none => simp only [Option.map_none, mapEs_append, idxOf_none h u]
  | some q =>
    obtain ⟨i, w⟩ := q
    obtain ⟨_, h3, h4⟩ := idxOf_some h
    rw [Nat.sub_zero] at h3 h4
    have h5 : (mapEs enc encv l)[i]? = some (enc x, encv w) := by simp [mapEs, h3]
    simp [h5, K.same, mapEs_set, h4]

attribute [simp 2000] evRead_lookup evEff_mapUpdate
attribute [simp] lookOf putOf foundAV

def encInt (n : Int) : AV := .int .i64 n
theorem keyInt (ht : P.underlying kt = some (.int .i64)) : KeyOk P kt encInt :=
  ⟨fun a b => by simp only [encInt, eqv_int ht]; rfl, fun a => by simp [encInt, keyV, ht], fun a => rfl, fun a => by simp [encInt, AV.same]⟩
end
end Go.Proofs.YtcbileongahhiaaGreat.Ev
