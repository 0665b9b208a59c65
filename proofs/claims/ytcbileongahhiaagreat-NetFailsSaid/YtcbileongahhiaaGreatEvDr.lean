/- Regions that draw their order, over values that are not all known. -/
import Derived.Test.YtcbileongahhiaaGreatEvMaps
import Derived.Test.YtcbileongahhiaaGreatEvFrame
namespace Go.Proofs.YtcbileongahhiaaGreat.Ev
open Go
set_option linter.unusedVariables false
set_option linter.unusedSimpArgs false

mutual
theorem AV.same_refl : ∀ a : AV, AV.same a a = true
  | .bool _ | .int _ _ | .flt _ _ | .str _ | .ptr _ _ | .slc _ _ _ _ _ _ | .map _ => by simp [AV.same]
  | .nilp | .nils | .nilm | .nilf | .nili | .any => by simp [AV.same]
  | .func _ l c => by simp [AV.same, AV.sameL_refl l, AV.sameL_refl c]
  | .iface _ v => by simp [AV.same, AV.same_refl v]
  | .agg cs => by simp [AV.same, AV.sameL_refl cs]
  | .tup cs => by simp [AV.same, AV.sameL_refl cs]
theorem AV.sameL_refl : ∀ l : List AV, AV.sameL l l = true
  | [] => by simp [AV.sameL]
  | a :: l => by simp [AV.sameL, AV.same_refl a, AV.sameL_refl l]
end
theorem sameEs_refl : ∀ l : List (AV × AV), sameEs l l = true
  | [] => rfl
  | (a, b) :: l => by simp [sameEs, AV.same_refl, sameEs_refl l]

attribute [simp] AV.same_refl AV.sameL_refl sameEs_refl

/-- the operations of a region -/
def opsAt (k : Nat) : Code → Option (Array Oper)
  | .seq a b => (opsAt k a).or (opsAt k b)
  | .cond _ a b => (opsAt k a).or (opsAt k b)
  | .block _ a => opsAt k a
  | .loop a => opsAt k a
  | .scope a => opsAt k a
  | .region id ops _ => if id = k then some ops else none
  | _ => none
def ancsAt (k : Nat) (f : Func) : List Nat := match f.body with
  | some c => match opsAt k c with
    | some ops => ancs ops.toList []
    | none => []
  | none => []

theorem contr_go {P : Program} {G : Nat} (hm : P.follows .mixedOrders = true) (hsane : Sane P) {f : FuncId} {fn : Func} {c : Code} (hf : P.funcs[f]? = some fn) (hb : fn.body = some c) {call : FuncId → List AV → Mem → Option (AV × Mem)} {args : List AV} {m : Mem} {v : AV} {m' : Mem}
    (hlen : args.length ≤ fn.ntmps) (hcall : ∀ f args m v m', call f args m = some (v, m') → Contr P G f args m v m')
    (h : Fresh m → run P G call c (.done (Fin P fn m v m')) (initE args) m) : Contr P G f args m v m' :=
  contr_run hm hsane hf hb hlen hcall h
/-- an old name is none of the new ones -/
theorem old_ne {b n : Nat} (h : b < n) : (∀ k, ¬ b = n + k) ∧ (∀ k, ¬ n + k = b) ∧ ¬ b = n ∧ ¬ n = b := ⟨fun k => by omega, fun k => by omega, by omega, by omega⟩
theorem ne_both {a b : Nat} (h : a ≠ b) : ¬ a = b ∧ ¬ b = a := ⟨h, fun e => h e.symm⟩

theorem contrR_go {P : Program} {G : Nat} (hm : P.follows .mixedOrders = true) (hsane : Sane P) {f : FuncId} {fn : Func} {c : Code} (hf : P.funcs[f]? = some fn) (hb : fn.body = some c) {call : FuncId → List AV → Mem → Option (AV × Mem)} {args : List AV} {m : Mem} {R : AV → Mem → Prop}
    (hlen : args.length ≤ fn.ntmps) (hcall : ∀ f args m v m', call f args m = some (v, m') → Contr P G f args m v m')
    (h : ∀ Q : XT → Env → Mem → Prop, (∀ e m1 vs, resultsE P e m1 fn.results.toList = some vs → R (tupled vs) m1 → Q .ret e m1) → Fresh m → run P G call c (.done Q) (initE args) m) : ContrR P G f args m R :=
  contrR_of hm hsane hf hb hlen hcall fun hfr => h (FinR P fn R) (fun e m1 vs h1 h2 => ⟨trivial, vs, h1, h2⟩) hfr
/-- a slice of ours, without room, that reads as so many elements -/
def OwnS (m : Mem) (lo : Nat) (v : AV) (E esz : Nat) (n : Nat) (cells : List AV) : Prop :=
  (v = .nils ∧ n = 0 ∧ cells = []) ∨ ∃ b, v = .slc b 0 n n esz false ∧ m.get b = some (.row true (some 0) E cells) ∧ cells.length = n * esz ∧ lo ≤ b ∧ b < m.next

theorem OwnS.sl {m : Mem} {lo : Nat} {v : AV} {E esz : Nat} {rows : List (List AV)} (hl : ∀ r ∈ rows, r.length = esz) (h : OwnS m lo v E esz rows.length rows.flatten) : Sl m v esz rows := by
  rcases h with ⟨h1, h2, h3⟩ | ⟨b, h1, h2, h3, h4⟩
  · exact .inl ⟨h1, List.length_eq_zero_iff.1 h2⟩
  · refine .inr ⟨b, 0, rows.length, false, h1, ?_, hl⟩
    rw [cells_of h2, if_pos (by omega), List.drop_zero, ← h3, List.take_length]

attribute [simp] evAppend appZeros appNew appRow lenAV srcCells
/-- a table of calls whose values are known -/
abbrev Spec := List AV → Mem → Option (AV × Mem)
def tab : List (FuncId × Spec) → FuncId → List AV → Mem → Option (AV × Mem)
  | [], _, _, _ => none
  | (f, s) :: l, g, args, m => if g = f then s args m else tab l g args m
def SpecOk (P : Program) (G : Nat) (f : FuncId) (s : Spec) : Prop := ∀ args m v m', s args m = some (v, m') → Contr P G f args m v m'
def TabOk (P : Program) (G : Nat) : List (FuncId × Spec) → Prop
  | [] => True
  | (f, s) :: l => SpecOk P G f s ∧ TabOk P G l
theorem tab_ok {P : Program} {G : Nat} : ∀ {l : List (FuncId × Spec)}, TabOk P G l → ∀ f args m v m', tab l f args m = some (v, m') → Contr P G f args m v m'
  | [], _, f, args, m, v, m', h => by cases h
  | (f, s) :: l, h, g, args, m, v, m', hc => by
    simp only [tab] at hc
    split at hc
    · rename_i e
      subst e
      exact h.1 _ _ _ _ hc
    · exact tab_ok h.2 _ _ _ _ _ hc
theorem tab_nil {f : FuncId} {args : List AV} {m : Mem} : tab [] f args m = none := (rfl)
theorem tab_cons {f g : FuncId} {s : Spec} {l : List (FuncId × Spec)} {args : List AV} {m : Mem} : tab ((f, s) :: l) g args m = if g = f then s args m else tab l g args m := (rfl)
attribute [simp] tab_nil tab_cons
attribute [simp] Ext.refl Ext.new Ext.set Ext.kill Ext.grow
attribute [simp] isRead pushR pushE chkR chkRs chkE chkEs isEff notAhead orderedIn sameAt

def tab0 : FuncId → List AV → Mem → Option (AV × Mem) := fun _ _ _ => none
theorem tab0_ok {P : Program} {G : Nat} : ∀ f args m v m', tab0 f args m = some (v, m') → Contr P G f args m v m' := fun f args m v m' h => by cases h
theorem tab0_apply {f : FuncId} {args : List AV} {m : Mem} : tab0 f args m = none := rfl
attribute [simp] tab0_apply
end Go.Proofs.YtcbileongahhiaaGreat.Ev
