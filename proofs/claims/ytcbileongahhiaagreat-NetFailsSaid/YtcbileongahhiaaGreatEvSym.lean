/- Rewriting rules for the steps of a code over values that are not all known. -/
import Derived.Test.YtcbileongahhiaaGreatEvRun
namespace Go.Proofs.YtcbileongahhiaaGreat.Ev
open Go
set_option linter.unusedVariables false
set_option linter.unusedSimpArgs false

def fltLss (k : FloatKind) (a b : Nat) : Bool := k.format.order a b == some .lt
def fltLeq (k : FloatKind) (a b : Nat) : Bool := k.format.order a b == some .lt || k.format.order a b == some .eq
def fltGtr (k : FloatKind) (a b : Nat) : Bool := k.format.order a b == some .gt
def fltGeq (k : FloatKind) (a b : Nat) : Bool := k.format.order a b == some .gt || k.format.order a b == some .eq

section
variable {P : Program} {G : Nat} {call : FuncId → List AV → Mem → Option (AV × Mem)} {e : Env} {m : Mem}

theorem opdE_tmp (t : Tmp) : opdE G e (.tmp t) = e t := (rfl)
theorem opdE_bool (b : Bool) : opdE G e (.const (.bool b)) = some (.bool b) := (rfl)
theorem opdE_int (k : IntKind) (n : Int) : opdE G e (.const (.int k n)) = some (.int k n) := (rfl)
theorem opdE_nils : opdE G e (.const (.slice none 0 0)) = some .nils := (rfl)
theorem opdE_nilp : opdE G e (.const (.pointer none)) = some .nilp := (rfl)
theorem opdE_nilm : opdE G e (.const (.map none)) = some .nilm := (rfl)
theorem opdE_nilf : opdE G e (.const .nilFunc) = some .nilf := (rfl)
theorem opdE_nili : opdE G e (.const .nilIface) = some .nili := (rfl)
theorem opdE_str (s : ByteArray) : opdE G e (.const (.string s)) = some (.str s.data.toList) := (rfl)
theorem opdE_agg (cs : Array Value) : opdE G e (.const (.agg cs)) = (flatAVs cs.toList).map .agg := (rfl)
theorem opdE_func (f : FuncId) : opdE G e (.func f) = some (.func (.func f) [] []) := (rfl)

theorem wantedE_none {ops : Array Oper} {d : Option Tmp} {op : Op} {t : TypeId} {p : String} {a : Array Edge} : wantedE ops e ⟨d, op, t, p, a, none⟩ = some true := (rfl)

theorem initE_apply (args : List AV) (j : Nat) : initE args j = args[j]? := (rfl)
theorem setE_some (d : Tmp) (v : AV) : setE e (some d) v = upd e d v := (rfl)
theorem setE_none (v : AV) : setE e none v = e := (rfl)

/-! integers -/
theorem evBin_add {t : TypeId} {x y : Operand} {k : IntKind} {a b : Int} : evBin P .add t x y (.int k a) (.int k b) = some (.int k (k.wrap (a + b))) := by
  simp [evBin, binOp, Op.intArith, strip, flatAV]; rfl
theorem evBin_sub {t : TypeId} {x y : Operand} {k : IntKind} {a b : Int} : evBin P .sub t x y (.int k a) (.int k b) = some (.int k (k.wrap (a - b))) := by
  simp [evBin, binOp, Op.intArith, strip, flatAV]; rfl
theorem evBin_mul {t : TypeId} {x y : Operand} {k : IntKind} {a b : Int} : evBin P .mul t x y (.int k a) (.int k b) = some (.int k (k.wrap (a * b))) := by
  simp [evBin, binOp, Op.intArith, strip, flatAV]; rfl
theorem evBin_lss {t : TypeId} {x y : Operand} {k : IntKind} {a b : Int} : evBin P .lss t x y (.int k a) (.int k b) = some (.bool (decide (a < b))) := by
  simp [evBin, binOp, Op.intCmp, strip, flatAV]; rfl
theorem evBin_leq {t : TypeId} {x y : Operand} {k : IntKind} {a b : Int} : evBin P .leq t x y (.int k a) (.int k b) = some (.bool (decide (a ≤ b))) := by
  simp [evBin, binOp, Op.intCmp, strip, flatAV]; rfl
theorem evBin_gtr {t : TypeId} {x y : Operand} {k : IntKind} {a b : Int} : evBin P .gtr t x y (.int k a) (.int k b) = some (.bool (decide (b < a))) := by
  simp [evBin, binOp, Op.intCmp, strip, flatAV]; rfl
theorem evBin_geq {t : TypeId} {x y : Operand} {k : IntKind} {a b : Int} : evBin P .geq t x y (.int k a) (.int k b) = some (.bool (decide (b ≤ a))) := by
  simp [evBin, binOp, Op.intCmp, strip, flatAV]; rfl
theorem evBin_eql {t : TypeId} {x y : Operand} {k : IntKind} {a b : Int} : evBin P .eql t x y (.int k a) (.int k b) = some (.bool (decide (a = b))) := by
  simp [evBin, binOp, Op.intCmp, strip, flatAV]; rfl
theorem evBin_neq {t : TypeId} {x y : Operand} {k : IntKind} {a b : Int} : evBin P .neq t x y (.int k a) (.int k b) = some (.bool (!decide (a = b))) := by
  simp [evBin, binOp, Op.intCmp, strip, flatAV]; rfl
theorem evBin_quo {t : TypeId} {x y : Operand} {k : IntKind} {a b : Int} (h : b ≠ 0) : evBin P .quo t x y (.int k a) (.int k b) = some (.int k (k.wrap (a.tdiv b))) := by
  simp [evBin, binOp, Op.intDiv, strip, flatAV, h]; rfl
theorem evBin_rem {t : TypeId} {x y : Operand} {k : IntKind} {a b : Int} (h : b ≠ 0) : evBin P .rem t x y (.int k a) (.int k b) = some (.int k (a.tmod b)) := by
  simp [evBin, binOp, Op.intDiv, strip, flatAV, h]; rfl

theorem wrap_i64 {n : Int} (h : -9223372036854775808 ≤ n ∧ n < 9223372036854775808) : IntKind.i64.wrap n = n := by
  have h1 : IntKind.i64.wrap n = if n % 18446744073709551616 ≥ 9223372036854775808 then n % 18446744073709551616 - 18446744073709551616 else n % 18446744073709551616 := by
    simp [IntKind.wrap, IntKind.bits, IntKind.signed]
  rw [h1]
  split <;> omega
theorem wrap_u64 {n : Int} (h : 0 ≤ n ∧ n < 18446744073709551616) : IntKind.u64.wrap n = n := by
  simp [IntKind.wrap, IntKind.bits, IntKind.signed]; omega
theorem wrap_u8 {n : Int} (h : 0 ≤ n ∧ n < 256) : IntKind.u8.wrap n = n := by
  simp [IntKind.wrap, IntKind.bits, IntKind.signed]; omega
theorem wrap_u32 {n : Int} (h : 0 ≤ n ∧ n < 4294967296) : IntKind.u32.wrap n = n := by
  simp [IntKind.wrap, IntKind.bits, IntKind.signed]; omega

theorem evBin_lss_str {t : TypeId} {x y : Operand} {a b : List UInt8} : evBin P .lss t x y (.str a) (.str b) = some (.bool (Op.bytesLess a b)) := (rfl)
theorem evBin_eql_str {t : TypeId} {x y : Operand} {a b : List UInt8} : evBin P .eql t x y (.str a) (.str b) = some (.bool (a == b)) := (rfl)
theorem evBin_neq_str {t : TypeId} {x y : Operand} {a b : List UInt8} : evBin P .neq t x y (.str a) (.str b) = some (.bool (!(a == b))) := (rfl)
theorem evBin_add_str {t : TypeId} {x y : Operand} {a b : List UInt8} (h : a.length + b.length ≤ 1099511627776) : evBin P .add t x y (.str a) (.str b) = some (.str (a ++ b)) := by
  simp [evBin, strBin, h]

theorem eqv_bool {t : TypeId} {a b : Bool} (h : P.underlying t = some .bool) : eqv P 100 t (.bool a) (.bool b) = some (a == b) := by simp [eqv, h]
theorem eqv_int {t : TypeId} {k : IntKind} {a b : Int} (h : P.underlying t = some (.int k)) : eqv P 100 t (.int k a) (.int k b) = some (a == b) := by simp [eqv, h]
theorem eqv_nilp_ptr {t e : TypeId} {b o : Nat} (h : P.underlying t = some (.pointer e)) : eqv P 100 t .nilp (.ptr b o) = some false := by simp [eqv, h]
theorem eqv_ptr_nilp {t e : TypeId} {b o : Nat} (h : P.underlying t = some (.pointer e)) : eqv P 100 t (.ptr b o) .nilp = some false := by simp [eqv, h]
theorem eqv_nilp_nilp {t e : TypeId} (h : P.underlying t = some (.pointer e)) : eqv P 100 t .nilp .nilp = some true := by simp [eqv, h]
theorem eqv_nils_slc {t e : TypeId} {b o l c z : Nat} {x : Bool} (h : P.underlying t = some (.slice e)) : eqv P 100 t .nils (.slc b o l c z x) = some false := by simp [eqv, h]
theorem eqv_slc_nils {t e : TypeId} {b o l c z : Nat} {x : Bool} (h : P.underlying t = some (.slice e)) : eqv P 100 t (.slc b o l c z x) .nils = some false := by simp [eqv, h]
theorem eqv_nils_nils {t e : TypeId} (h : P.underlying t = some (.slice e)) : eqv P 100 t .nils .nils = some true := by simp [eqv, h]

theorem evBin_eql_bool {t : TypeId} {x y : Operand} {a b : Bool} (h : P.underlying t = some .bool) : evBin P .eql t x y (.bool a) (.bool b) = some (.bool (a == b)) := by
  simp [evBin, evEq, AV.isAny, eqv_bool h]
theorem evBin_neq_bool {t : TypeId} {x y : Operand} {a b : Bool} (h : P.underlying t = some .bool) : evBin P .neq t x y (.bool a) (.bool b) = some (.bool (!(a == b))) := by
  simp [evBin, evEq, AV.isAny, eqv_bool h]

theorem opdE_flt (k : FloatKind) (n : Nat) : opdE G e (.const (.float k n)) = some (.flt k n) := (rfl)
theorem evBin_lss_flt {t : TypeId} {x y : Operand} {k : FloatKind} {a b : Nat} : evBin P .lss t x y (.flt k a) (.flt k b) = some (.bool (fltLss k a b)) := by
  simp [evBin, binOp, Op.floatCmp, strip, flatAV]; rfl
theorem evBin_leq_flt {t : TypeId} {x y : Operand} {k : FloatKind} {a b : Nat} : evBin P .leq t x y (.flt k a) (.flt k b) = some (.bool (fltLeq k a b)) := by
  simp [evBin, binOp, Op.floatCmp, strip, flatAV]; rfl
theorem evBin_gtr_flt {t : TypeId} {x y : Operand} {k : FloatKind} {a b : Nat} : evBin P .gtr t x y (.flt k a) (.flt k b) = some (.bool (fltGtr k a b)) := by
  simp [evBin, binOp, Op.floatCmp, strip, flatAV]; rfl
theorem evBin_geq_flt {t : TypeId} {x y : Operand} {k : FloatKind} {a b : Nat} : evBin P .geq t x y (.flt k a) (.flt k b) = some (.bool (fltGeq k a b)) := by
  simp [evBin, binOp, Op.floatCmp, strip, flatAV]; rfl
attribute [simp] opdE_flt evBin_lss_flt evBin_leq_flt evBin_gtr_flt evBin_geq_flt

/-! tests against nil -/
theorem evBin_eql_ptr_nil {t e : TypeId} {x : Operand} {v : Value} {b o : Nat} (h : P.underlying t = some (.pointer e)) : evBin P .eql t x (.const v) (.ptr b o) .nilp = some (.bool false) := by
  simp [evBin, evEq, AV.isAny, eqv_ptr_nilp h]
theorem evBin_neq_ptr_nil {t e : TypeId} {x : Operand} {v : Value} {b o : Nat} (h : P.underlying t = some (.pointer e)) : evBin P .neq t x (.const v) (.ptr b o) .nilp = some (.bool true) := by
  simp [evBin, evEq, AV.isAny, eqv_ptr_nilp h]
theorem evBin_eql_nilp {t e : TypeId} {x y : Operand} (h : P.underlying t = some (.pointer e)) : evBin P .eql t x y .nilp .nilp = some (.bool true) := by
  simp [evBin, evEq, AV.isAny, eqv_nilp_nilp h]
theorem evBin_neq_nilp {t e : TypeId} {x y : Operand} (h : P.underlying t = some (.pointer e)) : evBin P .neq t x y .nilp .nilp = some (.bool false) := by
  simp [evBin, evEq, AV.isAny, eqv_nilp_nilp h]
attribute [simp] evBin_eql_ptr_nil evBin_neq_ptr_nil evBin_eql_nilp evBin_neq_nilp evBin_eql_bool evBin_neq_bool

theorem unary_neg {k : IntKind} {n : Int} : (strip P (Op.unary .neg (.int k n))).bind flatAV = some (.int k (k.wrap (0 - n))) := (rfl)
attribute [simp] unary_neg
theorem unary_not {b : Bool} : strip P (Op.unary .not (.bool b)) = some (.bool (!b)) := (rfl)

/-! memory -/
theorem get_set_same {b : Nat} {x : Blk} : (m.set b x).get b = some x := by rw [Mem.get_set, if_pos rfl]
theorem get_set_ne {b k : Nat} {x : Blk} (h : k ≠ b) : (m.set b x).get k = m.get k := by rw [Mem.get_set, if_neg h]
theorem get_kill_same {b : Nat} : (m.kill b).get b = none := by rw [Mem.get_kill, if_pos rfl]
theorem get_kill_ne {b k : Nat} (h : k ≠ b) : (m.kill b).get k = m.get k := by rw [Mem.get_kill, if_neg h]
theorem get_new_same {x : Blk} : (m.new x).get m.next = some x := by rw [Mem.get_new, if_pos rfl]
theorem get_new_ne {k : Nat} {x : Blk} (h : k ≠ m.next) : (m.new x).get k = m.get k := by rw [Mem.get_new, if_neg h]
theorem next_set {b : Nat} {x : Blk} : (m.set b x).next = m.next := (rfl)
theorem next_kill {b : Nat} : (m.kill b).next = m.next := (rfl)
theorem next_new {x : Blk} : (m.new x).next = m.next + 1 := (rfl)

def _root_.Go.Proofs.YtcbileongahhiaaGreat.Ev.Mem.grow (m : Mem) (k : Nat) : Mem := { m with next := m.next + k }
theorem get_grow {k b : Nat} : (m.grow k).get b = m.get b := (rfl)
theorem next_grow {k : Nat} : (m.grow k).next = m.next + k := (rfl)
theorem run_draws' {id : Nat} {ops : Array Oper} {K : Kont} : run P G call (.region id ops true) K e m = runOpsT P G call m.next ops ops.toList 0 [] [] K e (m.grow ops.size) := (rfl)

theorem fresh_new {x : Blk} (h : ∀ b, m.next ≤ b → m.get b = none) : ∀ b, (m.new x).next ≤ b → (m.new x).get b = none := by
  intro b hb
  rw [next_new] at hb
  rw [get_new_ne (by omega)]
  exact h b (by omega)

/-- the cells of a block that is known -/
theorem cells_of {b off n : Nat} {own : Bool} {fz : Option Nat} {t : TypeId} {cs : List AV} (h : m.get b = some (.row own fz t cs)) : m.cells b off n = if off + n ≤ cs.length then some ((cs.drop off).take n) else none := by
  simp only [Mem.cells, h]

theorem cells_new_same {off n : Nat} {own : Bool} {fz : Option Nat} {t : TypeId} {cs : List AV} : (m.new (.row own fz t cs)).cells m.next off n = if off + n ≤ cs.length then some ((cs.drop off).take n) else none := cells_of get_new_same
theorem cells_new_ne {off n k : Nat} {x : Blk} (h : ¬ k = m.next) : (m.new x).cells k off n = m.cells k off n := by simp only [Mem.cells, get_new_ne h]
theorem cells_set_same {b off n : Nat} {own : Bool} {fz : Option Nat} {t : TypeId} {cs : List AV} : (m.set b (.row own fz t cs)).cells b off n = if off + n ≤ cs.length then some ((cs.drop off).take n) else none := cells_of get_set_same
theorem cells_set_ne {off n k b : Nat} {x : Blk} (h : ¬ k = b) : (m.set b x).cells k off n = m.cells k off n := by simp only [Mem.cells, get_set_ne h]
theorem cells_kill_ne {off n k b : Nat} (h : ¬ k = b) : (m.kill b).cells k off n = m.cells k off n := by simp only [Mem.cells, get_kill_ne h]
theorem cells_grow {off n k b : Nat} : (m.grow k).cells b off n = m.cells b off n := (rfl)
theorem cells_row {b off n : Nat} {own : Bool} {fz : Option Nat} {t : TypeId} {cs : List AV} (h : m.get b = some (.row own fz t cs)) : m.cells b off n = if off + n ≤ cs.length then some ((cs.drop off).take n) else none := cells_of h
theorem cells_new_eq {off n k : Nat} {own : Bool} {fz : Option Nat} {t : TypeId} {cs : List AV} (h : k = m.next) : (m.new (.row own fz t cs)).cells k off n = if off + n ≤ cs.length then some ((cs.drop off).take n) else none := by subst h; exact cells_of get_new_same
theorem get_new_eq {x : Blk} {k : Nat} (h : k = m.next) : (m.new x).get k = some x := by subst h; exact get_new_same
attribute [simp] cells_new_eq get_new_eq
attribute [simp] cells_new_same cells_new_ne cells_set_same cells_set_ne cells_kill_ne cells_grow get_set_ne get_kill_ne get_new_ne Mem.store Mem.entries Mem.elem
attribute [simp] run_skip run_label run_exit run_ret run_scope run_seq run_block run_cond run_region run_draws' run_loop_stop
attribute [simp] resume_done resume_seq resume_seq_exit resume_seq_ret resume_block resume_block_exit resume_block_ret runCond_bool
attribute [simp] runOps_nil runOps_cons runOps_guard after_some step1_none step1_some afterCall_some afterCall_none guarded_bool guarded_tup atSlot_some slotOf
attribute [simp] runOpsT_nil runOpsT_cons runOpsT_guard afterT_some guardedT_bool guardedT_tup
attribute [simp] opdE_tmp opdE_bool opdE_int opdE_nils opdE_nilp opdE_nilm opdE_nilf opdE_nili opdE_str opdE_agg opdE_func initE_apply setE_some setE_none upd_apply
attribute [simp] fillAV repCells Nat.testBit AV.scal AV.scal1 callTo operAtE evOp evOpAt evPure evNew opVals partVals optVal natOf optNat toV flatAV flatAVs asField partAV evSlice evBuiltin Ref.at AV.cells AV.flat
attribute [simp 500] evRead.eq_1 evEff.eq_1
attribute [simp] evBin_add evBin_sub evBin_mul evBin_lss evBin_leq evBin_gtr evBin_geq evBin_eql evBin_neq evBin_lss_str evBin_eql_str evBin_neq_str unary_not
attribute [simp] get_set_same get_kill_same get_new_same next_set next_kill next_new get_grow next_grow
attribute [simp] resultsE resultE tupled
end
end Go.Proofs.YtcbileongahhiaaGreat.Ev
