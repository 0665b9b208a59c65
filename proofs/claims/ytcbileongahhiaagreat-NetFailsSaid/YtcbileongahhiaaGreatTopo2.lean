/- topo: what a topology is in memory; the contracts of Size, Peer, Home. -/
import Derived.Test.YtcbileongahhiaaGreatTopo1
namespace Go.Proofs.YtcbileongahhiaaGreat.Ev
open Go Go.Proofs
set_option linter.unusedVariables false
set_option linter.unusedSimpArgs false

abbrev PlL := Int × Int
abbrev EndL := Int × Int × Int
def encPl (p : PlL) : AV := .agg [.int .i64 p.1, .int .i64 p.2]
def encEnd (p : EndL) : AV := .agg [.int .i64 p.1, .int .i64 p.2.1, .int .i64 p.2.2]

theorem notHeld_pl : Tryz.prog.stoodInHeld 204 = false := by kernel_rfl
theorem keyPl : KeyOk Tryz.prog 204 encPl := by
  refine ⟨fun a b => ?_, fun a => ?_, fun a => rfl, fun a => by simp⟩
  · obtain ⟨a1, a2⟩ := a
    obtain ⟨b1, b2⟩ := b
    have e : eqv Tryz.prog 100 204 (encPl (a1, a2)) (encPl (b1, b2)) = (match some (a1 == b1) with | some true => (match some (a2 == b2) with | some true => some true | r => r) | r => r) := by kernel_rfl
    rw [e]
    by_cases h1 : a1 = b1 <;> by_cases h2 : a2 = b2 <;> simp [h1, h2]
  · kernel_rfl
theorem keyI : KeyOk Tryz.prog 3 encInt := keyInt Tryz.underlying3

theorem lookPl {β : Type} {encv : β → AV} {l : List (PlL × β)} {a b : Int} : lookEs Tryz.prog 204 (mapEs encPl encv l) (.agg [.int .i64 a, .int .i64 b]) = some ((look (a, b) l).map encv) := lookEs_mapEs keyPl (x := (a, b))
theorem lookI {β : Type} {encv : β → AV} {l : List (Int × β)} {a : Int} : lookEs Tryz.prog 3 (mapEs encInt encv l) (.int .i64 a) = some ((look a l).map encv) := lookEs_mapEs keyI (x := a)
theorem putPlEnd {l : List (PlL × EndL)} {a b x y z : Int} : putEs Tryz.prog 204 (mapEs encPl encEnd l) (.agg [.int .i64 a, .int .i64 b]) (.agg [.int .i64 x, .int .i64 y, .int .i64 z]) = some (mapEs encPl encEnd (putAt (a, b) (x, y, z) l)) := putEs_mapEs keyPl (x := (a, b)) (u := (x, y, z))
theorem putIPl {l : List (Int × PlL)} {a x y : Int} : putEs Tryz.prog 3 (mapEs encInt encPl l) (.int .i64 a) (.agg [.int .i64 x, .int .i64 y]) = some (mapEs encInt encPl (putAt a (x, y) l)) := putEs_mapEs keyI (x := a) (u := (x, y))
attribute [simp] lookPl lookI putPlEnd putIPl

structure TopoL where
  size : Int
  ends : List (PlL × EndL)
  homes : List (Int × PlL)

/-- a topology in memory: its block, its maps', its costs -/
structure IsTopo (m : Mem) (b eb hb : Nat) (cv : AV) (T : TopoL) : Prop where
  self : m.get b = some (.row true (some 0) 184 [.int .i64 T.size, .map eb, .map hb, cv])
  ends : m.get eb = some (.map (mapEs encPl encEnd T.ends))
  homes : m.get hb = some (.map (mapEs encInt encPl T.homes))

theorem IsTopo.ext {m m' : Mem} {b eb hb : Nat} {cv : AV} {T : TopoL} (h : IsTopo m b eb hb cv T) (hfr : Fresh m) (hx : Ext m m') : IsTopo m' b eb hb cv T :=
  ⟨hx.get hfr h.self, hx.get hfr h.ends, hx.get hfr h.homes⟩

def TopoL.peer (T : TopoL) (sw port : Int) : EndL := (look (sw, port) T.ends).getD (0, 0, 0)
def TopoL.home (T : TopoL) (host : Int) : PlL := (look host T.homes).getD (0, 0)

theorem size_ok {m : Mem} {b eb hb : Nat} {cv : AV} {T : TopoL} (h : IsTopo m b eb hb cv T) : Contr Tryz.prog 0 81 [.ptr b 0] m (.int .i64 T.size) m := by
  refine contr_go (call := tab0) mixed sane Tryz.func81 rfl (by rw [Tryz.ntmps81]; exact Nat.le_of_ble_eq_true rfl) tab0_ok fun hfr => ?_
  simp -implicitDefEqProofs [cells_row h.self]
  exact fin_flat hfr Ext.refl trivial rfl rfl rfl

theorem home_ok {m : Mem} {b eb hb : Nat} {cv : AV} {T : TopoL} {host : Int} (h : IsTopo m b eb hb cv T) : Contr Tryz.prog 0 29 [.ptr b 0, .int .i64 host] m (.tup [.int .i64 (T.home host).1, .int .i64 (T.home host).2]) m := by
  refine contr_go (call := tab0) mixed sane Tryz.func29 rfl (by rw [Tryz.ntmps29]; exact Nat.le_of_ble_eq_true rfl) tab0_ok fun hfr => ?_
  have d4 : ancsAt 4 Tryz.f29 = [0, 1, 0, 4, 3, 31] := by kernel_rfl
  simp only [ancsAt, Tryz.f29, opsAt, Option.or_some, Option.none_or, Option.some_or, Option.or_none, Option.getD_none, Option.getD_some, if_true, if_false, reduceIte, Nat.reduceEqDiff] at d4
  cases hl : look host T.homes with
  | none =>
    simp -implicitDefEqProofs [cells_row h.self, h.homes, hl, d4]
    refine ⟨by omega, fin_flat hfr ?_ trivial rfl ?_ rfl⟩
    · (repeat' first | with_reducible exact Ext.refl | with_reducible assumption | with_reducible apply Ext.grow | with_reducible apply Ext.new | with_reducible refine Ext.set ?_ ?_ | with_reducible refine Ext.kill ?_ ?_ | (simp only [next_new, next_set, next_grow, next_kill]; omega) | omega)
    · simp [TopoL.home, hl]
  | some p =>
    simp -implicitDefEqProofs [cells_row h.self, h.homes, hl, d4, encPl]
    refine ⟨by omega, fin_flat hfr ?_ trivial rfl ?_ rfl⟩
    · (repeat' first | with_reducible exact Ext.refl | with_reducible assumption | with_reducible apply Ext.grow | with_reducible apply Ext.new | with_reducible refine Ext.set ?_ ?_ | with_reducible refine Ext.kill ?_ ?_ | (simp only [next_new, next_set, next_grow, next_kill]; omega) | omega)
    · simp [TopoL.home, hl]

theorem peer_ok {m : Mem} {b eb hb : Nat} {cv : AV} {T : TopoL} {sw port : Int} (h : IsTopo m b eb hb cv T) : Contr Tryz.prog 0 83 [.ptr b 0, .int .i64 sw, .int .i64 port] m (.tup [.int .i64 (T.peer sw port).1, .int .i64 (T.peer sw port).2.1, .int .i64 (T.peer sw port).2.2]) m := by
  refine contr_go (call := tab0) mixed sane Tryz.func83 rfl (by rw [Tryz.ntmps83]; exact Nat.le_of_ble_eq_true rfl) tab0_ok fun hfr => ?_
  have d4 : ancsAt 4 Tryz.f83 = [0, 1, 3, 0, 8, 24, 0, 64, 7, 319, 1023] := by kernel_rfl
  simp only [ancsAt, Tryz.f83, opsAt, Option.or_some, Option.none_or, Option.some_or, Option.or_none, Option.getD_none, Option.getD_some, if_true, if_false, reduceIte, Nat.reduceEqDiff] at d4
  cases hl : look (sw, port) T.ends with
  | none =>
    simp -implicitDefEqProofs [cells_row h.self, h.ends, hl, d4]
    refine ⟨by omega, fin_flat hfr ?_ trivial rfl ?_ rfl⟩
    · (repeat' first | with_reducible exact Ext.refl | with_reducible assumption | with_reducible apply Ext.grow | with_reducible apply Ext.new | with_reducible refine Ext.set ?_ ?_ | with_reducible refine Ext.kill ?_ ?_ | (simp only [next_new, next_set, next_grow, next_kill]; omega) | omega)
    · simp [TopoL.peer, hl]
  | some p =>
    simp -implicitDefEqProofs [cells_row h.self, h.ends, hl, d4, encEnd]
    refine ⟨by omega, fin_flat hfr ?_ trivial rfl ?_ rfl⟩
    · (repeat' first | with_reducible exact Ext.refl | with_reducible assumption | with_reducible apply Ext.grow | with_reducible apply Ext.new | with_reducible refine Ext.set ?_ ?_ | with_reducible refine Ext.kill ?_ ?_ | (simp only [next_new, next_set, next_grow, next_kill]; omega) | omega)
    · simp [TopoL.peer, hl]

/-- the ports of a switch that have a link -/
def TopoL.ports (T : TopoL) (sw : Int) (n : Nat) : List Int := ((List.range n).map fun (k : Nat) => ((k : Int) + 1)).filter fun p => (look (sw, p) T.ends).isSome
end Go.Proofs.YtcbileongahhiaaGreat.Ev
