/- device: what a new switch is in memory; the contracts of New and of State. -/
import Derived.Test.YtcbileongahhiaaGreatTopo5
import Derived.Test.YtcbileongahhiaaGreatStart
namespace Go.Proofs.YtcbileongahhiaaGreat.Ev
open Go Go.Proofs
set_option linter.unusedVariables false
set_option linter.unusedSimpArgs false

/-- a switch without entries, groups and meters, made with room for 9; its blocks lie behind each other -/
structure IsDev (m : Mem) (d : Nat) (live : List Bool) : Prop where
  flows : m.get d = some (.row true (some 0) 168 (.int .i64 9 :: List.replicate 8 .nils))
  gmap : m.get (d + 1) = some (.map [])
  groups : m.get (d + 2) = some (.row true (some 0) 177 [.int .i64 9, .map (d + 1)])
  live : m.get (d + 3) = some (.row true (some 0) 4 (live.map .bool))
  meters : m.get (d + 4) = some (.row true (some 0) 147 (List.replicate 17 .nilp))
  self : m.get (d + 5) = some (.row true (some 0) 215 ([.ptr d 0, .ptr (d + 2) 0, .slc (d + 4) 0 17 17 1 true, .slc (d + 3) 0 17 17 1 true] ++ List.replicate 51 (.int .i64 0) ++ [.str []]))

def liveAll : List Bool := false :: List.replicate 16 true

noncomputable def devRun : Option (AV × Mem) := evCall Tryz.prog prims 0 2000 32 [.int .i64 16, .int .i64 9, .int .i64 9] ⟨.nil, 0⟩
theorem devRun_v : devRun.map (·.1) = some (.tup [.ptr 5 0, .int .i64 0]) := by kernel_rfl
theorem devRun_n : devRun.map (·.2.next) = some 6 := by kernel_rfl
theorem devRun_0 : devRun.map (·.2.get 0) = some (some (.row true (some 0) 168 (.int .i64 9 :: List.replicate 8 .nils))) := by kernel_rfl
theorem devRun_1 : devRun.map (·.2.get 1) = some (some (.map [])) := by kernel_rfl
theorem devRun_2 : devRun.map (·.2.get 2) = some (some (.row true (some 0) 177 [.int .i64 9, .map 1])) := by kernel_rfl
theorem devRun_3 : devRun.map (·.2.get 3) = some (some (.row true (some 0) 4 (liveAll.map .bool))) := by kernel_rfl
theorem devRun_4 : devRun.map (·.2.get 4) = some (some (.row true (some 0) 147 (List.replicate 17 .nilp))) := by kernel_rfl
theorem devRun_5 : devRun.map (·.2.get 5) = some (some (.row true (some 0) 215 ([.ptr 0 0, .ptr 2 0, .slc 4 0 17 17 1 true, .slc 3 0 17 17 1 true] ++ List.replicate 51 (.int .i64 0) ++ [.str []]))) := by kernel_rfl

theorem dev_some : ∃ mg, devRun = some (.tup [.ptr 5 0, .int .i64 0], mg) := run_some devRun_v

theorem devNew_ok {m : Mem} : ContrR Tryz.prog 0 32 [.int .i64 16, .int .i64 9, .int .i64 9] m fun v m' => Ext m m' ∧ v = .tup [.ptr (m.next + 5) 0, .int .i64 0] ∧ IsDev m' m.next liveAll ∧ m'.next = m.next + 6 := by
  obtain ⟨mg, h⟩ := dev_some
  have hn := devRun_n
  have h0 := devRun_0
  have h1 := devRun_1
  have h2 := devRun_2
  have h3 := devRun_3
  have h4 := devRun_4
  have h5 := devRun_5
  rw [h] at hn h0 h1 h2 h3 h4 h5
  simp only [Option.map_some, Option.some.injEq] at hn h0 h1 h2 h3 h4 h5
  refine (contrR_new mixed sane primsOk (prims_none (by decide)) h rfl).mono ?_
  rintro v m' ⟨hx, hnx, rfl, hat⟩
  rw [hn] at hnx hat
  refine ⟨hx, by simp [AV.ren, AV.renL], ⟨?_, ?_, ?_, ?_, ?_, ?_⟩, hnx⟩
  · have := hat 0 _ (by omega) h0
    simpa [Blk.ren, AV.ren, AV.renL_eq] using this
  · have := hat 1 _ (by omega) h1
    simpa [Blk.ren, AV.ren, AV.renL_eq] using this
  · have := hat 2 _ (by omega) h2
    simpa [Blk.ren, AV.ren, AV.renL_eq] using this
  · have := hat 3 _ (by omega) h3
    simpa [Blk.ren, AV.ren, AV.renL_eq, liveAll] using this
  · have := hat 4 _ (by omega) h4
    simpa [Blk.ren, AV.ren, AV.renL_eq] using this
  · have := hat 5 _ (by omega) h5
    simpa [Blk.ren, AV.ren, AV.renL_eq] using this
end Go.Proofs.YtcbileongahhiaaGreat.Ev
