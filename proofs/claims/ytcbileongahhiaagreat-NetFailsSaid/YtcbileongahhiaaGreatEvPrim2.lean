/- A contract: a new row of bytes that are not known. -/
import Derived.Test.YtcbileongahhiaaGreatEvPrim
import Derived.Lib.MakeNoZero
namespace Go.Proofs.YtcbileongahhiaaGreat.Ev
open Go Go.RowKit
set_option linter.unusedVariables false
set_option linter.unusedSimpArgs false

section
variable {P : Program} {B0 G : Nat} {ι κ : Inj} {m m' : Mem} {w w' : World}

theorem digits_flat : ∀ (n t : Nat) (acc : Array Value), (∀ v ∈ acc.toList, v.oneCell' = true) → ∀ v ∈ (Extern.BytealgMakeNoZero.digits n t acc).toList, v.oneCell' = true
  | 0, _, _, h => h
  | n + 1, t, acc, h => digits_flat n _ _ fun v hv => by
    rw [Array.toList_push] at hv
    rcases List.mem_append.1 hv with hv | hv
    · exact h v hv
    · simp at hv; subst hv; rfl

def noZero (elem : TypeId) : List AV → Mem → Option (AV × Mem)
  | [.int .i64 n], m => if 0 ≤ n ∧ n ≤ 2 ^ 40 then some (.slc m.next 0 n.toNat n.toNat 1 false, m.new (.row true (some 0) elem (List.replicate n.toNat .any))) else none
  | _, _ => none

theorem gives_noZero {f : FuncId} {fn : Func} {t e : TypeId} {ps : Array TypeId} (hf : P.funcs[f]? = some fn) (hname : (fn.name == "runtime.NumGoroutine") = false) (hb : fn.body.isNone = true) (hn : Extern.findNext fn = none)
    (he : Extern.find fn = some (Extern.BytealgMakeNoZero.makeNoZero ps #[t])) (ht : P.underlying t = some (.slice e))
    {args : List AV} {v : AV} (h : noZero e args m = some (v, m')) {arr : Array Value} (hR : Rel P B0 ι m w) (ha : VRL ι args arr.toList) :
    CallGives P f arr w fun z w' => ∃ κ, Step P B0 ι m w κ m' w' ∧ VR κ v z := by
  unfold noZero at h
  split at h
  · rename_i n
    split at h
    · rename_i hn0
      obtain ⟨h0, h1⟩ := hn0
      simp only [Option.some.injEq, Prod.mk.injEq] at h
      obtain ⟨rfl, rfl⟩ := h
      obtain ⟨u, rfl, r⟩ := args_one ha
      have hu := VR.int_inv r
      subst hu
      obtain ⟨k, rfl⟩ : ∃ k : Nat, n = k := ⟨n.toNat, by omega⟩
      rw [Int.toNat_natCast]
      obtain ⟨cs, hcs⟩ : ∃ cs, cs = Extern.BytealgMakeNoZero.digits (grownCap w k 0 e) ((Question.extern "internal/bytealg.MakeNoZero.bytes" 0).cut (w.tape (w.drawn + 1) (.extern "internal/bytealg.MakeNoZero.bytes" 0))) #[] := ⟨_, rfl⟩
      have hsize : cs.size = grownCap w k 0 e := by rw [hcs, Lib.size_digits]; simp
      have hge : k ≤ cs.size := by rw [hsize]; simpa using grownCap_ge w k 0 e
      have hflat : ∀ v ∈ cs.toList, v.oneCell' = true := by rw [hcs]; exact digits_flat _ _ _ (by simp)
      have hrun : (Extern.BytealgMakeNoZero.makeNoZero ps #[t] #[.int .i64 k]).run P w = .ok (.slice (some ⟨w.heap.size, 0, none⟩) k cs.size) { w with heap := w.heap.push (.cells cs e), drawn := w.drawn + 2 } := by
        have hdef : Extern.BytealgMakeNoZero.makeNoZero ps #[t] #[.int .i64 k] =
          (do
            let .slice elem ← underlying t | stuck "bytealg.MakeNoZero: slice type expected"
            if (k : Int) < 0 || (k : Int) > 2 ^ 48 then runtimePanic (.error "makeslice: len out of range")
            let cap ← choose (.appendCap (k : Int).toNat 0 elem)
            askRoom cap
            let bytes ← choose (.extern "internal/bytealg.MakeNoZero.bytes" 0)
            let a ← newRow elem (Extern.BytealgMakeNoZero.digits cap bytes #[])
            pure (.slice (some a) (k : Int).toNat cap)) := rfl
        rw [hdef, hsize]
        have h1' : ¬ (k : Int) < 0 := by omega
        have h2' : ¬ (281474976710656 : Int) < (k : Int) := by omega
        simp [run_underlying ht, h1', h2', Question.forced, newRow, grownCap, hcs]
        rfl
      have hM : Made P ι w { w with heap := w.heap.push (.cells cs e), drawn := w.drawn + 2 } (.slc k k 1 false) (.row true (some 0) e (List.replicate k .any)) (.slice (some ⟨w.heap.size, 0, none⟩) k cs.size) := by
        refine row_lies_more (by simpa using hge) ?_ (slc_at (by simpa using hge) (by omega) (Nat.le_refl _))
        refine VRL.of_get (by simp; omega) fun i a v ha hv => ?_
        rw [List.getElem?_replicate] at ha
        split at ha
        · injection ha with ha
          subst ha
          simp only [VR]
          refine hflat v ?_
          exact List.mem_of_mem_take (List.mem_of_getElem? hv)
        · cases ha
      obtain ⟨κ, st, rz⟩ := hM.step hR rfl
      exact .inr ⟨_, _, by rw [run_callFunc_extern hf hname hb hn he, hrun]; rfl, κ, st, rz⟩
    · cases h
  · cases h
end
end Go.Proofs.YtcbileongahhiaaGreat.Ev
