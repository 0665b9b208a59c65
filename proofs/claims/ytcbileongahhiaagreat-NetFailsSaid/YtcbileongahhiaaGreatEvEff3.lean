/- The operations that write memory, continued. -/
import Derived.Test.YtcbileongahhiaaGreatEvEff2
namespace Go.Proofs.YtcbileongahhiaaGreat.Ev
open Go
set_option linter.unusedVariables false
set_option linter.unusedSimpArgs false

mutual
theorem same_eq : ∀ (a b : AV), AV.same a b = true → a = b
  | .bool a, b, h => by cases b <;> simp [AV.same] at h; rw [h]
  | .int k a, b, h => by cases b <;> simp [AV.same] at h; rw [h.1, h.2]
  | .flt k a, b, h => by cases b <;> simp [AV.same] at h; rw [h.1, h.2]
  | .str a, b, h => by cases b <;> simp [AV.same] at h; rw [h]
  | .ptr a c, b, h => by cases b <;> simp [AV.same] at h; rw [h.1, h.2]
  | .nilp, b, h => by cases b <;> simp [AV.same] at h <;> rfl
  | .slc a1 a2 a3 a4 a5 a6, b, h => by
    cases b <;> simp [AV.same] at h
    obtain ⟨⟨⟨⟨⟨h1, h2⟩, h3⟩, h4⟩, h5⟩, h6⟩ := h
    rw [h1, h2, h3, h4, h5, h6]
  | .nils, b, h => by cases b <;> simp [AV.same] at h <;> rfl
  | .map a, b, h => by cases b <;> simp [AV.same] at h; rw [h]
  | .any, b, h => by cases b <;> simp [AV.same] at h <;> rfl
  | .nilm, b, h => by cases b <;> simp [AV.same] at h <;> rfl
  | .func f l c, b, h => by
    cases b <;> simp [AV.same] at h
    obtain ⟨⟨h1, h2⟩, h3⟩ := h
    rw [h1, sameL_eq l _ h2, sameL_eq c _ h3]
  | .nilf, b, h => by cases b <;> simp [AV.same] at h <;> rfl
  | .iface t v, b, h => by cases b <;> simp [AV.same] at h; rw [h.1, same_eq v _ h.2]
  | .nili, b, h => by cases b <;> simp [AV.same] at h <;> rfl
  | .agg l, b, h => by cases b <;> simp [AV.same] at h; rw [sameL_eq l _ h]
  | .tup l, b, h => by cases b <;> simp [AV.same] at h; rw [sameL_eq l _ h]
theorem sameL_eq : ∀ (a b : List AV), AV.sameL a b = true → a = b
  | [], b, h => by cases b <;> simp [AV.sameL] at h; rfl
  | x :: a, b, h => by
    cases b <;> simp [AV.sameL] at h
    rw [same_eq x _ h.1, sameL_eq a _ h.2]
end

section
variable {P : Program} {B0 : Nat} {ι : Inj} {m : Mem} {w : World}

theorem scal1_eq {a : AV} {x y : Value} (hs : a.scal1 = true) (hx : VR ι a x) (hy : VR ι a y) : x = y ∧ ∀ n, Instr.sameBits n x x = true := by
  cases a <;> simp [AV.scal1] at hs <;> simp only [VR] at hx hy <;> subst hx <;> subst hy <;> exact ⟨rfl, fun n => by cases n <;> simp [Instr.sameBits, beq_toListBytes]⟩

theorem scalL_eq : ∀ {cs : List AV} {xs ys : List Value}, cs.all AV.scal1 = true → VRL ι cs xs → VRL ι cs ys → xs = ys ∧ ∀ n, ((xs.zip xs).all fun (x, y) => Instr.sameBits n x y) = true
  | [], xs, ys, _, hx, hy => by rw [VRL.nil_iff.1 hx, VRL.nil_iff.1 hy]; exact ⟨rfl, fun n => rfl⟩
  | c :: cs, xs, ys, hs, hx, hy => by
    simp only [List.all_cons, Bool.and_eq_true] at hs
    obtain ⟨x, xs', rfl, h1, h2⟩ := VRL.cons_iff.1 hx
    obtain ⟨y, ys', rfl, h3, h4⟩ := VRL.cons_iff.1 hy
    obtain ⟨e1, e2⟩ := scal1_eq hs.1 h1 h3
    obtain ⟨e3, e4⟩ := scalL_eq hs.2 h2 h4
    exact ⟨by rw [e1, e3], fun n => by simp only [List.zip_cons_cons, List.all_cons, e2, e4, Bool.and_self]⟩

theorem scal_eq {a : AV} {x y : Value} (hs : a.scal = true) (hx : VR ι a x) (hy : VR ι a y) : x = y ∧ ∀ n, Instr.sameBits (n + 1) x x = true := by
  cases a with
  | agg cs =>
    simp only [AV.scal] at hs
    obtain ⟨xs, rfl, h1⟩ := VR.agg_inv hx
    obtain ⟨ys, rfl, h2⟩ := VR.agg_inv hy
    obtain ⟨e1, e2⟩ := scalL_eq hs h1 h2
    refine ⟨by congr 1; exact Array.ext' e1, fun n => ?_⟩
    simp only [Instr.sameBits, beq_self_eq_true, Bool.true_and]
    exact e2 n
  | bool | int | str =>
    obtain ⟨e1, e2⟩ := scal1_eq (by simpa [AV.scal] using hs) hx hy
    exact ⟨e1, fun n => e2 _⟩
  | _ => simp [AV.scal, AV.scal1] at hs

theorem setObj_run {r : Nat} {es : Array MapEntry} {c : Nat} {o : Obj} (h : w.heap[r]? = some (.map es c)) : (setObj r o).run P w = .ok () { w with heap := w.heap.setIfInBounds r o } := by
  simp [setObj, Sem.run, h]

theorem getObj_run {r : Nat} {es : Array MapEntry} {c : Nat} (h : w.heap[r]? = some (.map es c)) : (getObj r).run P w = .ok (.map es c) w := by
  simp [getObj, Sem.run, h]

/-- a map of ours is written anew -/
theorem Step.wmap {b : Nat} {p : Place} {es es2 : List (AV × AV)} {es2' : Array MapEntry} {clock2 : Nat} (hR : Rel P B0 ι m w) (hb : ι b = some p) (hg : m.get b = some (.map es)) (he : EsR ι es2 es2' clock2) :
    Step P B0 ι m w ι (m.set b (.map es2)) { w with heap := w.heap.setIfInBounds p.blk (.map es2' clock2) } := by
  refine Step.write hR hb hg rfl ?_
  simp only [BR]
  have hk : p.blk < w.heap.size := (hR.lt b p hb).2
  exact ⟨es2', clock2, by simp [hk], he⟩

theorem EsR.none (clock : Nat) : EsR ι [] #[] clock := ⟨rfl, fun i kv e h => by simp at h, by simp, fun e he => by simp at he⟩

theorem EsR.push {es : List (AV × AV)} {es' : Array MapEntry} {clock : Nat} {k v : AV} {k' v' : Value} (h : EsR ι es es' clock) (rk : VR ι k k') (rv : VR ι v v') : EsR ι (es ++ [(k, v)]) (es'.push { key := k', val := v', born := clock }) (clock + 1) where
  len := by simp [h.len]
  at_ := fun i kv e ha hb => by
    have hl := h.len
    rw [Array.getElem?_push] at hb
    by_cases hi : i = es'.size
    · rw [if_pos hi] at hb
      injection hb with hb
      subst hb
      rw [List.getElem?_append_right (by omega)] at ha
      have : i - es.length = 0 := by omega
      rw [this] at ha
      simp at ha
      subst ha
      exact ⟨rk, rv⟩
    · rw [if_neg hi] at hb
      have hlt : i < es'.size := (Array.getElem?_eq_some_iff.1 hb).1
      rw [List.getElem?_append_left (by omega)] at ha
      exact h.at_ i kv e ha hb
  born := by
    rw [Array.toList_push, List.map_append, List.pairwise_append]
    refine ⟨h.born, by simp, fun a ha b hb => ?_⟩
    simp only [List.mem_map] at ha
    obtain ⟨e, he, rfl⟩ := ha
    simp at hb
    subst hb
    exact h.clock e he
  clock := fun e he => by
    rw [Array.toList_push, List.mem_append] at he
    rcases he with he | he
    · have := h.clock e he; omega
    · simp at he; subst he; simp

theorem EsR.set {es : List (AV × AV)} {es' : Array MapEntry} {clock i : Nat} {k v : AV} {k' v' : Value} (h : EsR ι es es' clock) (hi : i < es.length) (rk : VR ι k k') (rv : VR ι v v') :
    EsR ι (es.set i (k, v)) (es'.modify i fun e => { e with key := k', val := v' }) clock where
  len := by simp [h.len]
  at_ := fun j kv e ha hb => by
    rw [Array.getElem?_modify] at hb
    rw [List.getElem?_set] at ha
    by_cases hj : i = j
    · subst hj
      rw [if_pos rfl] at ha hb
      rw [if_pos hi] at ha
      injection ha with ha
      subst ha
      simp only [Option.map_eq_some_iff] at hb
      obtain ⟨e0, _, rfl⟩ := hb
      exact ⟨rk, rv⟩
    · rw [if_neg hj] at ha hb
      exact h.at_ j kv e ha hb
  born := by
    have : (es'.modify i fun e => { e with key := k', val := v' }).toList.map (·.born) = es'.toList.map (·.born) := by
      apply List.ext_getElem?
      intro j
      simp only [List.getElem?_map, Array.getElem?_toList, Array.getElem?_modify]
      split
      · cases es'[j]? <;> rfl
      · rfl
    rw [this]; exact h.born
  clock := fun e he => by
    obtain ⟨j, hj⟩ := List.getElem?_of_mem he
    rw [Array.getElem?_toList, Array.getElem?_modify] at hj
    split at hj
    · simp only [Option.map_eq_some_iff] at hj
      obtain ⟨e0, h0, rfl⟩ := hj
      exact h.clock e0 (Array.mem_toList_iff.2 (Array.mem_of_getElem? h0))
    · exact h.clock e (Array.mem_toList_iff.2 (Array.mem_of_getElem? hj))

theorem EsR.erase {es : List (AV × AV)} {es' : Array MapEntry} {clock i : Nat} (h : EsR ι es es' clock) (hi : i < es.length) : EsR ι (es.eraseIdx i) (es'.eraseIdxIfInBounds i) clock := by
  have hl := h.len
  have hlt : i < es'.size := by omega
  have e0 : es'.eraseIdxIfInBounds i = es'.eraseIdx i hlt := by simp [Array.eraseIdxIfInBounds, hlt]
  rw [e0]
  have e1 : (es'.eraseIdx i hlt).toList = es'.toList.eraseIdx i := by simp
  refine ⟨by rw [Array.size_eraseIdx, List.length_eraseIdx_of_lt hi]; omega, fun j kv e ha hb => ?_, ?_, fun e he => ?_⟩
  · rw [← Array.getElem?_toList, e1] at hb
    rw [List.getElem?_eraseIdx] at ha hb
    split at ha
    · rename_i hj; rw [if_pos hj] at hb; exact h.at_ j kv e ha (by rw [← Array.getElem?_toList]; exact hb)
    · rename_i hj; rw [if_neg hj] at hb; exact h.at_ (j + 1) kv e ha (by rw [← Array.getElem?_toList]; exact hb)
  · rw [e1]
    have : (es'.toList.eraseIdx i).Sublist es'.toList := List.eraseIdx_sublist _ _
    exact List.Pairwise.sublist (this.map _) h.born
  · rw [e1] at he
    exact h.clock e (List.mem_of_mem_eraseIdx he)

theorem mapUpdate_run (hR : Rel P B0 ι m w) {t kt et : TypeId} {b : Nat} {k v : AV} {x' k' v' : Value} {es : List (AV × AV)} {m' : Mem} (hu : P.underlying t = some (.map kt et)) (rx : VR ι (.map b) x') (rk : VR ι k k') (rv : VR ι v v')
    (hes : m.entries b = some es) (hkey : (keyV P 100 kt k && k.scal) = true)
    (h : (match findAV P kt k es 0 with
        | some (some (i, _)) => match es[i]? with
          | some (k', _) => if AV.same k' k then some ((.tup [] : AV), m.set b (.map (es.set i (k, v)))) else none
          | none => none
        | some none => some (.tup [], m.set b (.map (es ++ [(k, v)])))
        | none => none) = some (.tup [], m')) :
    ∃ w', (Instr.mapUpdate t x' k' v').run P w = .ok () w' ∧ Step P B0 ι m w ι m' w' := by
  simp only [Bool.and_eq_true] at hkey
  obtain ⟨p, hp, e⟩ := VR.map_inv rx
  subst e
  have hg := entries_get hes
  obtain ⟨es', clock, hh, he⟩ := hR.blk.map hp hg
  have hck := checkKey_run 100 10000 (by decide) kt k _ rk hkey.1 false
  obtain ⟨ukt, hukt⟩ : ∃ u, P.underlying kt = some u := by
    have := hkey.1
    cases hq : P.underlying kt with
    | none => simp [keyV, hq] at this
    | some u => exact ⟨u, rfl⟩
  split at h
  · rename_i i v0 hf
    obtain ⟨r', hrun, e0, he0, hi0, he2, rv0⟩ := findKey_run hukt rk he hf
    subst he0
    rw [Nat.sub_zero, Array.getElem?_toList] at he2
    split at h
    · rename_i k0 v1 hki
      split at h
      · rename_i hsame
        have := same_eq _ _ hsame
        subst this
        simp only [Option.some.injEq, Prod.mk.injEq, true_and] at h
        subst h
        have hi : i < es.length := (List.getElem?_eq_some_iff.1 hki).1
        obtain ⟨rk0, _⟩ := he.at_ i _ e0 hki he2
        obtain ⟨ek, hbits⟩ := scal_eq hkey.2 rk0 rk
        refine ⟨_, ?_, Step.wmap hR hp hg (he.set hi rk rv)⟩
        have hkeep : (Instr.keyThatStays (((es'[i]?).map (·.key)).getD k') k').run P w = .ok k' w := by
          rw [he2]
          simp only [Option.map_some, Option.getD_some, Instr.keyThatStays, ek]
          rw [← ek, hbits 9999]
          rfl
        simp [Instr.mapUpdate, run_und w hu, getObj_run hh, hck, hrun, hkeep, setObj_run hh]
      · cases h
    · cases h
  · rename_i hf
    obtain ⟨r', hrun, he0⟩ := findKey_run hukt rk he hf
    have he0 : r' = none := he0
    subst he0
    simp only [Option.some.injEq, Prod.mk.injEq, true_and] at h
    subst h
    refine ⟨_, ?_, Step.wmap hR hp hg (he.push rk rv)⟩
    simp [Instr.mapUpdate, run_und w hu, getObj_run hh, hck, hrun, setObj_run hh]
  · cases h


theorem VR.tup0 : VR ι (.tup []) (.tuple #[]) := by simp only [VR]; exact ⟨_, rfl, VRL.nil_iff.2 rfl⟩

theorem args_of {ρ : Operand → Option AV} {ev : Operand → Value} {o : Oper} {b : Builtin} {args : Array Operand} {argTypes : Array TypeId} (hρ : OpdR ι ρ ev o) (hop : o.op = .call { callee := .builtin b, args, argTypes }) {l : List AV}
    (hl : opVals ρ args.toList = some l) : VRL ι l (args.map ev).toList := by
  rw [Array.toList_map]
  exact VRL.of_opVals (fun x hx => hρ x (by rw [hop]; simp [Op.operands, Call.operands]; simpa using hx)) hl

theorem unsafeString_eq (argTypes : Array TypeId) (t : TypeId) (p : Option Addr) (len_ : Value) : Builtin.unsafeString_ argTypes t #[.pointer p, len_] = (do
    let n ← asInt len_
    let some pt := argTypes[0]? | stuck "unsafe.String: no argument types"
    if n < 0 then runtimePanic (.error "unsafe.String: len out of range")
    if n > IntKind.i64.max then unsupported (.unsafePointer "String: a length above the largest int")
    match p with
    | none =>
      if n = 0 then pure (.string .empty)
      else runtimePanic (.error "unsafe.String: ptr is nil and len is not zero")
    | some a =>
      if n = 0 then pure (.string .empty)
      else if ← variablesAt a (← elemOf pt) n.toNat then do
        let s ← loadBytes a .empty n.toNat
        freeze a n.toNat
        pure (.string s)
      else unsupported (.unsafePointer "String: not so many bytes at ptr")) := rfl

theorem loadBytes_run {k : Nat} : ∀ {vs : List AV} {s : List UInt8} {vs' : List Value}, intsOf vs = some s → VRL ι vs vs' → ∀ (off : Nat), (∀ j v, vs'[j]? = some v → w.cell? ⟨k, off + j, none⟩ = some v) → ∀ acc : ByteArray,
    (loadBytes ⟨k, off, none⟩ acc vs.length).run P w = .ok ⟨acc.data ++ s.toArray⟩ w
  | [], s, vs', h, _, off, _, acc => by
    simp [intsOf] at h; subst h
    simp [loadBytes]
  | a :: vs, s, vs', h, r, off, hc, acc => by
    obtain ⟨v, us, rfl, h1, h2⟩ := VRL.cons_iff.1 r
    unfold intsOf at h
    split at h
    · cases ‹_ = []›
    · rename_i n l he
      injection he with he1 he2
      subst he1; subst he2
      simp only [Option.map_eq_some_iff] at h
      obtain ⟨t, ht, rfl⟩ := h
      have hv := VR.int_inv h1
      subst hv
      have h0 := hc 0 _ rfl
      simp only [Nat.add_zero] at h0
      have ih := loadBytes_run ht h2 (off + 1) (fun j v hv => by have := hc (j + 1) v (by simpa using hv); rw [show off + 1 + j = off + (j + 1) by omega]; exact this) (acc.push n.toNat.toUInt8)
      simp only [List.length_cons, loadBytes, Sem.run_bind, run_load, h0, Result.andThen_ok, Addr.add_lit]
      rw [ih]
      congr 2
      apply Array.ext'
      simp [ByteArray.push]
    · cases h

set_option maxHeartbeats 2000000 in
theorem evBuiltin_run (hR : Rel P B0 ι m w) {b : Builtin} {argTypes : Array TypeId} {ty : TypeId} {consts : Array Bool} {l : List AV} {arr : Array Value} {r : AV} {m' : Mem} (hl : VRL ι l arr.toList) (h : evBuiltin P m b argTypes l = some (r, m')) :
    ∃ z w' κ, (builtin b argTypes ty consts arr).run P w = .ok (.value z) w' ∧ Step P B0 ι m w κ m' w' ∧ VR κ r z := by
  unfold evBuiltin at h
  split at h
  · -- append
    rename_i s x
    obtain ⟨s', x', rfl, rs, rx⟩ := args_two hl
    obtain ⟨z, w', κ, h1, h2, h3⟩ := append_run (ty := ty) hR rs rx h
    exact ⟨z, w', κ, by simp [builtin, h1], h2, h3⟩
  · -- copy
    rename_i d s
    obtain ⟨d', s', rfl, rd, rs⟩ := args_two hl
    split at h
    · rename_i elem b off len cap e ex ls ht hls
      obtain ⟨t, ht0, ht⟩ := Option.bind_eq_some_iff.1 ht
      split at h
      · rename_i hs
        obtain ⟨cs, hcs, h⟩ := Option.bind_eq_some_iff.1 h
        obtain ⟨p, co, c', hp, e', hco, hcap, hsz, hlen⟩ := VR.slc_inv rd
        subst e'
        obtain ⟨new', hnew, hv, hl2⟩ := src_run hR.blk rs hcs
        have hlo := fun w => lenAV_run (P := P) rs hls w
        have hz := fun w => run_sizeOf' (P := P) w hs
        split at h
        · rename_i hemp
          simp only [Option.some.injEq, Prod.mk.injEq] at h
          obtain ⟨rfl, rfl⟩ := h
          have hnil : new' = #[] := by
            have : cs = [] := by simpa using hemp
            subst this
            exact Array.ext' (VRL.nil_iff.1 hv)
          subst hnil
          exact ⟨.int .i64 (Nat.min ls len), w, ι, by simp [builtin, Builtin.copy_, ht0, run_und _ ht, hlo, hz, hnew, storeCells, goInt], Step.refl hR, VR.int_mk⟩
        · rename_i hne
          simp only [Option.map_eq_some_iff, Prod.mk.injEq] at h
          obtain ⟨m2, hst, rfl, rfl⟩ := h
          obtain ⟨w', hrun, st⟩ := store_run hR hp hst hv
          have hco : co = p.off + off := by
            rcases hco with hh | hh
            · exfalso
              have hl0 : len = 0 := by split at hcap <;> omega
              subst hl0
              have : cs.length = 0 := by
                have := VRL.length hv
                rw [Array.length_toList, hl2] at this
                simp at this
                omega
              apply hne
              simpa using List.eq_nil_of_length_eq_zero this
            · exact hh
          exact ⟨.int .i64 (Nat.min ls len), w', ι, by simp [builtin, Builtin.copy_, ht0, run_und _ ht, hlo, hz, hnew, hco, hrun, goInt], st, VR.int_mk⟩
      · cases h
    · rename_i elem ls ht hls
      obtain ⟨t, ht0, ht⟩ := Option.bind_eq_some_iff.1 ht
      obtain ⟨e, hs, h⟩ := Option.bind_eq_some_iff.1 h
      simp only [Option.map_eq_some_iff, Prod.mk.injEq] at h
      obtain ⟨cs, hcs, rfl, rfl⟩ := h
      obtain ⟨new', hnew, hv, hl2⟩ := src_run hR.blk rs hcs
      have hlo := fun w => lenAV_run (P := P) rs hls w
      have hz := fun w => run_sizeOf' (P := P) w hs
      have e' := VR.nils_inv rd
      subst e'
      exact ⟨.int .i64 0, w, ι, by simp [builtin, Builtin.copy_, ht0, run_und _ ht, hlo, hz, hnew, goInt], Step.refl hR, VR.int_mk⟩
    · cases h
  · -- clear
    rename_i x
    obtain ⟨x', rfl, rx⟩ := args_one hl
    split at h
    · rename_i kt et ht
      obtain ⟨t, ht0, ht⟩ := Option.bind_eq_some_iff.1 ht
      simp only [Option.some.injEq, Prod.mk.injEq] at h
      obtain ⟨rfl, rfl⟩ := h
      have e' := VR.nilm_inv rx
      exact ⟨.tuple #[], w, ι, by simp [builtin, Builtin.clear_, ht0, run_und _ ht, e'], Step.refl hR, VR.tup0⟩
    · rename_i kt et b ht
      obtain ⟨t, ht0, ht⟩ := Option.bind_eq_some_iff.1 ht
      simp only [Option.map_eq_some_iff, Prod.mk.injEq] at h
      obtain ⟨es, hes, rfl, rfl⟩ := h
      obtain ⟨p, hp, e'⟩ := VR.map_inv rx
      have hg := entries_get hes
      obtain ⟨es', clock, hh, he⟩ := hR.blk.map hp hg
      exact ⟨.tuple #[], _, ι, by simp [builtin, Builtin.clear_, ht0, run_und _ ht, e', getObj_run hh, setObj_run hh], Step.wmap hR hp hg (EsR.none clock), VR.tup0⟩
    · rename_i el ht
      obtain ⟨t, ht0, ht⟩ := Option.bind_eq_some_iff.1 ht
      simp only [Option.some.injEq, Prod.mk.injEq] at h
      obtain ⟨rfl, rfl⟩ := h
      have e' := VR.nils_inv rx
      exact ⟨.tuple #[], w, ι, by simp [builtin, Builtin.clear_, ht0, run_und _ ht, e'], Step.refl hR, VR.tup0⟩
    · rename_i elem b off len cap e ex ht
      obtain ⟨t, ht0, ht⟩ := Option.bind_eq_some_iff.1 ht
      obtain ⟨p, co, c', hp, e', hco, hcap, hsz, hlen⟩ := VR.slc_inv rx
      split at h
      · rename_i es z hs hz
        split at h
        · rename_i h0
          subst h0
          simp only [Option.some.injEq, Prod.mk.injEq] at h
          obtain ⟨rfl, rfl⟩ := h
          exact ⟨.tuple #[], w, ι, by simp [builtin, Builtin.clear_, ht0, run_und _ ht, e'], Step.refl hR, VR.tup0⟩
        · rename_i hne
          split at h
          · rename_i hc
            simp only [Bool.and_eq_true, decide_eq_true_eq] at hc
            obtain ⟨rfl, hzl⟩ := hc
            simp only [Option.map_eq_some_iff, Prod.mk.injEq] at h
            obtain ⟨m2, hst, rfl, rfl⟩ := h
            obtain ⟨zv, hzr, hzv, _⟩ := run_zeroAV hz
            have hco : co = p.off + off := by rcases hco with hh | hh; · split at hcap <;> omega
                                              · exact hh
            obtain ⟨w', hrun, st⟩ := store_run hR hp hst (zeroCells_rel (VR.cells (hzv ι)) len e hzl)
            obtain ⟨n, rfl⟩ : ∃ n, len = n + 1 := ⟨len - 1, by omega⟩
            exact ⟨.tuple #[], w', ι, by simp [builtin, Builtin.clear_, ht0, run_und _ ht, e', hzr, hco, hrun], st, VR.tup0⟩
          · cases h
      · cases h
    · cases h
  · -- delete
    rename_i x k
    obtain ⟨x', k', rfl, rx, rk⟩ := args_two hl
    split at h
    · rename_i kt et ht
      obtain ⟨t, ht0, ht⟩ := Option.bind_eq_some_iff.1 ht
      split at h
      · rename_i hkey
        simp only [Option.some.injEq, Prod.mk.injEq] at h
        obtain ⟨rfl, rfl⟩ := h
        have e' := VR.nilm_inv rx
        have hck := checkKey_run 100 10000 (by decide) kt k _ rk hkey true
        exact ⟨.tuple #[], w, ι, by simp [builtin, Builtin.delete_, ht0, run_und _ ht, e', hck], Step.refl hR, VR.tup0⟩
      · cases h
    · rename_i kt et b ht
      obtain ⟨t, ht0, ht⟩ := Option.bind_eq_some_iff.1 ht
      obtain ⟨es, hes, h⟩ := Option.bind_eq_some_iff.1 h
      split at h
      · rename_i hkey
        simp only [Bool.and_eq_true] at hkey
        obtain ⟨p, hp, e'⟩ := VR.map_inv rx
        have hg := entries_get hes
        obtain ⟨es', clock, hh, he⟩ := hR.blk.map hp hg
        have hck := checkKey_run 100 10000 (by decide) kt k _ rk hkey.1 es'.isEmpty
        obtain ⟨ukt, hukt⟩ : ∃ u, P.underlying kt = some u := by
          have := hkey.1
          cases hq : P.underlying kt with
          | none => simp [keyV, hq] at this
          | some u => exact ⟨u, rfl⟩
        split at h
        · rename_i i v0 hf
          simp only [Option.some.injEq, Prod.mk.injEq] at h
          obtain ⟨rfl, rfl⟩ := h
          obtain ⟨r', hrun, e0, he0, hi0, he2, rv0⟩ := findKey_run hukt rk he hf
          subst he0
          rw [Nat.sub_zero, Array.getElem?_toList] at he2
          have hi : i < es.length := by have := (Array.getElem?_eq_some_iff.1 he2).1; have := he.len; omega
          exact ⟨.tuple #[], _, ι, by simp [builtin, Builtin.delete_, ht0, run_und _ ht, e', getObj_run hh, hck, hrun, setObj_run hh], Step.wmap hR hp hg (he.erase hi), VR.tup0⟩
        · rename_i hf
          simp only [Option.some.injEq, Prod.mk.injEq] at h
          obtain ⟨rfl, rfl⟩ := h
          obtain ⟨r', hrun, he0⟩ := findKey_run hukt rk he hf
          have he0 : r' = none := he0
          subst he0
          have hsame : ({ w with heap := w.heap.setIfInBounds p.blk (.map es' clock) } : World) = w := by
            have : w.heap.setIfInBounds p.blk (.map es' clock) = w.heap := by
              apply Array.ext_getElem?
              intro j
              rw [Array.getElem?_setIfInBounds]
              split
              · rename_i ej; subst ej; split
                · exact hh.symm
                · rename_i hn; rw [Array.getElem?_eq_none (by omega)] at hh; cases hh
              · rfl
            rw [this]
          exact ⟨.tuple #[], w, ι, by simp [builtin, Builtin.delete_, ht0, run_und _ ht, e', getObj_run hh, hck, hrun, setObj_run hh, hsame], Step.refl hR, VR.tup0⟩
        · cases h
      · cases h
    · cases h
  · -- unsafeString
    rename_i p n
    obtain ⟨p', n', rfl, rp, rn⟩ := args_two hl
    split at h
    · rename_i hn
      split at h
      · rename_i h0
        obtain ⟨pt, h0⟩ := Option.isSome_iff_exists.1 h0
        simp only [Option.some.injEq, Prod.mk.injEq] at h
        obtain ⟨rfl, rfl⟩ := h
        obtain ⟨k, rfl⟩ := natOf_int hn
        rw [VR.nilp_inv rp, VR.int_inv rn]
        exact ⟨.string .empty, w, ι, by simp [builtin, unsafeString_eq, asInt, asIntOf, h0], Step.refl hR, by simp only [VR]; rfl⟩
      · cases h
    · rename_i b off hn
      split at h
      · rename_i h0
        obtain ⟨pt, h0⟩ := Option.isSome_iff_exists.1 h0
        simp only [Option.some.injEq, Prod.mk.injEq] at h
        obtain ⟨rfl, rfl⟩ := h
        obtain ⟨k, rfl⟩ := natOf_int hn
        obtain ⟨pl, hp, e'⟩ := VR.ptr_inv rp
        rw [e', VR.int_inv rn]
        exact ⟨.string .empty, w, ι, by simp [builtin, unsafeString_eq, asInt, asIntOf, h0], Step.refl hR, by simp only [VR]; rfl⟩
      · cases h
    · rename_i b off n0 hnz hn
      split at h
      · rename_i k el cs u hg ht
        obtain ⟨t, ht0, ht⟩ := Option.bind_eq_some_iff.1 ht
        split at h
        · rename_i hc
          simp only [Bool.and_eq_true, decide_eq_true_eq] at hc
          obtain ⟨⟨⟨⟨rfl, hs⟩, rfl⟩, hn40⟩, hle⟩ := hc
          simp only [Option.map_eq_some_iff, Prod.mk.injEq] at h
          obtain ⟨s, hints, rfl, rfl⟩ := h
          obtain ⟨kk, rfl⟩ := natOf_int hn
          obtain ⟨pl, hp, e'⟩ := VR.ptr_inv rp
          have e'' := VR.int_inv rn
          subst e'; subst e''
          obtain ⟨c, fr, hh, hcs, hcle, hcr, hown⟩ := hR.blk.row hp hg
          have hn0 : n0 ≠ 0 := fun e => by subst e; exact hnz rfl
          have hcellsOf := cellsOf_eq hs
          have hshape : w.shape? pl.blk = some (el, c.size) := by simp [World.shape?, hh]
          have hlie := lies_bytes (P := P) (u := el) (k := c.size) (off := pl.off) (n := n0) hcellsOf (by omega)
          have hload := loadBytes_run (P := P) (w := w) (k := pl.blk) hints (VRL.take n0 hcr) pl.off (fun j v hv => by
            rw [cell?_row hh]
            rw [List.getElem?_take] at hv
            split at hv
            · rw [List.getElem?_take] at hv
              split at hv
              · rw [List.getElem?_drop] at hv
                rw [← Array.getElem?_toList]; exact hv
              · cases hv
            · cases hv) .empty
          rw [show (cs.take n0).length = n0 by simp; omega] at hload
          have hfreeze : w.freeze ⟨pl.blk, pl.off, none⟩ n0 = { w with heap := w.heap.setIfInBounds pl.blk (.cells c el (if fr.1 == fr.2 then (pl.off, pl.off + n0) else (min fr.1 pl.off, max fr.2 (pl.off + n0)))) } := by
            unfold World.freeze
            rw [if_neg hn0]
            congr 1
            apply Array.ext_getElem?
            intro j
            rw [Array.getElem?_modify, Array.getElem?_setIfInBounds]
            split
            · rename_i ej
              subst ej
              rw [hh, if_pos (hR.lt b pl hp).2]
              rfl
            · rfl
          refine ⟨.string ⟨s.toArray⟩, _, ι, ?_, Step.write (ob := .cells c el (if fr.1 == fr.2 then (pl.off, pl.off + n0) else (min fr.1 pl.off, max fr.2 (pl.off + n0)))) hR hp hg rfl ?_, VR.str_mk⟩
          · have g1 : ¬ ((n0 : Int) < 0) := by omega
            have g2 : ¬ ((9223372036854775807 : Int) < (n0 : Int)) := by omega
            simp [builtin, unsafeString_eq, asInt, asIntOf, ht0, g1, g2, hn0, elemOf, run_und _ ht, variablesAt, hshape, hcellsOf] 
            rw [hcellsOf] at hlie
            simp at hlie
            simp [hlie, hload, hfreeze]
          · simp only [BR]
            have hkb : pl.blk < w.heap.size := (hR.lt b pl hp).2
            refine ⟨c, _, by simp [hkb]; rfl, hcs, hcle, hcr, fun _ => ⟨?_, (hown rfl).2⟩⟩
            have := (hown rfl).1
            simp only [FzOk] at this
            by_cases hff : fr.1 = fr.2
            · rw [if_pos (by simpa using hff)]
              simp only [FzOk]
              exact .inr ⟨trivial, by omega, Nat.add_le_add_left (Nat.le_max_right _ _) _⟩
            · rw [if_neg (by simpa using hff)]
              simp only [FzOk]
              have h1 : k ≤ max k n0 := Nat.le_max_left _ _
              have h2 : n0 ≤ max k n0 := Nat.le_max_right _ _
              rcases this with this | ⟨t1, t2, t3⟩
              · exact absurd this hff
              · exact .inr ⟨by simp only [t1]; exact Nat.min_self _, by simp only [t1, Nat.min_self]; exact Nat.le_trans (by omega) (Nat.le_max_left _ _), Nat.max_le.2 ⟨by omega, by omega⟩⟩
        · cases h
      · cases h
    · cases h
  · cases h

end
end Go.Proofs.YtcbileongahhiaaGreat.Ev
