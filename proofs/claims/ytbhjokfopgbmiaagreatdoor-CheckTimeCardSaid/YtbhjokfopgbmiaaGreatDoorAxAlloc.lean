/- Operations that lay a block. -/
import Derived.Test.YtbhjokfopgbmiaaGreatDoorAxQuiet
namespace Go.Ax
open Go

theorem copies_eq (n : Nat) (z : List AV) : copies n z = (List.replicate n z).flatten := by
  induction n with
  | zero => rfl
  | succ n ih => show appL z (copies n z) = _; rw [ih, appL_eq, List.replicate_succ, List.flatten_cons]

theorem range_copies (zs : List Value) (hm : 0 < zs.length) : ∀ c, (List.range (c * zs.length)).map (fun i => zs.toArray[i % zs.length]!) = (List.replicate c zs).flatten := by
  intro c
  induction c with
  | zero => simp
  | succ c ih =>
    rw [Nat.succ_mul, Nat.add_comm, List.range_add, List.map_append, List.replicate_succ, List.flatten_cons, ← ih]
    congr 1
    · apply List.ext_getElem
      · simp
      · intro i h1 h2
        simp at h1
        simp [Nat.mod_eq_of_lt h1, h2]
    · simp [Function.comp_def]

section
variable {P : Program} {τ : Nat → Int} {γ : Nat → G} {R : Nat → Prop} {T : Tr AV} {ρ : Operand → Value} {w : World}

/-- What an operation that lays a block does. -/
def Lays (P : Program) (τ : Nat → Int) (γ : Nat → G) (R : Nat → Prop) (ρ : Operand → Value) (w : World) (L : Nat) (o : Oper) (obj : AObj) (v : AV) : Prop :=
  ∃ g ob, (execOp ρ o).run P w = .ok (.value (conc τ (upd γ L g) v)) (w.alloc ob) ∧ g.blk = w.heap.size ∧ ObjR P τ (upd γ L g) (more R L) g obj ob ∧ okv (upd γ L g) (more R L) v

theorem objR_cells {L : Nat} {e : Nat} {cs : List AV} {γ' : Nat → G} {R' : Nat → Prop} {b : Nat} (ho : okvL γ' R' cs) :
    ObjR P τ γ' R' ⟨b, 0, cs.length, cs.length⟩ (.cells e cs 0 false) (.cells (concL τ γ' cs).toArray e) := by
  refine .cells e cs 0 false _ (0, 0) (by simp [concL_eq]) (by simp) (Nat.le_refl _) (fun i v hv => ?_) ho (fun i _ => by simp)
  simp [concL_eq, hv]

section
variable {dst : Option Tmp} {ty : TypeId} {pos : String} {af : Array Edge} {gd : Option (Nat × Bool)}

theorem a_alloc {L : Nat} (hL : ¬ R L) {e : TypeId} {z : List AV} {obj : AObj} {v : AV} (hz : cellsZ P e = some z) (h : aev (.alloc e z) T L = some (obj, v)) :
    Lays P τ γ R ρ w L ⟨dst, .alloc e, ty, pos, af, gd⟩ obj v := by
  simp only [aev, Option.some.injEq, Prod.mk.injEq] at h
  obtain ⟨rfl, rfl⟩ := h
  obtain ⟨i, zv, hi, hzv, hzc, hzo, hzl⟩ := cellsZ_spec (τ := τ) (γ := upd γ L ⟨w.heap.size, 0, z.length, z.length⟩) (R := more R L) hz
  refine ⟨⟨w.heap.size, 0, z.length, z.length⟩, _, ?_, rfl, objR_cells (L := L) hzo, by simp [okv, more]⟩
  simp only [execOp, Instr.alloc, Sem.run_bind, run_zeroValue hi hzv, Result.andThen_ok, newVar, newRow, run_newObj, hzc, Sem.run_pure, conc, upd]
  simp

theorem a_box {L : Nat} (hL : ¬ R L) {e : TypeId} {x : Operand} {x' : X} {obj : AObj} {v : AV} (fx : Fit P τ γ R T ρ x) (hx : opd P x = some x') (h : aev (.box e x') T L = some (obj, v)) :
    Lays P τ γ R ρ w L ⟨dst, .box e x, ty, pos, af, gd⟩ obj v := by
  simp only [aev, Option.some.injEq, Prod.mk.injEq] at h
  obtain ⟨rfl, rfl⟩ := h
  have x1 := fx x' hx
  have ha := concL_agree (τ := τ) (upd_agree (γ := γ) (g := ⟨w.heap.size, 0, (ev x' T).cells.length, (ev x' T).cells.length⟩) hL) _ (okv_cells x1.2)
  refine ⟨⟨w.heap.size, 0, _, _⟩, _, ?_, rfl, objR_cells (L := L) ha.2, by simp [okv, more]⟩
  simp only [execOp, Instr.box, Sem.run_bind, newVar, newRow, run_newObj, Result.andThen_ok, Sem.run_pure, x1.1, conc_cells, conc, upd]
  rw [ha.1]
  simp

theorem a_mkmap {L : Nat} {t : TypeId} {obj : AObj} {v : AV} (h : aev .mkmap T L = some (obj, v)) :
    Lays P τ γ R ρ w L ⟨dst, .makeMap t none, ty, pos, af, gd⟩ obj v := by
  simp only [aev, Option.some.injEq, Prod.mk.injEq] at h
  obtain ⟨rfl, rfl⟩ := h
  refine ⟨⟨w.heap.size, 0, 0, 0⟩, .map #[] 0, ?_, rfl, .mp [] 0 #[] rfl rfl (by simp), by simp [okv, more]⟩
  simp [execOp, Instr.makeMap, conc, upd]

theorem a_rngS {L : Nat} {t : TypeId} {x : Operand} {x' : X} {obj : AObj} {v : AV} (ht : P.underlying t = some .string) (fx : Fit P τ γ R T ρ x) (hx : opd P x = some x') (h : aev (.rngS x') T L = some (obj, v)) :
    Lays P τ γ R ρ w L ⟨dst, .range t x, ty, pos, af, gd⟩ obj v := by
  have x1 := fx x' hx
  simp only [aev] at h
  split at h
  · rename_i s hs
    rw [hs] at x1
    simp only [Option.some.injEq, Prod.mk.injEq] at h
    obtain ⟨rfl, rfl⟩ := h
    refine ⟨⟨w.heap.size, 0, 0, 0⟩, .stringIter (strV s) 0, ?_, rfl, .sit s 0 rfl (by simpa [okv] using x1.2), by simp [okv, more]⟩
    simp [execOp, Instr.range, run_underlying ht, x1.1, conc, upd]
  · simp at h

theorem a_bsl {L : Nat} (hL : ¬ R L) {t e : TypeId} {n : Nat} {ps : Array (Nat × Operand)} {z : List AV} {qs : List (Nat × Nat × Operand)} {rs : List (Nat × Nat × X)} {obj : AObj} {v : AV}
    (ht : P.underlying t = some (.slice e)) (hz : cellsZ P e = some z) (hz0 : z.length ≠ 0) (hn : n * z.length ≤ 65536)
    (hq : ps.toList.mapM (fun p => (some (p.1 * z.length, z.length)).map fun q => (q.1, q.2, p.2)) = some qs) (hr : opdP P qs = some rs) (fx : ∀ p ∈ ps.toList, Fit P τ γ R T ρ p.2)
    (h : aev (.bsl e z.length ((List.replicate n z).flatten) n rs) T L = some (obj, v)) : Lays P τ γ R ρ w L ⟨dst, .buildSlice t n ps, ty, pos, af, gd⟩ obj v := by
  simp only [aev, orec_bind, Option.bind_eq_some_iff, Option.some.injEq, Prod.mk.injEq] at h
  obtain ⟨cs, hc, rfl, rfl⟩ := h
  obtain ⟨i, zv, hi, hzv, hzc, hzo, hzl⟩ := cellsZ_spec (τ := τ) (γ := γ) (R := R) hz
  have hfl : okvL γ R (List.replicate n z).flatten := by
    rw [okvL_iff]
    intro v hv
    simp only [List.mem_flatten, List.mem_replicate] at hv
    obtain ⟨l, ⟨_, rfl⟩, hv⟩ := hv
    exact (okvL_iff _ _ _).1 hzo v hv
  have hfill := fill_sound (τ := τ) (fun i => some (i * z.length, z.length)) ps.toList qs rs _ cs hq hr fx hfl hc
  have ha := concL_agree (τ := τ) (upd_agree (γ := γ) (g := ⟨w.heap.size, 0, cs.length, cs.length⟩) hL) _ hfill.2.1
  have hlen : cs.length = n * z.length := by rw [hfill.2.2]; simp
  refine ⟨⟨w.heap.size, 0, cs.length, cs.length⟩, _, ?_, rfl, objR_cells (L := L) ha.2, ?_⟩
  · have hbase : ((Array.range (n * z.length)).map fun i => (concL τ γ z).toArray[i % z.length]!) = (concL τ γ (List.replicate n z).flatten).toArray := by
      apply Array.ext'
      simp only [Array.toList_map, Array.toList_range]
      have := range_copies (concL τ γ z) (by rw [concL_eq]; simp; omega) n
      rw [show (concL τ γ z).length = z.length by rw [concL_eq]; simp] at this
      rw [this]
      simp [concL_eq, List.map_flatten]
    obtain ⟨ps⟩ := ps
    have l : (Array.map (fun x : Nat × Operand => (x.fst, ρ x.snd)) ⟨ps⟩).toList = ps.map fun p => (p.1, ρ p.2) := by simp
    have h1 : (decide (n * z.length > 2 ^ 24)) = false := by simp; omega
    have hnz : (n * z.length = 0) → n = 0 := fun e => (Nat.mul_eq_zero.1 e).resolve_right hz0
    have t1 := hfill.1
    simp only at t1
    simp only [execOp, Instr.buildSlice, Sem.run_bind, run_underlying ht, Result.andThen_ok, run_sizeOf' hi, ← hzl, gt_iff_lt]
    rw [if_neg (by omega)]
    by_cases hn0 : n * z.length = 0
    · have := hnz hn0
      subst this
      simp only [List.replicate_zero, List.flatten_nil] at *
      simp only [hn0, if_true, Sem.run_bind, Sem.run_pure, Result.andThen_ok, l]
      have e0 : (Array.map (fun x => (#[] : Array Value)[x % (#[] : Array Value).size]!) (Array.range 0)) = (concL τ γ []).toArray := by simp [concL]
      rw [e0, t1]
      rw [ha.1]
      simp only [newRow, Sem.run_bind, run_newObj, Result.andThen_ok, Sem.run_pure, conc, upd, if_true, Bool.false_eq_true, if_false]
      simp
    · simp only [hn0, if_false, Sem.run_bind, run_zeroValue hi hzv, Sem.run_pure, Result.andThen_ok, l, hzc]
      rw [show (concL τ γ z).toArray.size = z.length by rw [concL_eq]; simp, hbase, t1]
      rw [ha.1]
      simp only [newRow, Sem.run_bind, run_newObj, Result.andThen_ok, Sem.run_pure, conc, upd, if_true, Bool.false_eq_true, if_false]
      simp
  · simp only [okv, upd, if_true]
    exact ⟨.inr rfl, Nat.le_refl _, by rw [hlen]; omega, by omega, by simp⟩

theorem a_msl {L : Nat} (hL : ¬ R L) {t e : TypeId} {n c : Operand} {n' c' : X} {z : List AV} {ie : TypeInfo} {obj : AObj} {v : AV} (ht : P.underlying t = some (.slice e)) (hi : P.info? e = some ie) (hz : cellsZ P e = some z) (hz0 : z.length ≠ 0)
    (fn : Fit P τ γ R T ρ n) (hn : opd P n = some n') (fc : Fit P τ γ R T ρ c) (hc : opd P c = some c') (h : aev (.msl e z.length ie.bytes z n' c') T L = some (obj, v)) :
    Lays P τ γ R ρ w L ⟨dst, .makeSlice t n c, ty, pos, af, gd⟩ obj v := by
  simp only [aev] at h
  split at h
  · rename_i k1 a k2 b ha hb
    have n1 := ieq_nat fn hn ha
    have c1 := ieq_nat fc hc hb
    simp only [natble_eq, band_eq, brec_eq, Bool.and_eq_true, decide_eq_true_eq, Nat.mul_eq] at h
    split at h
    · rename_i hle
      simp only [Option.some.injEq, Prod.mk.injEq] at h
      obtain ⟨rfl, rfl⟩ := h
      obtain ⟨h1, h2, h3⟩ := hle
      obtain ⟨i, zv, hi', hzv, hzc, hzo, hzl⟩ := cellsZ_spec (τ := τ) (γ := γ) (R := R) hz
      rw [hi] at hi'
      simp only [Option.some.injEq] at hi'
      subst hi'
      have hfl : okvL γ R (copies b z) := by
        rw [copies_eq, okvL_iff]
        intro v hv
        simp only [List.mem_flatten, List.mem_replicate] at hv
        obtain ⟨l, ⟨_, rfl⟩, hv⟩ := hv
        exact (okvL_iff _ _ _).1 hzo v hv
      have hlen : (copies b z).length = b * z.length := by rw [copies_eq]; simp
      have ha := concL_agree (τ := τ) (upd_agree (γ := γ) (g := ⟨w.heap.size, 0, (copies b z).length, (copies b z).length⟩) hL) _ hfl
      refine ⟨⟨w.heap.size, 0, (copies b z).length, (copies b z).length⟩, _, ?_, rfl, objR_cells (L := L) ha.2, ?_⟩
      · have hbase : ((Array.range (b * z.length)).map fun i => (concL τ γ z).toArray[i % z.length]!) = (concL τ γ (copies b z)).toArray := by
          apply Array.ext'
          simp only [Array.toList_map, Array.toList_range]
          have := range_copies (concL τ γ z) (by rw [concL_eq]; simp; omega) b
          rw [show (concL τ γ z).length = z.length by rw [concL_eq]; simp] at this
          rw [this]
          simp [concL_eq, copies_eq, List.map_flatten]
        have w1 : IntKind.i64.wrap (a : Int) = a := wrap_fits .i64 _ (by simp [maxNeg]) (by simp [maxPos]; omega)
        have w2 : IntKind.i64.wrap (b : Int) = b := wrap_fits .i64 _ (by simp [maxNeg]) (by simp [maxPos]; omega)
        have hmul : (ie.bytes : Int) * (b : Int) ≤ 1048576 := by
          have : ((b * ie.bytes : Nat) : Int) ≤ 1048576 := Int.ofNat_le.2 h3
          rw [Int.mul_comm]
          simpa using this
        have hti : (typeInfo e).run P w = .ok ie w := by simp [typeInfo, hi]
        simp only [execOp, Instr.makeSlice, Sem.run_bind, run_underlying ht, Result.andThen_ok, n1, c1, asInt, asIntOf, Sem.run_pure, hti, w1, w2]
        have hc0 : (decide ((b : Int) < 0) || decide ((ie.bytes : Int) * (b : Int) > 2 ^ 48)) = false := by
          simp only [Bool.or_eq_false_iff, decide_eq_false_iff_not]
          constructor
          · omega
          · simp only [gt_iff_lt, Int.not_lt]; omega
        have hc1 : ¬ ((a : Int) < 0) := by omega
        have hc2 : ¬ ((a : Int) > (b : Int)) := by omega
        rw [if_neg (by rw [hc0, decide_eq_false hc1, decide_eq_false hc2]; decide)]
        simp only [Sem.run_bind, run_askRoom, Result.andThen_ok, run_sizeOf' hi, Int.toNat_natCast, ← hzl]
        by_cases hn0 : b * z.length = 0
        · have hb0 : b = 0 := (Nat.mul_eq_zero.1 hn0).resolve_right hz0
          subst hb0
          simp only [hn0, if_true, Sem.run_bind, Sem.run_pure, Result.andThen_ok]
          have e0 : (Array.map (fun x => (#[] : Array Value)[x % (#[] : Array Value).size]!) (Array.range 0)) = (concL τ γ (copies 0 z)).toArray := by simp [concL, copies]
          rw [e0, ha.1]
          simp only [newRow, Sem.run_bind, run_newObj, Result.andThen_ok, Sem.run_pure, conc, upd, if_true, Bool.false_eq_true, if_false]
          simp
        · simp only [hn0, if_false, Sem.run_bind, run_zeroValue hi hzv, Sem.run_pure, Result.andThen_ok, hzc]
          rw [show (concL τ γ z).toArray.size = z.length by rw [concL_eq]; simp, hbase, ha.1]
          simp only [newRow, Sem.run_bind, run_newObj, Result.andThen_ok, Sem.run_pure, conc, upd, if_true, Bool.false_eq_true, if_false]
          simp
      · simp only [okv, upd, if_true]
        exact ⟨.inr rfl, h1, by rw [hlen]; omega, by omega, by simp⟩
    · simp at h
  · simp at h
end

theorem alloc_sound {o : Oper} {L : Nat} {lo : LO} {obj : AObj} {v : AV} (hL : ¬ R L) (hf : ∀ x ∈ o.op.operands.toList, Fit P τ γ R T ρ x) (hc : opC P o = some (.a lo)) (h : aev lo T L = some (obj, v)) : Lays P τ γ R ρ w L o obj v := by
  obtain ⟨dst, op, ty, pos, af, gd⟩ := o
  simp only at hf
  cases op
  case alloc e =>
    simp only [opC, Option.bind_eq_bind, Option.bind_eq_some_iff, Option.some.injEq, AOp.a.injEq] at hc
    obtain ⟨z, hz, rfl⟩ := hc
    exact a_alloc hL hz h
  case box e x =>
    simp only [opC, Option.bind_eq_bind, Option.bind_eq_some_iff, Option.some.injEq, AOp.a.injEq] at hc
    obtain ⟨x', hx, rfl⟩ := hc
    exact a_box hL (hf x (by simp [Op.operands])) hx h
  case buildSlice t n ps =>
    have fx : ∀ p ∈ ps.toList, Fit P τ γ R T ρ p.2 := fun p hp => hf p.2 (by simp [Op.operands]; exact ⟨p.1, by simpa using hp⟩)
    simp only [opC, Option.bind_eq_bind, Option.bind_eq_some_iff] at hc
    obtain ⟨d, hd, hc⟩ := hc
    split at hc
    · rename_i e
      simp only [Option.bind_eq_some_iff] at hc
      obtain ⟨z, hz, hc⟩ := hc
      split at hc
      · simp at hc
      · rename_i hcond
        simp only [Bool.or_eq_true, decide_eq_true_eq, not_or, gt_iff_lt, Nat.not_lt] at hcond
        simp only [Option.bind_eq_some_iff, Option.some.injEq, AOp.a.injEq] at hc
        obtain ⟨qs, hq, rs, hr, rfl⟩ := hc
        exact a_bsl hL hd hz hcond.1 hcond.2 hq hr fx h
    · simp at hc
  case makeMap t r =>
    cases r with
    | none => simp only [opC, Option.some.injEq, AOp.a.injEq] at hc; subst hc; exact a_mkmap h
    | some r => simp [opC] at hc
  case makeSlice t n c =>
    simp only [opC, Option.bind_eq_bind, Option.bind_eq_some_iff] at hc
    obtain ⟨d, hd, hc⟩ := hc
    split at hc
    · rename_i e
      simp only [Option.bind_eq_some_iff] at hc
      obtain ⟨ie, hie, z, hz, hc⟩ := hc
      split at hc
      · simp at hc
      · rename_i hz0
        simp only [Option.bind_eq_some_iff, Option.some.injEq, AOp.a.injEq] at hc
        obtain ⟨n', hn, c', hc', rfl⟩ := hc
        exact a_msl hL hd hie hz hz0 (hf n (by simp [Op.operands])) hn (hf c (by simp [Op.operands])) hc' h
    · simp at hc
  case range t x =>
    simp only [opC, Option.bind_eq_bind] at hc
    split at hc
    · rename_i hu
      simp only [Option.bind_eq_some_iff, Option.some.injEq, AOp.a.injEq] at hc
      obtain ⟨x', hx, rfl⟩ := hc
      exact a_rngS hu (hf x (by simp [Op.operands])) hx h
    · simp [Option.bind_eq_some_iff] at hc
    · simp at hc
  case makeFunc f a b => cases f <;> simp [opC, Option.bind_eq_some_iff] at hc
  case unOp op t x => cases op <;> simp [opC, Option.bind_eq_some_iff] at hc
  case binOp op t x y u =>
    exfalso
    simp only [opC, binC, Option.bind_eq_bind, Option.bind_eq_some_iff] at hc
    repeat' (first | (simp only [Option.map_eq_some_iff, reduceCtorEq, and_false, exists_false] at hc; done) | (simp only [Option.some.injEq, reduceCtorEq] at hc; done) | (obtain ⟨_, _, hc⟩ := hc) | (split at hc) | (simp only [Option.bind_eq_some_iff, Option.some.injEq, reduceCtorEq, and_false, exists_false] at hc))
  case makeInterface t x =>
    exfalso
    simp only [opC, Option.bind_eq_bind] at hc
    repeat' (first | (simp only [Option.map_eq_some_iff, reduceCtorEq, and_false, exists_false] at hc; done) | (simp only [Option.some.injEq, reduceCtorEq] at hc; done) | (obtain ⟨_, _, hc⟩ := hc) | (split at hc) | (simp only [Option.bind_eq_some_iff, Option.some.injEq, reduceCtorEq, and_false, exists_false] at hc))
  case convert s d x =>
    exfalso
    simp only [opC, Option.bind_eq_bind] at hc
    repeat' (first | (simp only [Option.map_eq_some_iff, reduceCtorEq, and_false, exists_false] at hc; done) | (simp only [Option.some.injEq, reduceCtorEq] at hc; done) | (obtain ⟨_, _, hc⟩ := hc) | (split at hc) | (simp only [Option.bind_eq_some_iff, Option.some.injEq, reduceCtorEq, and_false, exists_false] at hc))
  case call c =>
    exfalso
    obtain ⟨callee, as, ts⟩ := c
    simp only [opC, Option.bind_eq_bind] at hc
    split at hc
    · simp only [Option.bind_eq_some_iff, Option.some.injEq, reduceCtorEq, and_false, exists_false] at hc
    · obtain ⟨as⟩ := as
      obtain ⟨ts⟩ := ts
      unfold builtC at hc
      simp only [Option.bind_eq_bind] at hc
      split at hc
      all_goals repeat' (first | (simp only [Option.map_eq_some_iff, reduceCtorEq, and_false, exists_false] at hc; done) | (simp only [Option.some.injEq, reduceCtorEq] at hc; done) | (obtain ⟨_, _, hc⟩ := hc) | (split at hc) | (simp only [Option.bind_eq_some_iff, Option.some.injEq, reduceCtorEq, and_false, exists_false] at hc))
    · simp at hc
  all_goals
    exfalso
    simp only [opC, Option.bind_eq_bind, Option.bind_eq_some_iff, Option.some.injEq, reduceCtorEq, and_false, exists_false] at hc
    try (repeat' (first | (simp only [Option.map_eq_some_iff, reduceCtorEq, and_false, exists_false] at hc; done) | (simp only [Option.some.injEq, reduceCtorEq] at hc; done) | (obtain ⟨_, _, hc⟩ := hc) | (split at hc) | (simp only [Option.bind_eq_some_iff, Option.some.injEq, reduceCtorEq, and_false, exists_false] at hc)))
end
end Go.Ax
