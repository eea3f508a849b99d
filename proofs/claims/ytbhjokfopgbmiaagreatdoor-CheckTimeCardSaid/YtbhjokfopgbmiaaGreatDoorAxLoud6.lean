/- Operations that change something: all of them. -/
import Derived.Test.YtbhjokfopgbmiaaGreatDoorAxLoud5
namespace Go.Ax
open Go

section
variable {P : Program} {τ : Nat → Int} {γ : Nat → G} {R : Nat → Prop} {w : World} {α : Type} [Ans α] {ρ : Operand → Value}

theorem loud_sound {o : Oper} {st : St} {vo : VO} {cf : CallF α} {yf : YieldF α} {k : ONext → St → α} (hR : Rel P τ γ R st.H st.nx w) (hf : ∀ x ∈ o.op.operands.toList, Fit P τ γ R st.T ρ x)
    (hc : opC P o = some (.v vo)) (hn : ∀ f as, vo ≠ .call f as) (h : Ans.holds (vev cf yf vo st k)) : Out P τ γ R w st ((execOp ρ o).run P w) k := by
  obtain ⟨dst, op, ty, pos, af, gd⟩ := o
  simp only at hf
  cases op
  case assign x =>
    simp only [opC, Option.bind_eq_bind, Option.bind_eq_some_iff, Option.some.injEq, AOp.v.injEq] at hc
    obtain ⟨x', hx, rfl⟩ := hc
    exact v_asg hR (hf x (by simp [Op.operands])) hx h
  case store t a v =>
    simp only [opC, Option.bind_eq_bind, Option.bind_eq_some_iff] at hc
    obtain ⟨b, hb, hc⟩ := hc
    split at hc
    · rename_i hbt
      subst hbt
      simp only [Option.bind_eq_some_iff, Option.some.injEq, AOp.v.injEq] at hc
      obtain ⟨a', ha, v', hv, rfl⟩ := hc
      exact v_stn hR hb (hf a (by simp [Op.operands])) ha (hf v (by simp [Op.operands])) hv h
    · split at hc
      · rename_i hz
        simp only [Option.bind_eq_some_iff, Option.some.injEq, AOp.v.injEq] at hc
        obtain ⟨a', ha, v', hv, rfl⟩ := hc
        exact v_st1 hR hz (hf a (by simp [Op.operands])) ha (hf v (by simp [Op.operands])) hv h
      · simp at hc
  case mapUpdate t m k v =>
    simp only [opC, Option.bind_eq_bind, Option.bind_eq_some_iff] at hc
    obtain ⟨d, hd, hc⟩ := hc
    split at hc
    · rename_i kt e
      simp only [Option.bind_eq_some_iff, Option.some.injEq, AOp.v.injEq] at hc
      obtain ⟨g, hg, lay, hl, m', hm, k', hk, v', hv, rfl⟩ := hc
      exact v_mupd hR hd hg hl (hf m (by simp [Op.operands])) hm (hf k (by simp [Op.operands])) hk (hf v (by simp [Op.operands])) hv h
    · simp at hc
  case range t x =>
    simp only [opC, Option.bind_eq_bind] at hc
    split at hc
    · simp [Option.bind_eq_some_iff] at hc
    · rename_i kt e hu
      simp only [Option.bind_eq_some_iff, Option.some.injEq, AOp.v.injEq] at hc
      obtain ⟨x', hx, rfl⟩ := hc
      exact v_rngM hR hu (hf x (by simp [Op.operands])) hx h
    · simp at hc
  case next x s =>
    simp only [opC, Option.bind_eq_bind, Option.bind_eq_some_iff, Option.some.injEq, AOp.v.injEq] at hc
    obtain ⟨x', hx, rfl⟩ := hc
    exact v_next hR (hf x (by simp [Op.operands])) hx h
  case panic x =>
    simp only [opC, Option.bind_eq_bind, Option.bind_eq_some_iff, Option.some.injEq, AOp.v.injEq] at hc
    obtain ⟨x', hx, rfl⟩ := hc
    exact v_panic (hf x (by simp [Op.operands])) hx h
  case call c =>
    obtain ⟨callee, as, ts⟩ := c
    simp only [opC, Option.bind_eq_bind] at hc
    split at hc
    · simp only [Option.bind_eq_some_iff, Option.some.injEq, AOp.v.injEq] at hc
      obtain ⟨f', _, as', _, rfl⟩ := hc
      exact absurd rfl (hn _ _)
    · rename_i b
      obtain ⟨as⟩ := as
      obtain ⟨ts⟩ := ts
      unfold builtC at hc
      simp only [Option.bind_eq_bind] at hc
      split at hc
      · exfalso; repeat' (first | (simp only [Option.some.injEq, reduceCtorEq] at hc; done) | (obtain ⟨_, _, hc⟩ := hc) | (split at hc) | (simp only [Option.bind_eq_some_iff, Option.some.injEq, reduceCtorEq, and_false, exists_false] at hc))
      · exfalso; repeat' (first | (simp only [Option.some.injEq, reduceCtorEq] at hc; done) | (obtain ⟨_, _, hc⟩ := hc) | (split at hc) | (simp only [Option.bind_eq_some_iff, Option.some.injEq, reduceCtorEq, and_false, exists_false] at hc))
      · rename_i t u s v
        have fs := hf s (by simp [Op.operands, Call.operands])
        have fv := hf v (by simp [Op.operands, Call.operands])
        simp only [Option.bind_eq_some_iff] at hc
        obtain ⟨d, hd, hc⟩ := hc
        split at hc
        case h_2 => simp at hc
        rename_i e
        simp only [Option.bind_eq_some_iff] at hc
        obtain ⟨i, hi, d', hd', hc⟩ := hc
        split at hc
        · simp at hc
        · rename_i hni
          simp only [Bool.false_eq_true, if_false, Option.bind_eq_some_iff] at hc
          obtain ⟨z, hz, hc⟩ := hc
          split at hc
          · simp at hc
          · rename_i hz0
            simp only [Option.bind_eq_some_iff, Option.some.injEq, AOp.v.injEq] at hc
            obtain ⟨s', hs, v', hv, rfl⟩ := hc
            have s1 := fs s' hs
            have v1 := fv v' hv
            simp only [vev] at h
            obtain ⟨r, γ', R', H', nx', w', h1, h2, h3, h4, h5⟩ := app_sound (ty := ty) hR hd hd' (fun k hk => hni k hk) hi hz hz0 s1.2 v1.2 h
            refine .inl ⟨r, γ', R', H', nx', w', .inl ?_, h2, h3, h4, h5⟩
            simp [execOp, resolve, invoke, builtin, s1.1, v1.1, h1]
      · rename_i t x
        have fx := hf x (by simp [Op.operands, Call.operands])
        simp only [Option.bind_eq_some_iff] at hc
        obtain ⟨d, hd, hc⟩ := hc
        split at hc
        case h_2 => simp at hc
        rename_i e
        simp only [Option.bind_eq_some_iff] at hc
        obtain ⟨z, hz, hc⟩ := hc
        split at hc
        · simp at hc
        · rename_i hz0
          simp only [Option.bind_eq_some_iff, Option.some.injEq, AOp.v.injEq] at hc
          obtain ⟨x', hx, rfl⟩ := hc
          exact v_clr hR hd hz hz0 fx hx h
      · rename_i t u m k
        have fm := hf m (by simp [Op.operands, Call.operands])
        have fk := hf k (by simp [Op.operands, Call.operands])
        simp only [Option.bind_eq_some_iff] at hc
        obtain ⟨d, hd, hc⟩ := hc
        split at hc
        case h_2 => simp at hc
        rename_i kt e
        simp only [Option.bind_eq_some_iff, Option.some.injEq, AOp.v.injEq] at hc
        obtain ⟨g, hg, lay, hl, m', hm, k', hk, rfl⟩ := hc
        exact v_del hR hd hg hl fm hm fk hk h
      · exfalso; repeat' (first | (simp only [Option.some.injEq, reduceCtorEq] at hc; done) | (obtain ⟨_, _, hc⟩ := hc) | (split at hc) | (simp only [Option.bind_eq_some_iff, Option.some.injEq, reduceCtorEq, and_false, exists_false] at hc))
      · exfalso; repeat' (first | (simp only [Option.some.injEq, reduceCtorEq] at hc; done) | (obtain ⟨_, _, hc⟩ := hc) | (split at hc) | (simp only [Option.bind_eq_some_iff, Option.some.injEq, reduceCtorEq, and_false, exists_false] at hc))
      · simp at hc
    · simp at hc
  case makeFunc f a b => cases f <;> simp [opC, Option.bind_eq_some_iff] at hc
  case makeMap t r => cases r <;> simp [opC] at hc
  case unOp op t x => cases op <;> simp [opC, Option.bind_eq_some_iff] at hc
  case binOp op t x y u =>
    exfalso
    simp only [opC, binC, Option.bind_eq_bind, Option.bind_eq_some_iff] at hc
    repeat' (first | (simp only [Option.map_eq_some_iff, reduceCtorEq, and_false, exists_false] at hc; done) | (simp only [Option.some.injEq, reduceCtorEq] at hc; done) | (obtain ⟨_, _, hc⟩ := hc) | (split at hc) | (simp only [Option.bind_eq_some_iff, Option.some.injEq] at hc))
  case makeInterface t x =>
    exfalso
    simp only [opC, Option.bind_eq_bind] at hc
    repeat' (first | (simp only [reduceCtorEq] at hc; done) | (simp only [Option.some.injEq, reduceCtorEq] at hc; done) | (obtain ⟨_, _, hc⟩ := hc) | (split at hc) | (simp only [Option.bind_eq_some_iff, Option.some.injEq, reduceCtorEq, and_false, exists_false] at hc))
  case convert s d x =>
    exfalso
    simp only [opC, Option.bind_eq_bind] at hc
    repeat' (first | (simp only [reduceCtorEq] at hc; done) | (simp only [reduceCtorEq] at hc; done) | (obtain ⟨_, _, hc⟩ := hc) | (split at hc) | (simp only [Option.bind_eq_some_iff, Option.some.injEq, reduceCtorEq, and_false, exists_false] at hc))
  all_goals
    exfalso
    simp only [opC, Option.bind_eq_bind, Option.bind_eq_some_iff, Option.some.injEq, reduceCtorEq, and_false, exists_false] at hc
    try (repeat' (first | (simp only [reduceCtorEq] at hc; done) | (simp only [Option.some.injEq, reduceCtorEq] at hc; done) | (obtain ⟨_, _, hc⟩ := hc) | (split at hc) | (simp only [Option.bind_eq_some_iff, Option.some.injEq, reduceCtorEq, and_false, exists_false] at hc)))

/-- A call of a function value. -/
theorem call_sound {dst : Option Tmp} {ty : TypeId} {pos : String} {af : Array Edge} {gd : Option (Nat × Bool)} {f : Operand} {as : Array Operand} {ts : Array TypeId} {f' : X} {as' : List X} {T : Tr AV} {g : Nat} {a b : List AV}
    (ff : Fit P τ γ R T ρ f) (hf : opd P f = some f') (fa : ∀ x ∈ as.toList, Fit P τ γ R T ρ x) (ha : as.toList.mapM (opd P) = some as') (hv : ev f' T = .fn (.func g) a b)
    {fn : Func} (hg : P.funcs[g]? = some fn) (hb : fn.body.isNone = false) (hn : (fn.name == "runtime.NumGoroutine") = false) :
    (execOp ρ ⟨dst, .call { callee := .value f, args := as, argTypes := ts }, ty, pos, af, gd⟩).run P w = .ok (.enter g (concL τ γ (a ++ (evL as' T ++ b))).toArray) w ∧ okvL γ R (a ++ (evL as' T ++ b)) := by
  have f1 := ff f' hf
  rw [hv] at f1
  have a1 := fits_list ha fa
  refine ⟨?_, ?_⟩
  · have hargs : as.map ρ = (concL τ γ (evL as' T)).toArray := by
      apply Array.ext'
      rw [Array.toList_map, a1.1]
    simp only [execOp, resolve, f1.1, conc, concFn, Deferred.ofValue, Sem.run_bind, Sem.run_pure, Result.andThen_ok, invoke, callFunc, run_program, hg, hn, hb, Bool.false_eq_true, if_false, hargs]
    simp [concL_eq]
  · have h1 := f1.2
    simp only [okv] at h1
    exact okvL_append h1.2.1 (okvL_append a1.2 h1.2.2)

theorem call_yield {dst : Option Tmp} {ty : TypeId} {pos : String} {af : Array Edge} {gd : Option (Nat × Bool)} {f : Operand} {as : Array Operand} {ts : Array TypeId} {f' : X} {as' : List X} {T : Tr AV} {l : Nat} {b : List AV}
    (ff : Fit P τ γ R T ρ f) (hf : opd P f = some f') (fa : ∀ x ∈ as.toList, Fit P τ γ R T ρ x) (ha : as.toList.mapM (opd P) = some as') (hv : ev f' T = .fn (.yield l) [] b) :
    (execOp ρ ⟨dst, .call { callee := .value f, args := as, argTypes := ts }, ty, pos, af, gd⟩).run P w = (Instr.yield (γ l).blk (concL τ γ (evL as' T)).toArray).run P w ∧ okvL γ R (evL as' T) ∧ R l := by
  have f1 := ff f' hf
  rw [hv] at f1
  have a1 := fits_list ha fa
  refine ⟨?_, a1.2, ?_⟩
  · have hargs : as.map ρ = (concL τ γ (evL as' T)).toArray := by
      apply Array.ext'
      rw [Array.toList_map, a1.1]
    simp only [execOp, resolve, f1.1, conc, concFn, Deferred.ofValue, Sem.run_bind, Sem.run_pure, Result.andThen_ok, invoke, hargs]
    simp [concL_eq]
  · have h1 := f1.2
    simp only [okv] at h1
    exact h1.1 l rfl
end
end Go.Ax
