/- Operations that reckon. -/
import Derived.Test.YtbhjokfopgbmiaaGreatDoorAxState
namespace Go.Ax
open Go

section
variable {P : Program} {τ : Nat → Int} {γ : Nat → G} {R : Nat → Prop} {T : Tr AV} {ρ : Operand → Value} {w : World}

/-- An operand holds what its abstract one says. -/
def Fit (P : Program) (τ : Nat → Int) (γ : Nat → G) (R : Nat → Prop) (T : Tr AV) (ρ : Operand → Value) (x' : Operand) : Prop :=
  ∀ x, opd P x' = some x → ρ x' = conc τ γ (ev x T) ∧ okv γ R (ev x T)

theorem conc_cells (v : AV) : (conc τ γ v).cells = (concL τ γ v.cells).toArray := by
  cases v <;> simp [conc, AV.cells, Value.cells, concL]
theorem okv_cells {v : AV} (h : okv γ R v) : okvL γ R v.cells := by
  cases v <;> simp_all [okv, okvL, AV.cells]

theorem cellsZ_spec {t : TypeId} {cs : List AV} (h : cellsZ P t = some cs) :
    ∃ i z, P.info? t = some i ∧ i.zero = some z ∧ z.cells = (concL τ γ cs).toArray ∧ okvL γ R cs ∧ cs.length = i.size := by
  simp only [cellsZ, Option.bind_eq_bind, Option.bind_eq_some_iff] at h
  obtain ⟨i, hi, z, hz, v, hv, h⟩ := h
  have hs := toAV_sound τ γ R 20 z v hv
  split at h
  · rename_i hc
    simp only [Option.some.injEq] at h
    subst h
    simp only [Bool.and_eq_true, decide_eq_true_eq] at hc
    refine ⟨i, z, hi, hz, ?_, okv_cells hs.2, hc.1⟩
    rw [← hs.1, conc_cells]
  · simp at h

theorem run_zeroValue {t : TypeId} {i : TypeInfo} {z : Value} (hi : P.info? t = some i) (hz : i.zero = some z) : (zeroValue t).run P w = .ok z w := by
  simp [zeroValue, typeInfo, hi, hz]
theorem run_sizeOf' {t : TypeId} {i : TypeInfo} (hi : P.info? t = some i) : (sizeOf t).run P w = .ok i.size w := by
  simp [sizeOf, typeInfo, hi]
theorem cellsOf_info {t : TypeId} {i : TypeInfo} (hi : P.info? t = some i) : P.cellsOf t = i.size := by simp [Program.cellsOf, hi]
theorem info_of_underlying {t : TypeId} {d : TypeDesc} (h : P.underlying t = some d) : ∃ i, P.info? t = some i := by
  unfold Program.underlying at h
  cases hi : P.info? t with
  | none => simp [hi] at h
  | some i => exact ⟨i, rfl⟩
theorem info_of_cells {t : TypeId} (h : P.cellsOf t ≠ 0) : ∃ i, P.info? t = some i := by
  unfold Program.cellsOf at h
  cases hi : P.info? t with
  | none => simp [hi] at h
  | some i => exact ⟨i, rfl⟩
theorem run_sizeOf_cells {t : TypeId} (h : P.cellsOf t ≠ 0) : (sizeOf t).run P w = .ok (P.cellsOf t) w := by
  obtain ⟨i, hi⟩ := info_of_cells h
  rw [run_sizeOf' hi, cellsOf_info hi]
theorem run_isAgg {t : TypeId} {b : Bool} (h : isAggB P t = some b) : (isAgg t).run P w = .ok b w := by
  unfold isAggB at h
  split at h <;> simp only [Option.some.injEq, reduceCtorEq] at h
  · rename_i hu; subst h; simp [isAgg, run_underlying hu]
  · rename_i hu; subst h; simp [isAgg, run_underlying hu]
  · rename_i d hn hn' hu
    subst h
    simp only [isAgg, Sem.run_bind, run_underlying hu, Result.andThen_ok]
    cases d <;> first | rfl | exact absurd rfl (hn _) | exact absurd rfl (hn' _ _)
theorem info_of_isAgg {t : TypeId} {b : Bool} (h : isAggB P t = some b) : ∃ i, P.info? t = some i := by
  unfold isAggB at h
  split at h <;> simp only [Option.some.injEq, reduceCtorEq] at h <;> (rename_i hu; exact info_of_underlying hu)

theorem okvL_take {l : List AV} (n : Nat) (h : okvL γ R l) : okvL γ R (l.take n) := (okvL_iff _ _ _).2 fun v hv => (okvL_iff _ _ _).1 h v (List.mem_of_mem_take hv)
theorem okvL_drop {l : List AV} (n : Nat) (h : okvL γ R l) : okvL γ R (l.drop n) := (okvL_iff _ _ _).2 fun v hv => (okvL_iff _ _ _).1 h v (List.mem_of_mem_drop hv)
theorem okvL_append {a b : List AV} (ha : okvL γ R a) (hb : okvL γ R b) : okvL γ R (a ++ b) :=
  (okvL_iff _ _ _).2 fun v hv => (List.mem_append.1 hv).elim ((okvL_iff _ _ _).1 ha v) ((okvL_iff _ _ _).1 hb v)
theorem okvL_get {l : List AV} {i : Nat} {v : AV} (h : okvL γ R l) (hv : l[i]? = some v) : okv γ R v := (okvL_iff _ _ _).1 h v (List.mem_of_getElem? hv)

/-- A part of a struct's cells. -/
theorem part_sound {t : TypeId} {b : Bool} {o : Nat} {cs : List AV} {v : AV} (hb : isAggB P t = some b) (h : pfl o (if b = true then some (P.cellsOf t) else none) (.agg cs) = some v)
    (ho : okvL γ R cs) : (part t (concL τ γ cs).toArray o).run P w = .ok (conc τ γ v) w ∧ okv γ R v := by
  obtain ⟨i, hi⟩ := info_of_isAgg hb
  simp only [part, Sem.run_bind, run_isAgg hb, Result.andThen_ok]
  cases b with
  | true =>
    simp only [if_true, pfl, dropL_eq, takeL_eq, orec_bind, Option.bind_eq_some_iff, Option.some.injEq] at h
    obtain ⟨r, hr, rfl⟩ := h
    split at hr
    · rename_i hlen
      simp only [Option.some.injEq] at hr
      subst hr
      refine ⟨?_, by simp only [okv]; exact okvL_take _ (okvL_drop _ ho)⟩
      simp only [if_true, Sem.run_bind, run_sizeOf' hi, Result.andThen_ok, Sem.run_pure, conc, cellsOf_info hi, concL_eq]
      simp [List.take_drop, List.map_drop, List.map_take]
    · simp at hr
  | false =>
    simp only [Bool.false_eq_true, if_false, pfl, getL_eq] at h
    refine ⟨?_, okvL_get ho h⟩
    simp only [Bool.false_eq_true, if_false]
    rw [concL_eq]
    simp [h]

end
end Go.Ax
