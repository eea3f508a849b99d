/- Operations that reckon, one by one. -/
import Derived.Test.YtbhjokfopgbmiaaGreatDoorAxPure
namespace Go.Ax
open Go

section
variable {P : Program} {τ : Nat → Int} {γ : Nat → G} {R : Nat → Prop} {T : Tr AV} {ρ : Operand → Value} {w : World}

/-- What an operation comes to. -/
def Does (P : Program) (τ : Nat → Int) (γ : Nat → G) (R : Nat → Prop) (ρ : Operand → Value) (w : World) (o : Oper) (v : AV) : Prop :=
  (execOp ρ o).run P w = .ok (.value (conc τ γ v)) w ∧ okv γ R v

section
variable {dst : Option Tmp} {ty : TypeId} {pos : String} {af : Array Edge} {gd : Option (Nat × Bool)}

theorem p_mv {x : Operand} {x' : X} {v : AV} (fx : Fit P τ γ R T ρ x) (hx : opd P x = some x') (h : pev (.mv x') T = some v) :
    Does P τ γ R ρ w ⟨dst, .move x, ty, pos, af, gd⟩ v := by
  simp only [pev, Option.some.injEq] at h
  subst h
  have := fx x' hx
  exact ⟨by simp [execOp, this.1], this.2⟩

theorem p_pick {c a b : Operand} {c' a' b' : X} {v : AV} (fc : Fit P τ γ R T ρ c) (fa : Fit P τ γ R T ρ a) (fb : Fit P τ γ R T ρ b) (hc : opd P c = some c') (ha : opd P a = some a') (hb : opd P b = some b')
    (h : pev (.pick c' a' b') T = some v) : Does P τ γ R ρ w ⟨dst, .pick c a b, ty, pos, af, gd⟩ v := by
  have c1 := fc c' hc
  have a1 := fa a' ha
  have b1 := fb b' hb
  simp only [pev] at h
  split at h
  · rename_i t ht
    rw [ht] at c1
    simp only [brec_eq, Option.some.injEq] at h
    subst h
    cases t <;> simp [Does, execOp, c1.1, conc, asBool, a1, b1]
  · simp at h

theorem p_not {x : Operand} {x' : X} {t : TypeId} {v : AV} (fx : Fit P τ γ R T ρ x) (hx : opd P x = some x') (h : pev (.not x') T = some v) :
    Does P τ γ R ρ w ⟨dst, .unOp .not t x, ty, pos, af, gd⟩ v := by
  have x1 := fx x' hx
  simp only [pev] at h
  split at h
  · rename_i b hb
    rw [hb] at x1
    simp only [Option.some.injEq] at h
    subst h
    simp [Does, execOp, x1.1, conc, Op.unary, okv]
  · simp at h

theorem p_neg {x : Operand} {x' : X} {t : TypeId} {v : AV} (fx : Fit P τ γ R T ρ x) (hx : opd P x = some x') (h : pev (.neg x') T = some v) :
    Does P τ γ R ρ w ⟨dst, .unOp .neg t x, ty, pos, af, gd⟩ v := by
  have x1 := fx x' hx
  simp only [pev] at h
  split at h
  · rename_i k n hb
    rw [hb] at x1
    simp only [Option.some.injEq] at h
    subst h
    simp [Does, execOp, x1.1, conc, Op.unary, okv, Op.intArith]
    rfl
  · simp at h

theorem p_cvI {x : Operand} {x' : X} {s d : TypeId} {k k' : IntKind} {v : AV} (hs : P.underlying s = some (.int k')) (hd : P.underlying d = some (.int k)) (fx : Fit P τ γ R T ρ x) (hx : opd P x = some x') (h : pev (.cvI k x') T = some v) :
    Does P τ γ R ρ w ⟨dst, .convert s d x, ty, pos, af, gd⟩ v := by
  have x1 := fx x' hx
  simp only [pev] at h
  split at h
  · rename_i j n hb
    rw [hb] at x1
    simp only [Option.some.injEq] at h
    subst h
    simp [Does, execOp, x1.1, conc, convert, run_underlying hs, run_underlying hd, Conv.intToInt, okv]
  · simp at h

theorem p_cvS {x : Operand} {x' : X} {s d : TypeId} {v : AV} (hs : P.underlying s = some .string) (hd : P.underlying d = some .string) (fx : Fit P τ γ R T ρ x) (hx : opd P x = some x') (h : pev (.idS x') T = some v) : Does P τ γ R ρ w ⟨dst, .convert s d x, ty, pos, af, gd⟩ v := by
  have x1 := fx x' hx
  simp only [pev] at h
  split at h
  · rename_i b hb
    rw [hb] at x1
    simp only [Option.some.injEq] at h
    subst h
    refine ⟨?_, x1.2⟩
    simp [execOp, x1.1, conc, convert, run_underlying hs, run_underlying hd]
  · simp at h

theorem p_mkif {x : Operand} {x' : X} {t : TypeId} {d : TypeDesc} {v : AV} (ht : P.underlying t = some d) (hn : ∀ ms, d ≠ .interface ms) (fx : Fit P τ γ R T ρ x) (hx : opd P x = some x') (h : pev (.mkif t x') T = some v) :
    Does P τ γ R ρ w ⟨dst, .makeInterface t x, ty, pos, af, gd⟩ v := by
  have x1 := fx x' hx
  simp only [pev, Option.some.injEq] at h
  subst h
  refine ⟨?_, by simpa [okv] using x1.2⟩
  simp only [execOp, Instr.makeInterface, Sem.run_bind, run_underlying ht, Result.andThen_ok, x1.1]
  cases d <;> first | rfl | exact absurd rfl (hn _)

theorem fits_list {xs : List Operand} {xs' : List X} (hx : xs.mapM (opd P) = some xs') (fx : ∀ x ∈ xs, Fit P τ γ R T ρ x) : xs.map ρ = concL τ γ (evL xs' T) ∧ okvL γ R (evL xs' T) := by
  induction xs generalizing xs' with
  | nil => simp at hx; subst hx; simp [evL, concL, okvL]
  | cons x xs ih =>
    simp only [List.mapM_cons, Option.bind_eq_bind, Option.bind_eq_some_iff, Option.pure_def, Option.some.injEq] at hx
    obtain ⟨y, hy, ys, hys, rfl⟩ := hx
    have a := fx x (by simp) y hy
    have b := ih hys (fun z hz => fx z (by simp [hz]))
    simp only [evL, mapL_eq, List.map_cons, concL, okvL] at b ⊢
    exact ⟨by rw [a.1, b.1], a.2, b.2⟩

theorem p_mkfn {f : FuncId} {a b : Array Operand} {a' b' : List X} {v : AV} (fa : ∀ x ∈ a.toList, Fit P τ γ R T ρ x) (fb : ∀ x ∈ b.toList, Fit P τ γ R T ρ x) (ha : a.toList.mapM (opd P) = some a') (hb : b.toList.mapM (opd P) = some b')
    (h : pev (.mkfn (.func f) a' b') T = some v) : Does P τ γ R ρ w ⟨dst, .makeFunc (.func f) a b, ty, pos, af, gd⟩ v := by
  obtain ⟨a⟩ := a
  obtain ⟨b⟩ := b
  simp only [pev, Option.some.injEq] at h
  subst h
  have ha := fits_list ha fa
  have hb := fits_list hb fb
  refine ⟨?_, by simp [okv, ha.2, hb.2]⟩
  simp only [execOp, Instr.makeFunc, Sem.run_bind, Sem.run_pure, Result.andThen_ok, conc, concFn, ← ha.1, ← hb.1]
  simp

theorem p_ext {x : Operand} {x' : X} {i : Nat} {v : AV} (fx : Fit P τ γ R T ρ x) (hx : opd P x = some x') (h : pev (.ext i x') T = some v) :
    Does P τ γ R ρ w ⟨dst, .extract x i, ty, pos, af, gd⟩ v := by
  have x1 := fx x' hx
  simp only [pev] at h
  split at h
  · rename_i vs hb
    rw [hb] at x1
    simp only [getL_eq] at h
    have ho : okvL γ R vs := by simpa [okv] using x1.2
    refine ⟨?_, okvL_get ho h⟩
    simp [execOp, x1.1, conc, Instr.extract, concL_eq, h]
  · simp at h

theorem p_lenS {x : Operand} {x' : X} {t : TypeId} {v : AV} (ht : P.underlying t = some .string) (fx : Fit P τ γ R T ρ x) (hx : opd P x = some x') (h : pev (.lenS x') T = some v) :
    Does P τ γ R ρ w ⟨dst, .call { callee := .builtin .len, args := #[x], argTypes := #[t] }, ty, pos, af, gd⟩ v := by
  have x1 := fx x' hx
  simp only [pev] at h
  split at h
  · rename_i s hb
    rw [hb] at x1
    simp only [Option.some.injEq, lenL_eq] at h
    subst h
    simp [Does, execOp, resolve, invoke, builtin, Builtin.len_, run_underlying ht, x1.1, conc, okv, goInt]
  · simp at h

theorem p_lenV {x : Operand} {x' : X} {t e : TypeId} {v : AV} (ht : P.underlying t = some (.slice e)) (fx : Fit P τ γ R T ρ x) (hx : opd P x = some x') (h : pev (.lenV x') T = some v) :
    Does P τ γ R ρ w ⟨dst, .call { callee := .builtin .len, args := #[x], argTypes := #[t] }, ty, pos, af, gd⟩ v := by
  have x1 := fx x' hx
  simp only [pev] at h
  split at h
  · rename_i hb
    rw [hb] at x1
    simp only [Option.some.injEq] at h
    subst h
    simp [Does, execOp, resolve, invoke, builtin, Builtin.len_, run_underlying ht, x1.1, conc, okv, goInt]
  · rename_i hb
    rw [hb] at x1
    simp only [Option.some.injEq] at h
    subst h
    simp [Does, execOp, resolve, invoke, builtin, Builtin.len_, run_underlying ht, x1.1, conc, okv, goInt]
  · simp at h

theorem p_lenA {x : Operand} {t e : TypeId} {n : Nat} (ht : P.underlying t = some (.array n e)) :
    Does P τ γ R ρ w ⟨dst, .call { callee := .builtin .len, args := #[x], argTypes := #[t] }, ty, pos, af, gd⟩ (.int .i64 (.ofNat n)) := by
  simp [Does, execOp, resolve, invoke, builtin, Builtin.len_, run_underlying ht, conc, okv, goInt]

theorem p_cap {x : Operand} {x' : X} {t e : TypeId} {v : AV} (ht : P.underlying t = some (.slice e)) (fx : Fit P τ γ R T ρ x) (hx : opd P x = some x') (h : pev (.cap x') T = some v) :
    Does P τ γ R ρ w ⟨dst, .call { callee := .builtin .cap, args := #[x], argTypes := #[t] }, ty, pos, af, gd⟩ v := by
  have x1 := fx x' hx
  simp only [pev] at h
  split at h
  · rename_i hb
    rw [hb] at x1
    simp only [Option.some.injEq] at h
    subst h
    simp [Does, execOp, resolve, invoke, builtin, Builtin.cap_, run_underlying ht, x1.1, conc, okv, goInt]
  · rename_i hb
    rw [hb] at x1
    simp only [Option.some.injEq] at h
    subst h
    simp [Does, execOp, resolve, invoke, builtin, Builtin.cap_, run_underlying ht, x1.1, conc, okv, goInt]
  · simp at h

theorem p_minI {x y : Operand} {x' y' : X} {t u : TypeId} {v : AV} (fx : Fit P τ γ R T ρ x) (hx : opd P x = some x') (fy : Fit P τ γ R T ρ y) (hy : opd P y = some y') (h : pev (.minI x' y') T = some v) :
    Does P τ γ R ρ w ⟨dst, .call { callee := .builtin .min, args := #[x, y], argTypes := #[t, u] }, ty, pos, af, gd⟩ v := by
  have x1 := fx x' hx
  have y1 := fy y' hy
  simp only [pev] at h
  split at h
  · rename_i k a j b ha hb
    rw [ha] at x1
    rw [hb] at y1
    simp only [Option.some.injEq, brec_eq, ilt_eq, decide_eq_true_eq] at h
    subst h
    simp [Does, execOp, resolve, invoke, builtin, Builtin.min_, Builtin.min2, x1.1, y1.1, conc, okv]
  · simp at h

theorem p_maxI {x y : Operand} {x' y' : X} {t u : TypeId} {v : AV} (fx : Fit P τ γ R T ρ x) (hx : opd P x = some x') (fy : Fit P τ γ R T ρ y) (hy : opd P y = some y') (h : pev (.maxI x' y') T = some v) :
    Does P τ γ R ρ w ⟨dst, .call { callee := .builtin .max, args := #[x, y], argTypes := #[t, u] }, ty, pos, af, gd⟩ v := by
  have x1 := fx x' hx
  have y1 := fy y' hy
  simp only [pev] at h
  split at h
  · rename_i k a j b ha hb
    rw [ha] at x1
    rw [hb] at y1
    simp only [Option.some.injEq, brec_eq, ilt_eq, decide_eq_true_eq] at h
    subst h
    simp [Does, execOp, resolve, invoke, builtin, Builtin.max_, Builtin.max2, x1.1, y1.1, conc, okv]
  · simp at h

theorem p_nilck {x : Operand} {x' : X} {v : AV} (fx : Fit P τ γ R T ρ x) (hx : opd P x = some x') (h : pev (.nilck x') T = some v) :
    Does P τ γ R ρ w ⟨dst, .nilCheck x, ty, pos, af, gd⟩ v := by
  have x1 := fx x' hx
  simp only [pev] at h
  split at h
  all_goals first
    | (simp at h; done)
    | skip
  · rename_i hb
    rw [hb] at x1
    simp only [Option.some.injEq] at h
    subst h
    exact ⟨by simp [execOp, x1.1, conc, concFn], x1.2⟩
  · rename_i h1 h2 h3 h4 h5
    simp only [Option.some.injEq] at h
    subst h
    refine ⟨?_, x1.2⟩
    simp only [execOp, x1.1]
    cases hv : ev x' T <;> simp_all [conc]

theorem p_faddr {x : Operand} {x' : X} {s : TypeId} {fs : Array Field} {i : Nat} {f : Field} {v : AV} (hs : P.underlying s = some (.struct fs)) (hf : fs[i]? = some f) (hz : P.cellsOf f.type ≠ 0)
    (fx : Fit P τ γ R T ρ x) (hx : opd P x = some x') (h : pev (.faddr f.offset x') T = some v) : Does P τ γ R ρ w ⟨dst, .fieldAddr s x i, ty, pos, af, gd⟩ v := by
  have x1 := fx x' hx
  simp only [pev] at h
  split at h
  · rename_i l o hb
    rw [hb] at x1
    simp only [Option.some.injEq] at h
    subst h
    refine ⟨?_, by simpa [okv] using x1.2⟩
    simp only [execOp, Instr.fieldAt, Sem.run_bind, run_underlying hs, Result.andThen_ok, hf, x1.1, conc, Instr.sureAddr, Sem.run_pure, fieldPlace, run_sizeOf_cells hz, hz, if_false]
    simp only [Addr.add]
    split <;> simp_all [Nat.add_assoc]
  · simp at h

theorem p_fld {x : Operand} {x' : X} {s : TypeId} {fs : Array Field} {i : Nat} {f : Field} {b : Bool} {v : AV} (hs : P.underlying s = some (.struct fs)) (hf : fs[i]? = some f) (hb : isAggB P f.type = some b)
    (fx : Fit P τ γ R T ρ x) (hx : opd P x = some x') (h : pev (.fld f.offset (if b = true then some (P.cellsOf f.type) else none) x') T = some v) : Does P τ γ R ρ w ⟨dst, .field s x i, ty, pos, af, gd⟩ v := by
  have x1 := fx x' hx
  simp only [pev] at h
  cases hv : ev x' T with
  | agg cs =>
    rw [hv] at x1 h
    have ho : okvL γ R cs := by simpa [okv] using x1.2
    have := part_sound (τ := τ) (w := w) hb h ho
    refine ⟨?_, this.2⟩
    simp only [execOp, Instr.field, Sem.run_bind, run_underlying hs, Result.andThen_ok, hf, x1.1, conc, asAgg, Sem.run_pure, this.1]
  | _ => rw [hv] at h; simp [pfl] at h

theorem ieq_nat {i : Operand} {i' : X} {j : IntKind} {k : Nat} (fi : Fit P τ γ R T ρ i) (hi : opd P i = some i') (h : ev i' T = .int j (.ofNat k)) : ρ i = .int j (k : Int) := by
  have := fi i' hi
  rw [h] at this
  simpa [conc] using this.1

theorem addr_add (b o n : Nat) : (⟨b, o, none⟩ : Addr).add n = ⟨b, o + n, none⟩ := by
  simp only [Addr.add]
  split <;> simp_all

theorem p_ixS {x i : Operand} {x' i' : X} {t e : TypeId} {v : AV} (ht : P.underlying t = some (.slice e)) (hz : P.cellsOf e ≠ 0) (fx : Fit P τ γ R T ρ x) (hx : opd P x = some x') (fi : Fit P τ γ R T ρ i) (hi : opd P i = some i')
    (h : pev (.ixS (P.cellsOf e) x' i') T = some v) : Does P τ γ R ρ w ⟨dst, .indexAddr t x i, ty, pos, af, gd⟩ v := by
  have x1 := fx x' hx
  simp only [pev] at h
  split at h
  · rename_i l o q n c y z j k hv hk
    rw [hv] at x1
    have i1 := ieq_nat fi hi hk
    simp only [natblt_eq, natbeq_eq, band_eq, brec_eq, Bool.and_eq_true, decide_eq_true_eq] at h
    split at h
    · rename_i hc
      obtain ⟨hkn, rfl⟩ := hc
      simp only [Option.some.injEq] at h
      subst h
      obtain ⟨hR, hnc, hlim, hz', _⟩ : R l ∧ n ≤ c ∧ o + c * P.cellsOf e ≤ (γ l).lim ∧ 0 < P.cellsOf e ∧ (y = true → P.cellsOf e ∣ (γ l).lim - o) := by simpa [okv] using x1.2
      have hne : (γ l).lim ≠ o := by
        have : 1 * P.cellsOf e ≤ c * P.cellsOf e := Nat.mul_le_mul_right _ (by omega)
        omega
      refine ⟨?_, by simpa [okv] using hR⟩
      simp only [execOp, Instr.indexAt, i1, x1.1, conc, asIntOf, Sem.run_bind, Sem.run_pure, Result.andThen_ok, run_underlying ht, hne, if_false]
      rw [if_pos (by omega)]
      simp [run_sizeOf_cells hz, addr_add, Nat.add_assoc]
    · simp at h
  · simp at h

theorem p_ixA {x i : Operand} {x' i' : X} {t e : TypeId} {len : Nat} {v : AV} (ht : P.underlying t = some (.array len e)) (hz : P.cellsOf e ≠ 0) (fx : Fit P τ γ R T ρ x) (hx : opd P x = some x') (fi : Fit P τ γ R T ρ i) (hi : opd P i = some i')
    (h : pev (.ixA (P.cellsOf e) len x' i') T = some v) : Does P τ γ R ρ w ⟨dst, .indexAddr t x i, ty, pos, af, gd⟩ v := by
  have x1 := fx x' hx
  simp only [pev] at h
  split at h
  · rename_i l o j k hv hk
    rw [hv] at x1
    have i1 := ieq_nat fi hi hk
    simp only [natblt_eq, brec_eq, decide_eq_true_eq] at h
    split at h
    · rename_i hc
      simp only [Option.some.injEq] at h
      subst h
      refine ⟨?_, by simpa [okv] using x1.2⟩
      simp only [execOp, Instr.indexAt, i1, x1.1, conc, asIntOf, Sem.run_bind, Sem.run_pure, Result.andThen_ok, run_underlying ht, Instr.sureAddr]
      rw [if_pos (by omega)]
      simp [run_sizeOf_cells hz, addr_add, Nat.add_assoc]
    · simp at h
  · simp at h

theorem p_ixStr {x i : Operand} {x' i' : X} {t : TypeId} {v : AV} (ht : P.underlying t = some .string) (fx : Fit P τ γ R T ρ x) (hx : opd P x = some x') (fi : Fit P τ γ R T ρ i) (hi : opd P i = some i')
    (h : pev (.ixStr x' i') T = some v) : Does P τ γ R ρ w ⟨dst, .index t x i, ty, pos, af, gd⟩ v := by
  have x1 := fx x' hx
  simp only [pev] at h
  split at h
  · rename_i s j k hv hk
    rw [hv] at x1
    have i1 := ieq_nat fi hi hk
    simp only [orec_bind, getL_eq, Option.bind_eq_some_iff, Option.some.injEq] at h
    obtain ⟨b, hb, rfl⟩ := h
    have hb' : b < 256 := by
      have : ∀ b ∈ s, b < 256 := by simpa [okv] using x1.2
      exact this b (List.mem_of_getElem? hb)
    refine ⟨?_, by simp [okv]⟩
    have e := strV_get hb
    simp only [execOp, i1, x1.1, conc]
    simp [Instr.index, asIntOf, run_underlying ht, e, UInt8.toNat_ofNat', Nat.mod_eq_of_lt hb']
  · simp at h

theorem p_ixArr {x i : Operand} {x' i' : X} {t e : TypeId} {len : Nat} {b : Bool} {v : AV} (ht : P.underlying t = some (.array len e)) (hb : isAggB P e = some b) (fx : Fit P τ γ R T ρ x) (hx : opd P x = some x') (fi : Fit P τ γ R T ρ i) (hi : opd P i = some i')
    (h : pev (.ixArr (P.cellsOf e) len b x' i') T = some v) : Does P τ γ R ρ w ⟨dst, .index t x i, ty, pos, af, gd⟩ v := by
  have x1 := fx x' hx
  simp only [pev] at h
  split at h
  · rename_i j k hk
    have i1 := ieq_nat fi hi hk
    simp only [natblt_eq, brec_eq, decide_eq_true_eq] at h
    split at h
    · rename_i hc
      obtain ⟨ie, hie⟩ := info_of_isAgg hb
      cases hv : ev x' T with
      | agg cs =>
        rw [hv] at x1 h
        have ho : okvL γ R cs := by simpa [okv] using x1.2
        have h' : pfl (k * P.cellsOf e) (if b = true then some (P.cellsOf e) else none) (.agg cs) = some v := by
          cases b <;> simpa using h
        have := part_sound (τ := τ) (w := w) hb h' ho
        refine ⟨?_, this.2⟩
        simp only [execOp, Instr.index, i1, x1.1, conc, asIntOf, Sem.run_bind, Sem.run_pure, Result.andThen_ok, run_underlying ht]
        rw [if_pos (by omega)]
        simp only [Sem.run_bind, run_sizeOf' hie, Result.andThen_ok, Int.toNat_natCast, ← cellsOf_info hie, this.1]
      | _ => rw [hv] at h; cases b <;> simp [pfl] at h
    · simp at h
  · simp at h
end
end
end Go.Ax
