/- Functions whose paths are joined: run aside, on a heap that they may only read, to one plain value. -/
import Derived.Test.YtbhjokfopgbmiaaGreatDoorAxSound3
import Derived.KernelRfl
namespace Go.Ax
open Go

/-- A value without labels that can be told from others. -/
def plainV : AV → Option AV
  | .bool b => some (.bool b)
  | .int k n => some (.int k n)
  | .tok k i => some (.tok k i)
  | .str s => some (.str s)
  | _ => none

noncomputable def bothM (a b : Option AV) : Option AV := match a, b with
  | some x, some y => if same0 x y = true then some x else none
  | _, _ => none

theorem bothM_some {a b : Option AV} {v : AV} (h : bothM a b = some v) : a = some v ∧ b = some v := by
  unfold bothM at h
  split at h
  · split at h
    · rename_i hs
      rw [← same0_eq hs]
      exact ⟨h, h⟩
    · simp at h
  · simp at h

/-- Answers that must be one value. -/
@[reducible] noncomputable def AnsM (v : AV) : Ans (Option AV) := ⟨none, bothM, (· = some v), fun _ _ h => bothM_some h, by simp⟩

/-- The heap, to be read only: nothing else is there. -/
def roO : Option AObj → Option AObj
  | some (.cells e cs fz _) => some (.cells e cs fz true)
  | _ => none
noncomputable def roH (H : Tr AObj) : Tr AObj := Tr.rec .e (fun _ v _ ihl ihr => .n ihl (roO v) ihr) H

theorem roH_get (H : Tr AObj) : ∀ p, Tr.get p (roH H) = roO (Tr.get p H) := by
  induction H with
  | e => intro p; show Tr.get p .e = roO (Tr.get p .e); simp [roO]
  | n l v r ihl ihr =>
    intro p
    cases p with
    | e => rfl
    | l p => exact ihl p
    | r p => exact ihr p

noncomputable def valK (r : ARet) (_ : Tr AObj) (_ : Nat) : Option AV := match r with
  | .ret v => plainV v
  | .pan _ => none

noncomputable def hk0 : Hook := fun _ _ _ _ => none
noncomputable def callM (ft : FT) (v : AV) (n : Nat) : CallF (Option AV) := @call (Option AV) (AnsM v) ft hk0 n
/-- What stands for functions whose paths are joined. -/
noncomputable def hookOf (ft : FT) (pu : Nat → Bool) (n : Nat) : Hook := fun g as H nx => Bool.rec none (callM ft und n g as (roH H) nx valK) (pu g)

theorem irrel (ρ : Type) (f : ρ) (b : ρ → ρ → ρ) (h1 h2 : ρ → Prop) (p1 : ∀ x y, h1 (b x y) → h1 x ∧ h1 y) (p2 : ∀ x y, h2 (b x y) → h2 x ∧ h2 y) (q1 : ¬ h1 f) (q2 : ¬ h2 f) (ft : FT) (hk : Hook) (n : Nat) :
    @call ρ ⟨f, b, h1, p1, q1⟩ ft hk n = @call ρ ⟨f, b, h2, p2, q2⟩ ft hk n := by kernel_rfl
theorem callM_irrel (ft : FT) (v : AV) (n : Nat) : callM ft und n = callM ft v n := irrel _ _ _ _ _ _ _ _ _ _ _ _

section
variable {P : Program} {τ : Nat → Int} {γ : Nat → G} {R : Nat → Prop} {w : World} {H : Tr AObj} {nx : Nat}

theorem hget_roH (l : Nat) : hget (roH H) l = roO (hget H l) := roH_get H _
theorem roO_some {x : Option AObj} {o : AObj} (h : roO x = some o) : ∃ e cs fz r, x = some (.cells e cs fz r) ∧ o = .cells e cs fz true := by
  unfold roO at h
  split at h
  · rename_i e cs fz r
    simp only [Option.some.injEq] at h
    exact ⟨e, cs, fz, r, rfl, h.symm⟩
  · simp at h

theorem Rel.ro (h : Rel P τ γ R H nx w) : Rel P τ γ R (roH H) nx w := by
  refine ⟨fun l hl => ?_, fun l o hl ho => ?_, fun l m hl hm hl' hm' he => ?_, h.glob⟩
  · have := h.fresh l hl
    exact ⟨by rw [hget_roH, this.1]; rfl, this.2⟩
  · rw [hget_roH] at ho
    obtain ⟨e, cs, fz, r, hx, rfl⟩ := roO_some ho
    obtain ⟨ob, hb, hr⟩ := h.obj l _ hl hx
    refine ⟨ob, hb, ?_⟩
    cases hr with
    | cells _ _ _ _ c fr hs hlm hn hc ho' hf => exact .cells e cs fz true c fr hs hlm hn hc ho' hf
  · have back : ∀ k, hget (roH H) k ≠ none → hget H k ≠ none := fun k hk hn => hk (by rw [hget_roH, hn]; rfl)
    exact h.inj l m hl hm (back l hl') (back m hm') he

theorem no_own (b : Nat) : ¬ Own γ R (roH H) b := by
  rintro ⟨l, _, ⟨o, ho, hro⟩, _⟩
  rw [hget_roH] at ho
  obtain ⟨e, cs, fz, r, _, rfl⟩ := roO_some ho
  simp [AObj.ro] at hro

theorem plainV_spec {u v : AV} (h : plainV u = some v) (τ : Nat → Int) (γ γ' : Nat → G) (R R' : Nat → Prop) : u = v ∧ conc τ γ' v = conc τ γ v ∧ (okv γ' R' v → okv γ R v) := by
  unfold plainV at h
  split at h <;> simp only [Option.some.injEq, reduceCtorEq] at h <;> subst h <;> exact ⟨rfl, by simp [conc], by simp [okv]⟩

/-- What is old stays: the abstract state may go back to what it was. -/
theorem Rel.back {γ' : Nat → G} {R' : Nat → Prop} {H' : Tr AObj} {w' : World} (h : Rel P τ γ R H nx w) (hw : Went γ R (roH H) w γ' R' H' w') : Rel P τ γ R H nx w' ∧ Went γ R H w γ R H w' := by
  have hf : ∀ b, b < w.heap.size → w'.heap[b]? = w.heap[b]? := fun b hb => hw.frame b hb (no_own b)
  refine ⟨⟨h.fresh, fun l o hl ho => ?_, h.inj, h.glob⟩, ⟨fun _ g => ⟨rfl, g⟩, hw.size, fun _ g => .inr g, fun b hb _ => hf b hb, hw.outer⟩⟩
  obtain ⟨ob, hb, hr⟩ := h.obj l o hl ho
  exact ⟨ob, by rw [hf _ (Array.getElem?_eq_some_iff.1 hb).1]; exact hb, hr⟩

theorem hk0_ok : HookOk P τ hk0 := by
  intro g as H nx v h
  simp [hk0] at h

theorem hook_ok {ft : FT} (htab : Table P ft) (pu : Nat → Bool) (n : Nat) : HookOk P τ (hookOf ft pu n) := by
  intro g as H nx v h γ R w hR ho
  unfold hookOf at h
  cases hp : pu g with
  | false => rw [hp] at h; simp at h
  | true =>
    rw [hp] at h
    simp only at h
    rw [callM_irrel ft v n] at h
    letI inst := AnsM v
    obtain ⟨hc, hgives⟩ := call_ok (α := Option AV) htab (hk0_ok (P := P) (τ := τ)) n g as (roH H) nx valK γ R w h hR.ro ho
    have key : ∀ cs, okv γ R v ∧ ∃ w' fr, Rel P τ γ R H nx w' ∧ Went γ R H w γ R H w' ∧ Steps P (lone (Frame.enter P g (concL τ γ as).toArray .normal) cs w) (lone fr cs w') ∧ fr.fn = g ∧ fr.leaving P w' (.returned (conc τ γ v)) := by
      intro cs
      obtain ⟨γ', R', H', nx', w', fr, r, h1, h2, h3, h4, h5, h6, h7⟩ := hgives cs
      have h7' : valK r H' nx' = some v := h7
      cases r with
      | pan u => simp [valK] at h7'
      | ret u =>
        obtain ⟨rfl, hcv, hov⟩ := plainV_spec (show plainV u = some v from h7') τ γ γ' R R'
        have hb := hR.back h2
        simp only [concRet, hcv] at h6
        exact ⟨hov h5, w', fr, hb.1, hb.2, h3, h4, h6⟩
    exact ⟨hc, (key []).1, fun cs => (key cs).2⟩

/-! ## A call of the program -/

/-- The program's own table. -/
noncomputable def ftOf (P : Program) : FT := fun g => Option.rec none (fun f => funC P f) (P.funcs[g]?)
theorem table_of (h : (P.funcs.toList.all fun f => !(f.name == "runtime.NumGoroutine")) = true) : Table P (ftOf P) := by
  intro g fn hf
  unfold ftOf at hf
  cases hg : P.funcs[g]? with
  | none => rw [hg] at hf; simp at hf
  | some f =>
    rw [hg] at hf
    refine ⟨f, rfl, hf, ?_⟩
    have := (List.all_eq_true.1 h) f (Array.mem_toList_iff.2 (Array.mem_of_getElem? hg))
    simpa using this

/-- Does it answer with truth? -/
noncomputable def isT : ARet → Tr AObj → Nat → Bool := fun r _ _ => match r with
  | .ret (.bool b) => b
  | _ => false

/-- Of the world nothing is known. -/
theorem rel_start (w : World) : Rel P τ (fun l => ⟨l, 0, 0, 0⟩) (fun l => l < P.globals.size) .e P.globals.size w := by
  refine ⟨fun l hl => ⟨by unfold hget; simp, by omega⟩, fun l o _ ho => ?_, fun l m _ _ h => ?_, fun g hg => ⟨hg, rfl⟩⟩
  · unfold hget at ho; simp at ho
  · unfold hget at h; simp at h

/-- What the abstract machine says of a call at values without labels. -/
theorem calls_true (htab : Table P (ftOf P)) (pu : Nat → Bool) (m n g nx : Nat) (hnx : nx = P.globals.size) (as : List AV) (ho : okvL (fun l => ⟨l, 0, 0, 0⟩) (fun l => l < P.globals.size) as) (h : call (ρ := Bool) (ftOf P) (hookOf (ftOf P) pu m) n g as .e nx isT = true) (τ : Nat → Int) (w : World) :
    Calls P g (concL τ (fun l => ⟨l, 0, 0, 0⟩) as).toArray w fun e w' => e = .returned (.bool true) ∧ (w'.os = w.os ∧ w'.output = w.output) ∧ w.heap.size ≤ w'.heap.size ∧ ∀ b, b < w.heap.size → w'.heap[b]? = w.heap[b]? := by
  subst hnx
  obtain ⟨_, hg⟩ := call_ok (α := Bool) htab (hook_ok (τ := τ) htab pu m) n g as .e P.globals.size isT _ _ w h (rel_start w) ho
  intro cs
  obtain ⟨γ', R', H', nx', w', fr, r, h1, h2, h3, h4, h5, h6, h7⟩ := hg cs
  have h7' : isT r H' nx' = true := h7
  have hr : r = .ret (.bool true) := by
    unfold isT at h7'
    split at h7'
    · rw [h7']
    · simp at h7'
  subst hr
  refine ⟨.returned (.bool true), w', fr, ⟨rfl, h2.outer, h2.size, fun b hb => h2.frame b hb ?_⟩, h3, h4, h6⟩
  rintro ⟨l, _, ⟨o, ho, _⟩, _⟩
  unfold hget at ho
  simp at ho
end
end Go.Ax
