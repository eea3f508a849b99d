/- Operations that reckon or read: all of them. -/
import Derived.Test.YtbhjokfopgbmiaaGreatDoorAxRead
namespace Go.Ax
open Go

@[simp] theorem lastL_eq (l : List Nat) : lastL l = l.getLast? := by
  induction l with
  | nil => rfl
  | cons x xs ih =>
    show (Option.casesOn (lastL xs) (some x) fun y => some y : Option Nat) = _
    rw [ih]
    cases xs with
    | nil => rfl
    | cons y ys => rw [List.getLast?_cons_cons]; cases h : (y :: ys).getLast? <;> simp_all
@[simp] theorem findB_eq (x : Nat) (es : List (AV × AV × Nat)) : findB x es = es.find? (fun e => e.2.2 == x) := by
  induction es with
  | nil => rfl
  | cons e es ih =>
    show (Bool.rec (findB x es) (some e) (Nat.beq e.2.2 x) : Option (AV × AV × Nat)) = _
    rw [ih, List.find?_cons]
    cases h : (e.2.2 == x)
    · have : Nat.beq e.2.2 x = false := by simpa using h
      rw [this]
    · have : Nat.beq e.2.2 x = true := by simpa using h
      rw [this]

section
variable {P : Program} {τ : Nat → Int} {γ : Nat → G} {R : Nat → Prop} {T : Tr AV} {H : Tr AObj} {nx : Nat} {ρ : Operand → Value} {w : World}

theorem mit_of {l : Nat} {m : Option Nat} {since : Nat} {seen : List Nat} {last : Nat} (hR : Rel P τ γ R H nx w) (hl : R l) (hg : hget H l = some (.mit m since seen last)) :
    w.heap[(γ l).blk]? = some (.mapIter (m.map fun l => (γ l).blk) since seen.toArray last) ∧ (γ l).base = 0 ∧ ∀ k, m = some k → R k := by
  obtain ⟨ob, hb, hr⟩ := hR.obj l _ hl hg
  cases hr with
  | mit _ _ _ _ h0 ho => exact ⟨hb, h0, ho⟩

section
variable {dst : Option Tmp} {ty : TypeId} {pos : String} {af : Array Edge} {gd : Option (Nat × Bool)}
theorem q_entry {x : Operand} {x' : X} {v : AV} (hR : Rel P τ γ R H nx w) (fx : Fit P τ γ R T ρ x) (hx : opd P x = some x') (h : rev (.entry x') T H = some v) :
    Does P τ γ R ρ w ⟨dst, .entry x, ty, pos, af, gd⟩ v := by
  have x1 := fx x' hx
  simp only [rev] at h
  split at h
  · rename_i l hv
    rw [hv] at x1
    have hl : R l := by simpa [okv] using x1.2
    split at h
    · rename_i m since seen last hg
      have hm := mit_of hR hl hg
      split at h
      · rename_i es clock hg'
        simp only [natbeq_eq, brec_eq, decide_eq_true_eq, orec_bind, lastL_eq, findB_eq] at h
        split at h
        · rename_i hcl
          subst hcl
          simp only [Option.bind_eq_some_iff, Option.some.injEq] at h
          obtain ⟨s, hs, e, he, rfl⟩ := h
          have hmp := map_of hR (hm.2.2 m rfl) hg'
          have hoe := hmp.2 e (List.mem_of_find?_eq_some he)
          refine ⟨?_, by simp [okv, okvL, hoe.1, hoe.2]⟩
          have h1 : (getObj (γ l).blk).run P w = .ok _ w := run_getObj_of hm.1 (by simp)
          have h2 : (getObj (γ m).blk).run P w = .ok _ w := run_getObj_of hmp.1 (by simp)
          have hb : seen.toArray.back? = some s := by rw [← hs]; simp
          have hf : ((es.map (concE τ γ)).toArray.find? (fun x => x.born == s)) = some (concE τ γ e) := by
            simp [List.find?_map, Function.comp_def, concE, he]
          simp only [execOp, Instr.entry, Sem.run_bind, x1.1, conc, hm.2.1, Nat.zero_add, h1, Result.andThen_ok, Option.map_some, hb, h2, bne_self_eq_false, Bool.false_eq_true, if_false, hf, Sem.run_pure, concL, concE]
        · simp at h
      · simp at h
    · simp at h
  · simp at h
end

theorem none_bind' {α β : Type} (f : α → Option β) : (none : Option α).bind f = none := rfl

set_option maxHeartbeats 1000000 in
theorem quiet_sound {o : Oper} (hR : Rel P τ γ R H nx w) (hf : ∀ x ∈ o.op.operands.toList, Fit P τ γ R T ρ x) (hρ : ∀ z, ρ (.const z) = z) :
    (∀ po v, opC P o = some (.p po) → pev po T = some v → Does P τ γ R ρ w o v) ∧ (∀ ro v, opC P o = some (.q ro) → rev ro T H = some v → Does P τ γ R ρ w o v) := by
  obtain ⟨dst, op, ty, pos, af, gd⟩ := o
  simp only at hf
  constructor
  · intro po v hc h
    cases op
    case move x =>
      simp only [opC, Option.bind_eq_bind, Option.bind_eq_some_iff, Option.some.injEq, AOp.p.injEq] at hc
      obtain ⟨x', hx, rfl⟩ := hc
      exact p_mv (hf x (by simp [Op.operands])) hx h
    case pick c a b =>
      simp only [opC, Option.bind_eq_bind, Option.bind_eq_some_iff, Option.some.injEq, AOp.p.injEq] at hc
      obtain ⟨c', hc', a', ha, b', hb, rfl⟩ := hc
      exact p_pick (hf c (by simp [Op.operands])) (hf a (by simp [Op.operands])) (hf b (by simp [Op.operands])) hc' ha hb h
    case build t ps =>
      have fx : ∀ p ∈ ps.toList, Fit P τ γ R T ρ p.2 := fun p hp => hf p.2 (by simp [Op.operands]; exact ⟨p.1, by simpa using hp⟩)
      simp only [opC, Option.bind_eq_bind, Option.bind_eq_some_iff] at hc
      obtain ⟨z, hz, hc⟩ := hc
      split at hc
      · rename_i fs hd
        split at hc
        · simp at hc
        · rename_i hall
          simp only [Option.bind_eq_some_iff, Option.some.injEq, AOp.p.injEq] at hc
          obtain ⟨qs, hq, rs, hr, rfl⟩ := hc
          refine p_buildS hz hd ?_ hq hr fx h
          intro f hfm
          simp only [Bool.not_eq_eq_eq_not, Bool.not_true, Bool.not_eq_false, List.all_eq_true] at hall
          exact Option.isSome_iff_exists.1 (hall f hfm)
      · rename_i n e hd
        simp only [Option.bind_eq_some_iff, Option.some.injEq, AOp.p.injEq] at hc
        obtain ⟨ie, hie, qs, hq, rs, hr, rfl⟩ := hc
        exact p_buildA hz hd hie hq hr fx h
      · simp at hc
    case nilCheck x =>
      simp only [opC, Option.bind_eq_bind, Option.bind_eq_some_iff, Option.some.injEq, AOp.p.injEq] at hc
      obtain ⟨x', hx, rfl⟩ := hc
      exact p_nilck (hf x (by simp [Op.operands])) hx h
    case binOp op t x y u =>
      simp only [opC, binC, Option.bind_eq_bind, Option.bind_eq_some_iff] at hc
      obtain ⟨x', hx, y', hy, hc⟩ := hc
      have fx := hf x (by simp [Op.operands])
      have fy := hf y (by simp [Op.operands])
      split at hc
      · simp only [Option.some.injEq, AOp.p.injEq] at hc; subst hc; exact p_shf (.inl rfl) fx hx fy hy h
      · simp only [Option.some.injEq, AOp.p.injEq] at hc; subst hc; exact p_shf (.inr rfl) fx hx fy hy h
      · simp at hc
      · rename_i n1 n2 n3
        split at hc
        · simp only [Option.some.injEq, AOp.p.injEq] at hc; subst hc; exact p_bin ⟨n1, n2⟩ fx hx fy hy h
        · simp only [Option.some.injEq, AOp.p.injEq] at hc; subst hc; exact p_sbin fx hx fy hy h
        · rename_i d hd1 hd2 hd
          simp only [Option.bind_eq_some_iff] at hc
          obtain ⟨neg, hneg, hc⟩ := hc
          have hop : op = if neg = true then .neq else .eql := by
            split at hneg <;> simp only [Option.some.injEq, reduceCtorEq] at hneg <;> subst hneg <;> rfl
          subst hop
          split at hc
          · rename_i hb
            simp only [Option.some.injEq, AOp.p.injEq] at hc
            subst hc
            exact p_eqc (by simp [layOf, hd]) (by simp [isAggB, hd]) (by simp) (fun _ => hd) fx hx fy hy h
          · rename_i fs
            split at hc
            · simp at hc
            · rename_i hG
              simp only [Option.map_eq_some_iff, AOp.p.injEq] at hc
              obtain ⟨l, hl, rfl⟩ := hc
              exact p_eqc hl (by simp [isAggB, hd]) (fun _ => by simpa using hG) (by simp) fx hx fy hy h
          · simp only [Option.bind_eq_some_iff] at hc
            obtain ⟨⟨k, z⟩, hk, hc⟩ := hc
            simp only at hc
            split at hc
            · rename_i hy'
              simp only [Option.some.injEq, AOp.p.injEq] at hc
              subst hc
              exact (p_isnil hd hk fx hx hy' hρ h).1
            · split at hc
              · rename_i hx'
                simp only [Option.some.injEq, AOp.p.injEq] at hc
                subst hc
                exact (p_isnil hd hk fy hy hx' hρ h).2
              · simp at hc
        · simp at hc
    case unOp op t x =>
      cases op <;> simp only [opC, Option.bind_eq_bind, Option.bind_eq_some_iff, Option.some.injEq, AOp.p.injEq, reduceCtorEq] at hc
      · obtain ⟨x', hx, rfl⟩ := hc
        exact p_neg (hf x (by simp [Op.operands])) hx h
      · obtain ⟨x', hx, rfl⟩ := hc
        exact p_not (hf x (by simp [Op.operands])) hx h
    case convert s d x =>
      simp only [opC, Option.bind_eq_bind] at hc
      have fx := hf x (by simp [Op.operands])
      split at hc
      · rename_i k k' hs hd
        simp only [Option.bind_eq_some_iff, Option.some.injEq, AOp.p.injEq] at hc
        obtain ⟨x', hx, rfl⟩ := hc
        exact p_cvI hs hd fx hx h
      · rename_i hs hd
        simp only [Option.bind_eq_some_iff, Option.some.injEq, AOp.p.injEq] at hc
        obtain ⟨x', hx, rfl⟩ := hc
        exact p_cvS hs hd fx hx h
      · exfalso
        split at hc <;> simp [Option.bind_eq_some_iff] at hc
      · simp at hc
    case makeInterface t x =>
      simp only [opC, Option.bind_eq_bind] at hc
      split at hc
      · simp at hc
      · simp at hc
      · rename_i d hn hd
        simp only [Option.bind_eq_some_iff, Option.some.injEq, AOp.p.injEq] at hc
        obtain ⟨x', hx, rfl⟩ := hc
        exact p_mkif hd (fun ms e => hn ms e) (hf x (by simp [Op.operands])) hx h
    case makeFunc f a b =>
      cases f <;> simp only [opC, Option.bind_eq_bind, Option.bind_eq_some_iff, Option.some.injEq, AOp.p.injEq, reduceCtorEq] at hc
      · obtain ⟨a', ha, b', hb, rfl⟩ := hc
        exact p_mkfn (fun x hx => hf x (by simp [Op.operands] at *; exact .inl hx)) (fun x hx => hf x (by simp [Op.operands] at *; exact .inr hx)) ha hb h
    case slice t x lo hi mx =>
      simp only [opC, Option.bind_eq_bind, Option.bind_eq_some_iff] at hc
      obtain ⟨x', hx, lo', hlo, hi', hhi, mx', hmx, hc⟩ := hc
      have fx := hf x (by simp [Op.operands])
      have flo : ∀ y, lo = some y → Fit P τ γ R T ρ y := fun y e => hf y (by simp [Op.operands, e])
      have fhi : ∀ y, hi = some y → Fit P τ γ R T ρ y := fun y e => hf y (by simp [Op.operands, e])
      have fmx : ∀ y, mx = some y → Fit P τ γ R T ρ y := fun y e => hf y (by simp [Op.operands, e])
      split at hc
      · rename_i ht
        split at hc
        · simp at hc
        · rename_i hn
          have : mx = none := by cases mx <;> simp_all
          subst this
          simp only [Option.some.injEq, AOp.p.injEq] at hc
          subst hc
          exact p_slStr ht fx hx flo fhi hlo hhi h
      · rename_i e ht
        split at hc
        · simp at hc
        · rename_i hz
          simp only [Option.some.injEq, AOp.p.injEq] at hc
          subst hc
          exact p_slV ht hz fx hx flo fhi fmx hlo hhi hmx h
      · split at hc <;> simp at hc
      · simp at hc
    case fieldAddr t x i =>
      simp only [opC, Option.bind_eq_bind, Option.bind_eq_some_iff] at hc
      obtain ⟨d, hd, hc⟩ := hc
      split at hc
      · rename_i fs
        simp only [Option.bind_eq_some_iff] at hc
        obtain ⟨f, hfi, hc⟩ := hc
        split at hc
        · simp at hc
        · rename_i hz
          simp only [Option.bind_eq_some_iff, Option.some.injEq, AOp.p.injEq] at hc
          obtain ⟨x', hx, rfl⟩ := hc
          exact p_faddr hd hfi hz (hf x (by simp [Op.operands])) hx h
      · simp at hc
    case field t x i =>
      simp only [opC, Option.bind_eq_bind, Option.bind_eq_some_iff] at hc
      obtain ⟨d, hd, hc⟩ := hc
      split at hc
      · rename_i fs
        simp only [Option.bind_eq_some_iff, Option.some.injEq, AOp.p.injEq] at hc
        obtain ⟨f, hfi, b, hb, x', hx, rfl⟩ := hc
        exact p_fld hd hfi hb (hf x (by simp [Op.operands])) hx h
      · simp at hc
    case indexAddr t x i =>
      simp only [opC, Option.bind_eq_bind] at hc
      have fx := hf x (by simp [Op.operands])
      have fi := hf i (by simp [Op.operands])
      split at hc
      · rename_i e ht
        split at hc
        · simp at hc
        · rename_i hz
          simp only [Option.bind_eq_some_iff, Option.some.injEq, AOp.p.injEq] at hc
          obtain ⟨x', hx, i', hi, rfl⟩ := hc
          exact p_ixS ht hz fx hx fi hi h
      · rename_i n e ht
        split at hc
        · simp at hc
        · rename_i hz
          simp only [Option.bind_eq_some_iff, Option.some.injEq, AOp.p.injEq] at hc
          obtain ⟨x', hx, i', hi, rfl⟩ := hc
          exact p_ixA ht hz fx hx fi hi h
      · simp at hc
    case index t x i =>
      simp only [opC, Option.bind_eq_bind] at hc
      have fx := hf x (by simp [Op.operands])
      have fi := hf i (by simp [Op.operands])
      split at hc
      · rename_i ht
        simp only [Option.bind_eq_some_iff, Option.some.injEq, AOp.p.injEq] at hc
        obtain ⟨x', hx, i', hi, rfl⟩ := hc
        exact p_ixStr ht fx hx fi hi h
      · rename_i n e ht
        simp only [Option.bind_eq_some_iff, Option.some.injEq, AOp.p.injEq] at hc
        obtain ⟨b, hb, x', hx, i', hi, rfl⟩ := hc
        exact p_ixArr ht hb fx hx fi hi h
      · simp at hc
    case extract x i =>
      simp only [opC, Option.bind_eq_bind, Option.bind_eq_some_iff, Option.some.injEq, AOp.p.injEq] at hc
      obtain ⟨x', hx, rfl⟩ := hc
      exact p_ext (hf x (by simp [Op.operands])) hx h
    case call c =>
      obtain ⟨callee, as, ts⟩ := c
      simp only [opC, Option.bind_eq_bind] at hc
      split at hc
      · simp only [Option.bind_eq_some_iff, Option.some.injEq, reduceCtorEq, and_false, exists_false] at hc
      · rename_i b
        obtain ⟨as⟩ := as
        obtain ⟨ts⟩ := ts
        unfold builtC at hc
        simp only [Option.bind_eq_bind] at hc
        split at hc
        · rename_i t x
          have fx := hf x (by simp [Op.operands, Call.operands])
          simp only [Option.bind_eq_some_iff] at hc
          obtain ⟨x', hx, hc⟩ := hc
          split at hc
          · rename_i hu; simp only [Option.some.injEq, AOp.p.injEq] at hc; subst hc; exact p_lenS hu fx hx h
          · rename_i e hu; simp only [Option.some.injEq, AOp.p.injEq] at hc; subst hc; exact p_lenV hu fx hx h
          · rename_i n e hu
            simp only [Option.some.injEq, AOp.p.injEq] at hc; subst hc
            simp only [pev, ev_c, Option.some.injEq] at h; subst h
            exact p_lenA hu
          · simp at hc
          · simp at hc
        · rename_i t x
          have fx := hf x (by simp [Op.operands, Call.operands])
          simp only [Option.bind_eq_some_iff] at hc
          obtain ⟨x', hx, hc⟩ := hc
          split at hc
          · rename_i e hu; simp only [Option.some.injEq, AOp.p.injEq] at hc; subst hc; exact p_cap hu fx hx h
          · simp at hc
        · exfalso; repeat' (first | (simp only [reduceCtorEq] at hc; done) | (obtain ⟨_, _, hc⟩ := hc) | (split at hc) | (simp only [Option.bind_eq_some_iff, Option.some.injEq, reduceCtorEq, and_false, exists_false] at hc))
        · exfalso; repeat' (first | (simp only [reduceCtorEq] at hc; done) | (obtain ⟨_, _, hc⟩ := hc) | (split at hc) | (simp only [Option.bind_eq_some_iff, Option.some.injEq, reduceCtorEq, and_false, exists_false] at hc))
        · exfalso; repeat' (first | (simp only [reduceCtorEq] at hc; done) | (obtain ⟨_, _, hc⟩ := hc) | (split at hc) | (simp only [Option.bind_eq_some_iff, Option.some.injEq, reduceCtorEq, and_false, exists_false] at hc))
        · rename_i t u x y
          simp only [Option.bind_eq_some_iff, Option.some.injEq, AOp.p.injEq] at hc
          obtain ⟨x', hx, y', hy, rfl⟩ := hc
          exact p_minI (hf x (by simp [Op.operands, Call.operands])) hx (hf y (by simp [Op.operands, Call.operands])) hy h
        · rename_i t u x y
          simp only [Option.bind_eq_some_iff, Option.some.injEq, AOp.p.injEq] at hc
          obtain ⟨x', hx, y', hy, rfl⟩ := hc
          exact p_maxI (hf x (by simp [Op.operands, Call.operands])) hx (hf y (by simp [Op.operands, Call.operands])) hy h
        · simp at hc
      · simp at hc
    case makeMap t r => cases r <;> simp [opC] at hc
    all_goals
      exfalso
      simp only [opC, Option.bind_eq_bind, Option.bind_eq_some_iff, Option.some.injEq, reduceCtorEq, and_false, exists_false] at hc
      try (repeat' (first | (simp only [reduceCtorEq] at hc; done) | (obtain ⟨_, _, hc⟩ := hc) | (split at hc) | (simp only [Option.bind_eq_some_iff, Option.some.injEq, reduceCtorEq, and_false, exists_false] at hc)))
  · intro ro v hc h
    cases op
    case load t a =>
      simp only [opC, Option.bind_eq_bind, Option.bind_eq_some_iff, Option.some.injEq, AOp.q.injEq] at hc
      obtain ⟨b, hb, a', ha, rfl⟩ := hc
      cases b with
      | true => exact q_ldn hR hb (hf a (by simp [Op.operands])) ha h
      | false => exact q_ld1 hR hb (hf a (by simp [Op.operands])) ha h
    case slice t x lo hi mx =>
      simp only [opC, Option.bind_eq_bind, Option.bind_eq_some_iff] at hc
      obtain ⟨x', hx, lo', hlo, hi', hhi, mx', hmx, hc⟩ := hc
      have fx := hf x (by simp [Op.operands])
      have flo : ∀ y, lo = some y → Fit P τ γ R T ρ y := fun y e => hf y (by simp [Op.operands, e])
      have fhi : ∀ y, hi = some y → Fit P τ γ R T ρ y := fun y e => hf y (by simp [Op.operands, e])
      have fmx : ∀ y, mx = some y → Fit P τ γ R T ρ y := fun y e => hf y (by simp [Op.operands, e])
      split at hc
      · split at hc <;> simp at hc
      · split at hc <;> simp at hc
      · rename_i n e ht
        split at hc
        · simp at hc
        · rename_i hz
          simp only [Option.some.injEq, AOp.q.injEq] at hc
          subst hc
          exact q_slA hR ht hz fx hx flo fhi fmx hlo hhi hmx h
      · simp at hc
    case lookup t m k ok =>
      simp only [opC, Option.bind_eq_bind, Option.bind_eq_some_iff] at hc
      obtain ⟨d, hd, hc⟩ := hc
      split at hc
      · rename_i kt e
        simp only [Option.bind_eq_some_iff, Option.some.injEq, AOp.q.injEq] at hc
        obtain ⟨ie, hie, zv, hzv, z, hz, g, hg, l, hl, m', hm, k', hk, rfl⟩ := hc
        exact q_lkup hR hd hie hzv hz hg hl (hf m (by simp [Op.operands])) hm (hf k (by simp [Op.operands])) hk h
      · simp at hc
    case entry x =>
      simp only [opC, Option.bind_eq_bind, Option.bind_eq_some_iff, Option.some.injEq, AOp.q.injEq] at hc
      obtain ⟨x', hx, rfl⟩ := hc
      exact q_entry hR (hf x (by simp [Op.operands])) hx h
    case convert s d x =>
      simp only [opC, Option.bind_eq_bind] at hc
      split at hc
      · simp [Option.bind_eq_some_iff] at hc
      · simp [Option.bind_eq_some_iff] at hc
      · rename_i e hs hd
        split at hc
        · rename_i he'
          simp only [if_true, Option.bind_eq_some_iff, Option.some.injEq, AOp.q.injEq] at hc
          obtain ⟨x', hx, rfl⟩ := hc
          exact q_b2s hR hs hd he' (hf x (by simp [Op.operands])) hx h
        · simp at hc
      · simp at hc
    case call c =>
      obtain ⟨callee, as, ts⟩ := c
      simp only [opC, Option.bind_eq_bind] at hc
      split at hc
      · simp only [Option.bind_eq_some_iff, Option.some.injEq, reduceCtorEq, and_false, exists_false] at hc
      · rename_i b
        obtain ⟨as⟩ := as
        obtain ⟨ts⟩ := ts
        unfold builtC at hc
        simp only [Option.bind_eq_bind] at hc
        split at hc
        · rename_i t x
          have fx := hf x (by simp [Op.operands, Call.operands])
          simp only [Option.bind_eq_some_iff] at hc
          obtain ⟨x', hx, hc⟩ := hc
          split at hc
          · simp at hc
          · simp at hc
          · simp at hc
          · rename_i kt e hu
            simp only [Option.some.injEq, AOp.q.injEq] at hc
            subst hc
            exact q_lenM hR hu fx hx h
          · simp at hc
        all_goals
          exfalso
          repeat' (first | (simp only [reduceCtorEq] at hc; done) | (obtain ⟨_, _, hc⟩ := hc) | (split at hc) | (simp only [Option.bind_eq_some_iff, Option.some.injEq, reduceCtorEq, and_false, exists_false] at hc))
      · simp at hc
    case makeMap t r => cases r <;> simp [opC] at hc
    case makeFunc f a b => cases f <;> simp [opC, Option.bind_eq_some_iff] at hc
    case unOp op t x => cases op <;> simp [opC, Option.bind_eq_some_iff] at hc
    case binOp op t x y u =>
      exfalso
      simp only [opC, binC, Option.bind_eq_bind, Option.bind_eq_some_iff] at hc
      repeat' (first | (simp only [Option.map_eq_some_iff, reduceCtorEq, and_false, exists_false] at hc; done) | (simp only [Option.some.injEq, reduceCtorEq] at hc; done) | (obtain ⟨_, _, hc⟩ := hc) | (split at hc) | (simp only [Option.bind_eq_some_iff, Option.some.injEq] at hc))
    case makeInterface t x =>
      exfalso
      simp only [opC, Option.bind_eq_bind] at hc
      repeat' (first | (simp only [reduceCtorEq] at hc; done) | (obtain ⟨_, _, hc⟩ := hc) | (split at hc) | (simp only [Option.bind_eq_some_iff, Option.some.injEq, reduceCtorEq, and_false, exists_false] at hc))
    all_goals
      exfalso
      simp only [opC, Option.bind_eq_bind, Option.bind_eq_some_iff, Option.some.injEq, reduceCtorEq, and_false, exists_false] at hc
      try (repeat' (first | (simp only [reduceCtorEq] at hc; done) | (obtain ⟨_, _, hc⟩ := hc) | (split at hc) | (simp only [Option.bind_eq_some_iff, Option.some.injEq, reduceCtorEq, and_false, exists_false] at hc)))

end
end Go.Ax
