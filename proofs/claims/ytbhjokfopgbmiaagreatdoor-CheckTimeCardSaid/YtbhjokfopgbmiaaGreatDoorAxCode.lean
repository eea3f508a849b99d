/- Code: regions in their own order, and what code comes to. -/
import Derived.Test.YtbhjokfopgbmiaaGreatDoorAxRegion5
namespace Go.Ax
open Go

section
variable {P : Program} {τ : Nat → Int} {N : Nat} {ops : List Oper} {rops : List ROp}
variable {γ : Nat → G} {R : Nat → Prop} {st : St} {tmps : Array Value} {w : World}
variable {α : Type} [Ans α] {cf : CallF α} {yf : YieldF α} {kp : AV → St → α} {k : St → α}

theorem Sit.put {γ' : Nat → G} {R' : Nat → Prop} {H' : Tr AObj} {nx' : Nat} {w' : World} (hs : Sit P τ N γ R st tmps w) (ha : ∀ l, R l → γ' l = γ l ∧ R' l) {v : AV} (hv : okv γ' R' v) (hR : Rel P τ γ' R' H' nx' w') {d : Option Tmp} (hd : ∀ t, d = some t → t < N) :
    Sit P τ N γ' R' ⟨putT (d.map path) v st.T, st.D, H', nx', st.rd⟩ (putV tmps d (conc τ γ' v)) w' := by
  have ht := hs.tm.agree ha hs.ok
  refine ⟨fun t => ?_, fun t => ?_, hR, by rw [size_put]; exact hs.size⟩
  · rw [getD_put _ _ _ _ (fun u hu => Nat.lt_of_lt_of_le (hd u hu) hs.size)]
    simp only
    rw [tv_put]
    split
    · rfl
    · exact ht.1 t
  · simp only
    rw [tv_put]
    split
    · exact hv
    · exact ht.2 t

theorem guard_lt {fs : List Full} (hfs : ops.mapM (fullC P N ops) = some fs) {o : Oper} {g : Option (Tmp × Bool)} (hg : guardT ops o = some g) : ∀ t b, g = some (t, b) → t < N := by
  intro t b hgt
  subst hgt
  unfold guardT at hg
  split at hg
  · simp at hg
  · simp only [Option.bind_eq_some_iff, Option.map_eq_some_iff, Option.some.injEq, Prod.mk.injEq] at hg
    obtain ⟨oj, hj, t', ht', rfl, rfl⟩ := hg
    obtain ⟨fj, _, hfj⟩ := (mapM_spec hfs).2 _ _ hj
    have := fullC_spec hfj
    exact this.2.2.2.2.2.1 _ (by rw [this.2.2.1]; exact ht')

theorem region_text (hcf : CallsOk P τ cf) (hyf : YieldsOk P τ yf) {fs : List Full} (hfs : ops.mapM (fullC P N ops) = some fs) (b : Frame) (ds : List Deferred) (kk : List Item) (cs : List Frame) : ∀ (m j : Nat) (γ : Nat → G) (R : Nat → Prop) (st : St) (tmps : Array Value) (w : World), j + m = ops.length → Sit P τ N γ R st tmps w →
    Ans.holds (runOps cf yf kp ((fs.map fun f => ropOf f []).drop j) st k) →
    Ends P τ N (lone (on b tmps ds (.inRegion ops.toArray (List.range' j m) :: kk)) cs w) b ds kk cs γ R st w k ∨ Panics P τ (lone (on b tmps ds (.inRegion ops.toArray (List.range' j m) :: kk)) cs w) b ds cs γ R st w kp := by
  have hsp := mapM_spec hfs
  intro m
  induction m with
  | zero =>
    intro j γ R st tmps w hj hs h
    rw [List.drop_eq_nil_of_le (by simp; omega)] at h
    exact .inl ⟨tmps, st, γ, R, w, .one st_region_end, hs, Went.refl _ _ _ _, rfl, rfl, h⟩
  | succ m ih =>
    intro j γ R st tmps w hj hs h
    have hjn : j < ops.length := by omega
    obtain ⟨f, hf, hfull⟩ := hsp.2 j _ (List.getElem?_eq_getElem hjn)
    obtain ⟨_, hoc, hd, hrs, hg, hdN, hxs⟩ := fullC_spec hfull
    have ho : ops[j]? = some ops[j] := List.getElem?_eq_getElem hjn
    generalize ops[j] = o at *
    have hoa : ops.toArray[j]? = some o := by simpa using ho
    have hfit : ∀ x ∈ o.op.operands.toList, Fit P τ γ R st.T (evalT tmps) x := fun x hx => fit_of hs.rel fun t e => ⟨hs.tm t, hs.ok t⟩
    have hwant : Region.wanted o (yielded ops.toArray tmps) = wanted (gP f.g) st.T := wanted_same hg fun t b e => ⟨Nat.lt_of_lt_of_le (guard_lt hfs hg t b e) hs.size, hs.tm t⟩
    have hdef := opC_defer hoc
    have hdN' : ∀ t, o.dst = some t → t < N := fun t ht => hdN t (hd.trans ht)
    have hdrop : (fs.map fun f => ropOf f []).drop j = ropOf f [] :: (fs.map fun f => ropOf f []).drop (j + 1) := by
      obtain ⟨hlt, he⟩ := List.getElem?_eq_some_iff.1 hf
      rw [List.drop_eq_getElem_cons (by simpa using hlt)]
      simp [he]
    rw [hdrop, runOps_cons] at h
    unfold opStep at h
    have e1 : (ropOf f []).g = gP f.g := rfl
    have e2 : (ropOf f []).d = f.d.map path := rfl
    have e3 : (ropOf f []).op = f.a := rfl
    have e4 : (ropOf f []).chk = [] := rfl
    rw [e1, e2, e3, e4, hd] at h
    rw [List.range'_succ]
    cases hw : wanted (gP f.g) st.T with
    | false =>
      rw [hw] at h hwant
      simp only at h
      have hs' := hs.put (γ' := γ) (R' := R) (d := o.dst) (v := und) (fun _ h => ⟨rfl, h⟩) (by simp [und, okv, okvL]) hs.rel hdN'
      have e : conc τ γ und = undef := by simp [und, conc, concL, undef]
      rw [e] at hs'
      rcases ih (j + 1) γ R _ _ w (by omega) hs' h with g | g
      · exact .inl (Ends.of_steps (.one (st_op_skip hoa hwant)) (Went.refl _ _ _ _) rfl rfl g)
      · exact .inr (Panics.of_steps (.one (st_op_skip hoa hwant)) (Went.refl _ _ _ _) rfl rfl g)
    | true =>
      rw [hw] at h hwant
      simp only at h
      cases hfa : f.a with
      | p op =>
        rw [hfa] at h hoc
        simp only at h
        cases hv : pev op st.T with
        | none => rw [hv] at h; exact absurd h Ans.not_fail
        | some v =>
          rw [hv] at h
          have hq := (quiet_sound (w := w) hs.rel hfit (fun _ => rfl)).1 op v hoc hv
          have hs' := hs.put (γ' := γ) (R' := R) (d := o.dst) (v := v) (fun _ h => ⟨rfl, h⟩) hq.2 hs.rel hdN'
          rcases ih (j + 1) γ R _ _ w (by omega) hs' h with g | g
          · exact .inl (Ends.of_steps (.one (st_op_value hoa hwant hdef hq.1)) (Went.refl _ _ _ _) rfl rfl g)
          · exact .inr (Panics.of_steps (.one (st_op_value hoa hwant hdef hq.1)) (Went.refl _ _ _ _) rfl rfl g)
      | q op =>
        rw [hfa] at h hoc
        simp only at h
        cases hv : rev op st.T st.H with
        | none => rw [hv] at h; exact absurd h Ans.not_fail
        | some v =>
          rw [hv] at h
          have hq := (quiet_sound (w := w) hs.rel hfit (fun _ => rfl)).2 op v hoc hv
          have hs' := hs.put (γ' := γ) (R' := R) (d := o.dst) (v := v) (fun _ h => ⟨rfl, h⟩) hq.2 hs.rel hdN'
          rcases ih (j + 1) γ R _ _ w (by omega) hs' h with g | g
          · exact .inl (Ends.of_steps (.one (st_op_value hoa hwant hdef hq.1)) (Went.refl _ _ _ _) rfl rfl g)
          · exact .inr (Panics.of_steps (.one (st_op_value hoa hwant hdef hq.1)) (Went.refl _ _ _ _) rfl rfl g)
      | a op =>
        rw [hfa] at h hoc
        simp only at h
        cases hv : aev op st.T st.nx with
        | none => rw [hv] at h; exact absurd h Ans.not_fail
        | some p =>
          obtain ⟨obj, v⟩ := p
          rw [hv] at h
          simp only at h
          obtain ⟨g, ob, hrun, hblk, hob, hov⟩ := alloc_sound (w := w) (hs.rel.fresh st.nx (Nat.le_refl _)).2 hfit hoc hv
          have hp := hs.rel.push (w' := w.alloc ob) obj ob g hblk rfl hob
          have hs' := hs.put (d := o.dst) (v := v) hp.2.agree hov hp.1 hdN'
          rcases ih (j + 1) _ _ _ _ _ (by omega) hs' h with g | g
          · exact .inl (Ends.of_steps (.one (st_op_value hoa hwant hdef hrun)) hp.2 (by rfl) (by rfl) g)
          · exact .inr (Panics.of_steps (.one (st_op_value hoa hwant hdef hrun)) hp.2 (by rfl) (by rfl) g)
      | v vo =>
        rw [hfa] at h hoc
        simp only at h
        obtain ⟨γ', R', H', nx', w', h1, h2, h3⟩ := op_loud hcf hyf hs.rel hoa hwant hoc hfit h b ds (List.range' (j + 1) m) kk cs
        rcases h3 with ⟨v, hov, hst, hk⟩ | ⟨v, hov, hst, hk⟩
        · simp only at hk
          have hs' := hs.put (d := o.dst) (v := v) h2.agree hov h1 hdN'
          rcases ih (j + 1) γ' R' _ _ w' (by omega) hs' hk with g | g
          · exact .inl (Ends.of_steps hst h2 (by rfl) (by rfl) g)
          · exact .inr (Panics.of_steps hst h2 (by rfl) (by rfl) g)
        · simp only at hk
          exact .inr ⟨v, ⟨st.T, st.D, H', nx', st.rd⟩, γ', R', w', _, _, hst, h1, h2, hov, rfl, rfl, hk⟩

/-- A region. -/
theorem region_sound (hcf : CallsOk P τ cf) (hyf : YieldsOk P τ yf) {id : Nat} {opsA : Array Oper} {draw : Bool} (hc : regC P N opsA.toList draw = some rops) (hs : Sit P τ N γ R st tmps w) (h : Ans.holds (runOps cf yf kp rops st k)) (b : Frame) (ds : List Deferred) (kk : List Item) (cs : List Frame) :
    Ends P τ N (lone (on b tmps ds (.code (.region id opsA draw) :: kk)) cs w) b ds kk cs γ R st w k ∨ Panics P τ (lone (on b tmps ds (.code (.region id opsA draw) :: kk)) cs w) b ds cs γ R st w kp := by
  cases draw with
  | true => exact region_draw hcf hyf hc hs h b ds kk cs
  | false =>
    unfold regC at hc
    simp only [Option.bind_eq_bind, Option.bind_eq_some_iff, Bool.not_false, if_true, Option.some.injEq] at hc
    obtain ⟨fs, hfs, rfl⟩ := hc
    have := region_text (kp := kp) (k := k) hcf hyf hfs b ds kk cs opsA.toList.length 0 γ R st tmps w (by simp) hs h
    have hst := st_region (P := P) (b := b) (tmps := tmps) (ds := ds) (k := kk) (cs := cs) (w := w) (id := id) (ops := opsA)
    rw [List.range_eq_range'] at hst
    rcases this with g | g
    · exact .inl (Ends.of_steps (.one hst) (Went.refl _ _ _ _) rfl rfl g)
    · exact .inr (Panics.of_steps (.one hst) (Went.refl _ _ _ _) rfl rfl g)

/-! ## What code comes to -/

def concD (γ : Nat → G) : ADef → Deferred
  | .coll l => { target := .collected (γ l).blk, args := #[] }
  | .call _ _ => { target := .nil, args := #[] }
/-- What is put off. -/
def DefsR (γ : Nat → G) (R : Nat → Prop) (D : List ADef) (ds : List Deferred) : Prop := ds = D.map (concD γ) ∧ ∀ d ∈ D, ∃ l, d = .coll l ∧ R l
theorem DefsR.agree {γ' : Nat → G} {R' : Nat → Prop} {D : List ADef} {ds : List Deferred} (ha : ∀ l, R l → γ' l = γ l ∧ R' l) (h : DefsR γ R D ds) : DefsR γ' R' D ds := by
  refine ⟨?_, fun d hd => ?_⟩
  · rw [h.1]
    apply List.map_congr_left
    intro d hd
    obtain ⟨l, rfl, hl⟩ := h.2 d hd
    simp [concD, (ha l hl).1]
  · obtain ⟨l, rfl, hl⟩ := h.2 d hd
    exact ⟨l, rfl, (ha l hl).2⟩

/-- Where the machine stands. -/
def At (P : Program) (τ : Nat → Int) (N : Nat) (m : Machine) (b : Frame) (k : List Item) (cs : List Frame) (γ : Nat → G) (R : Nat → Prop) (st : St) (tmps : Array Value) (ds : List Deferred) (w : World) : AExit → Prop
  | .normal => Sit P τ N γ R st tmps w ∧ Steps P m (lone (on b tmps ds k) cs w)
  | .exit id => Sit P τ N γ R st tmps w ∧ ∃ kk, exitTo id kk = exitTo id k ∧ Steps P m (lone (on b tmps ds (.code (.exit id) :: kk)) cs w)
  | .ret => Sit P τ N γ R st tmps w ∧ ∃ kk, Steps P m (lone (on b tmps ds (.code .ret :: kk)) cs w)
  | .panic v => Rel P τ γ R st.H st.nx w ∧ okv γ R v ∧ ∃ kk, Steps P m (lone { on b tmps ds kk with mode := .panicking [{ v := conc τ γ v, recovered := false }] } cs w)

def Arr (P : Program) (τ : Nat → Int) (N : Nat) (m : Machine) (b : Frame) (k : List Item) (cs : List Frame) (γ : Nat → G) (R : Nat → Prop) (st : St) (w : World) (K : Kont α) : Prop :=
  ∃ e tmps' ds' st' γ' R' w', At P τ N m b k cs γ' R' st' tmps' ds' w' e ∧ DefsR γ' R' st'.D ds' ∧ st'.rd = st.rd ∧ Went γ R st.H w γ' R' st'.H w' ∧ Ans.holds (K e st')

theorem At.of_steps {m m' : Machine} {b : Frame} {kk : List Item} {cs : List Frame} {ds : List Deferred} {e : AExit} (hs : Steps P m m') (h : At P τ N m' b kk cs γ R st tmps ds w e) : At P τ N m b kk cs γ R st tmps ds w e := by
  cases e with
  | normal => exact ⟨h.1, hs.trans h.2⟩
  | exit id => obtain ⟨h1, kk, h2, h3⟩ := h; exact ⟨h1, kk, h2, hs.trans h3⟩
  | ret => obtain ⟨h1, kk, h2⟩ := h; exact ⟨h1, kk, hs.trans h2⟩
  | panic v => obtain ⟨h1, h2, kk, h3⟩ := h; exact ⟨h1, h2, kk, hs.trans h3⟩

theorem Arr.of_steps {m m' : Machine} {b : Frame} {kk : List Item} {cs : List Frame} {γ' : Nat → G} {R' : Nat → Prop} {st' : St} {w' : World} {K : Kont α} (hs : Steps P m m') (hw : Went γ R st.H w γ' R' st'.H w') (hrd : st'.rd = st.rd) (h : Arr P τ N m' b kk cs γ' R' st' w' K) :
    Arr P τ N m b kk cs γ R st w K := by
  obtain ⟨e, t, d, s, γ₂, R₂, w₂, h1, h2, h3, h4, h5⟩ := h
  exact ⟨e, t, d, s, γ₂, R₂, w₂, h1.of_steps hs, h2, h3.trans hrd, hw.trans h4, h5⟩
end
end Go.Ax
