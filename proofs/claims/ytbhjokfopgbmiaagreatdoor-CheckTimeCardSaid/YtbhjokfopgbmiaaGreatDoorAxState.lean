/- What an abstract heap says of a world. -/
import Derived.Test.YtbhjokfopgbmiaaGreatDoorAxNum
namespace Go.Ax
open Go

/-- The value of a temporary. -/
noncomputable def tv (T : Tr AV) (t : Nat) : AV := ev (.t (path t)) T

theorem ev_t (p : P1) (T : Tr AV) : ev (.t p) T = (Tr.get p T).getD und := by
  show (Option.casesOn (Tr.get p T) und fun v => v : AV) = _
  cases Tr.get p T <;> rfl
@[simp] theorem ev_c (v : AV) (T : Tr AV) : ev (.c v) T = v := rfl

def concSt : LSt → LoopState
  | .ready => .ready | .busy => .busy | .done => .done | .exhausted => .exhausted
def concPend : AExit → Option Code
  | .ret => some .ret
  | .exit i => some (.exit i)
  | _ => none

section
variable (P : Program) (τ : Nat → Int)

/-- The temporaries hold what the tree says. -/
def TmpsR (γ : Nat → G) (T : Tr AV) (tmps : Array Value) : Prop := ∀ t, tmps.getD t undef = conc τ γ (tv T t)
def TmpsOk (γ : Nat → G) (R : Nat → Prop) (T : Tr AV) : Prop := ∀ t, okv γ R (tv T t)

/-- A block is what an abstract one says. -/
inductive ObjR (γ : Nat → G) (R : Nat → Prop) (g : G) : AObj → Obj → Prop where
  | cells (e : Nat) (cs : List AV) (fz : Nat) (ro : Bool) (c : Array Value) (fr : Nat × Nat) (hs : c.size = g.size) (hl : g.base + g.lim ≤ g.size) (hn : cs.length ≤ g.lim)
      (hc : ∀ i v, cs[i]? = some v → c[g.base + i]? = some (conc τ γ v)) (ho : okvL γ R cs)
      (hf : ∀ i, fz ≤ i → (decide (fr.1 ≤ g.base + i) && decide (g.base + i < fr.2)) = false) : ObjR γ R g (.cells e cs fz ro) (.cells c e fr)
  | mp (es : List (AV × AV × Nat)) (clock : Nat) (ents : Array MapEntry) (hb : g.base = 0) (he : ents.toList = es.map fun e => ⟨conc τ γ e.1, conc τ γ e.2.1, e.2.2⟩)
      (ho : ∀ e ∈ es, okv γ R e.1 ∧ okv γ R e.2.1) : ObjR γ R g (.mp es clock) (.map ents clock)
  | sit (s : List Nat) (pos : Nat) (hb : g.base = 0) (ho : ∀ b ∈ s, b < 256) : ObjR γ R g (.sit s pos) (.stringIter (strV s) pos)
  | mit (m : Option Nat) (since : Nat) (seen : List Nat) (last : Nat) (hb : g.base = 0) (ho : ∀ l, m = some l → R l) :
      ObjR γ R g (.mit m since seen last) (.mapIter (m.map fun l => (γ l).blk) since seen.toArray last)
  | loop (st : LSt) (pend : Option AExit) (T : Tr AV) (ps : List P1) (a b : ACode) (df : Nat) (L : Loop) (N : Nat) (hb : g.base = 0) (hst : L.state = concSt st)
      (hp : L.pending = pend.bind concPend) (hpn : ∀ e, pend = some e → concPend e ≠ none) (hT : TmpsR τ γ T L.tmps) (hO : TmpsOk γ R T) (hN : N ≤ L.tmps.size) (hps : L.params.toList.all (· < N) = true) (hps' : ps = L.params.toList.map path)
      (ha : codeC P N L.assign = some a) (hb' : codeC P N L.body = some b) (hd : L.defers = (γ df).blk) (hR : R df) :
      ObjR γ R g (.loop st pend T ps a b df) (.loop L)
  | dfr (taken : Bool) (hb : g.base = 0) : ObjR γ R g (.dfr taken) (.deferred (if taken = true then none else some []))

def AObj.ro : AObj → Bool
  | .cells _ _ _ r => r
  | _ => false

/-- An abstract heap says of a world. -/
structure Rel (γ : Nat → G) (R : Nat → Prop) (H : Tr AObj) (nx : Nat) (w : World) : Prop where
  fresh : ∀ l, nx ≤ l → hget H l = none ∧ ¬ R l
  obj : ∀ l o, R l → hget H l = some o → ∃ ob, w.heap[(γ l).blk]? = some ob ∧ ObjR P τ γ R (γ l) o ob
  inj : ∀ l m, R l → R m → hget H l ≠ none → hget H m ≠ none → (γ l).blk = (γ m).blk → l = m
  glob : ∀ g, g < P.globals.size → R g ∧ γ g = ⟨g, 0, (γ g).size, (γ g).lim⟩
end

/-- The blocks that may change. -/
def Own (γ : Nat → G) (R : Nat → Prop) (H : Tr AObj) (b : Nat) : Prop := ∃ l, R l ∧ (∃ o, hget H l = some o ∧ o.ro = false) ∧ (γ l).blk = b

/-- What went on. -/
structure Went (γ : Nat → G) (R : Nat → Prop) (H : Tr AObj) (w : World) (γ' : Nat → G) (R' : Nat → Prop) (H' : Tr AObj) (w' : World) : Prop where
  agree : ∀ l, R l → γ' l = γ l ∧ R' l
  size : w.heap.size ≤ w'.heap.size
  own : ∀ b, Own γ' R' H' b → w.heap.size ≤ b ∨ Own γ R H b
  frame : ∀ b, b < w.heap.size → ¬ Own γ R H b → w'.heap[b]? = w.heap[b]?
  outer : w'.os = w.os ∧ w'.output = w.output

theorem Went.refl (γ : Nat → G) (R : Nat → Prop) (H : Tr AObj) (w : World) : Went γ R H w γ R H w :=
  ⟨fun _ h => ⟨rfl, h⟩, Nat.le_refl _, fun _ h => .inr h, fun _ _ _ => rfl, rfl, rfl⟩
theorem Went.trans {γ γ' γ'' : Nat → G} {R R' R'' : Nat → Prop} {H H' H'' : Tr AObj} {w w' w'' : World} (h : Went γ R H w γ' R' H' w') (h' : Went γ' R' H' w' γ'' R'' H'' w'') :
    Went γ R H w γ'' R'' H'' w'' where
  agree l hl := by
    have a := h.agree l hl
    have b := h'.agree l a.2
    exact ⟨b.1.trans a.1, b.2⟩
  size := Nat.le_trans h.size h'.size
  outer := ⟨h'.outer.1.trans h.outer.1, h'.outer.2.trans h.outer.2⟩
  own b hb := by
    rcases h'.own b hb with g | g
    · exact .inl (Nat.le_trans h.size g)
    · exact h.own b g
  frame b hb hn := by
    have hn' : ¬ Own γ' R' H' b := fun g => by
      rcases h.own b g with k | k
      · omega
      · exact hn k
    rw [h'.frame b (Nat.lt_of_lt_of_le hb h.size) hn', h.frame b hb hn]

section
variable {P : Program} {τ : Nat → Int} {γ γ' : Nat → G} {R R' : Nat → Prop}

theorem TmpsR.agree (h : ∀ l, R l → γ' l = γ l ∧ R' l) {T : Tr AV} {tmps : Array Value} (hT : TmpsR τ γ T tmps) (ho : TmpsOk γ R T) : TmpsR τ γ' T tmps ∧ TmpsOk γ' R' T :=
  ⟨fun t => by rw [hT t, (conc_agree h _ (ho t)).1], fun t => (conc_agree (τ := τ) h _ (ho t)).2⟩

theorem ObjR.agree (h : ∀ l, R l → γ' l = γ l ∧ R' l) {g : G} {o : AObj} {ob : Obj} (hr : ObjR P τ γ R g o ob) : ObjR P τ γ' R' g o ob := by
  cases hr with
  | cells e cs fz ro c fr hs hl hn hc ho hf =>
    refine .cells e cs fz ro c fr hs hl hn (fun i v hv => ?_) (concL_agree (τ := τ) h cs ho).2 hf
    rw [hc i v hv, (conc_agree h v ((okvL_iff γ R cs).1 ho v (List.mem_of_getElem? hv))).1]
  | mp es clock ents hb he ho =>
    refine .mp es clock ents hb ?_ (fun e hm => ⟨(conc_agree (τ := τ) h _ (ho e hm).1).2, (conc_agree (τ := τ) h _ (ho e hm).2).2⟩)
    rw [he]
    exact List.map_congr_left fun e hm => by rw [(conc_agree h _ (ho e hm).1).1, (conc_agree h _ (ho e hm).2).1]
  | sit s pos hb ho => exact .sit s pos hb ho
  | mit m since seen last hb ho =>
    have : (m.map fun l => (γ l).blk) = m.map fun l => (γ' l).blk := by
      cases m with
      | none => rfl
      | some l => simp [(h l (ho l rfl)).1]
    rw [this]
    exact .mit m since seen last hb fun l hl => (h l (ho l hl)).2
  | loop st pend T ps a b df L N hb hst hp hpn hT hO hN hps hps' ha hb' hd hR =>
    have t := hT.agree h hO
    exact .loop st pend T ps a b df L N hb hst hp hpn t.1 t.2 hN hps hps' ha hb' (by rw [hd, (h df hR).1]) (h df hR).2
  | dfr taken hb => exact .dfr taken hb

/-- A label more. -/
def upd (γ : Nat → G) (L : Nat) (g : G) : Nat → G := fun l => if l = L then g else γ l
def more (R : Nat → Prop) (L : Nat) : Nat → Prop := fun l => R l ∨ l = L

theorem upd_agree {L : Nat} {g : G} (hL : ¬ R L) : ∀ l, R l → upd γ L g l = γ l ∧ more R L l := fun l hl => by
  have : l ≠ L := fun e => hL (e ▸ hl)
  exact ⟨by simp [upd, this], .inl hl⟩

/-- A label laid: nothing stands for it yet. -/
theorem Rel.lay {H : Tr AObj} {nx : Nat} {w : World} (h : Rel P τ γ R H nx w) (o : AObj) :
    Rel P τ γ R (hset H nx o) (nx + 1) w ∧ Went γ R H w γ R (hset H nx o) w := by
  have hne : ∀ l, R l → l ≠ nx := fun l hl e => (h.fresh nx (Nat.le_refl _)).2 (e ▸ hl)
  have hg : ∀ l, R l → hget (hset H nx o) l = hget H l := fun l hl => by rw [hget_hset, if_neg (hne l hl)]
  refine ⟨⟨?_, ?_, ?_, h.glob⟩, ⟨fun _ g => ⟨rfl, g⟩, Nat.le_refl _, ?_, fun _ _ _ => rfl, rfl, rfl⟩⟩
  · intro l hl
    have := h.fresh l (by omega)
    exact ⟨by rw [hget_hset, if_neg (by omega)]; exact this.1, this.2⟩
  · intro l o' hl ho'
    rw [hg l hl] at ho'
    exact h.obj l o' hl ho'
  · intro l m hl hm hl' hm' he
    rw [hg l hl] at hl'
    rw [hg m hm] at hm'
    exact h.inj l m hl hm hl' hm' he
  · rintro b ⟨l, hl, ⟨o', ho', hro⟩, hb⟩
    rw [hg l hl] at ho'
    exact .inr ⟨l, hl, ⟨o', ho', hro⟩, hb⟩

/-- A label comes to stand for a new block. -/
theorem Rel.real {H : Tr AObj} {nx : Nat} {w w' : World} (h : Rel P τ γ R H nx w) (L : Nat) (hL : ¬ R L) (hlt : L < nx) (o : AObj) (hH : hget H L = some o) (ob : Obj) (g : G) (hg : g.blk = w.heap.size)
    (hw : w'.heap = w.heap.push ob) (ho : ObjR P τ (upd γ L g) (more R L) g o ob) (hou : w'.os = w.os ∧ w'.output = w.output := by exact ⟨rfl, rfl⟩) :
    Rel P τ (upd γ L g) (more R L) H nx w' ∧ Went γ R H w (upd γ L g) (more R L) H w' := by
  have ha := upd_agree (γ := γ) (g := g) hL
  have hlt' : ∀ l o, R l → hget H l = some o → (γ l).blk < w.heap.size := fun l o hl ho => by
    obtain ⟨ob, hb, _⟩ := h.obj l o hl ho
    exact (Array.getElem?_eq_some_iff.1 hb).1
  have hu : ∀ l, l ≠ L → upd γ L g l = γ l := fun l hl => by simp [upd, hl]
  have huL : upd γ L g L = g := by simp [upd]
  refine ⟨⟨?_, ?_, ?_, ?_⟩, ⟨ha, by rw [hw]; simp, ?_, ?_, hou⟩⟩
  · intro l hl
    have := h.fresh l hl
    refine ⟨this.1, ?_⟩
    rintro (g | g)
    · exact this.2 g
    · omega
  · intro l o' hl ho'
    by_cases he : l = L
    · subst he
      rw [hH] at ho'
      simp only [Option.some.injEq] at ho'
      subst ho'
      rw [huL]
      exact ⟨ob, by rw [hw, hg]; simp, ho⟩
    · have hl' : R l := hl.resolve_right he
      obtain ⟨ob', hb, hr⟩ := h.obj l o' hl' ho'
      rw [hu l he]
      exact ⟨ob', by rw [hw, Array.getElem?_push_lt (hlt' l o' hl' ho')]; rw [← hb]; exact (Array.getElem?_eq_getElem _).symm, hr.agree ha⟩
  · intro l m hl hm hl' hm' he
    by_cases e1 : l = L
    · by_cases e2 : m = L
      · rw [e1, e2]
      · rw [e1, huL, hu m e2] at he
        obtain ⟨o', ho'⟩ := Option.ne_none_iff_exists'.1 hm'
        have := hlt' m o' (hm.resolve_right e2) ho'
        omega
    · by_cases e2 : m = L
      · rw [e2, huL, hu l e1] at he
        obtain ⟨o', ho'⟩ := Option.ne_none_iff_exists'.1 hl'
        have := hlt' l o' (hl.resolve_right e1) ho'
        omega
      · rw [hu l e1, hu m e2] at he
        exact h.inj l m (hl.resolve_right e1) (hm.resolve_right e2) hl' hm' he
  · intro k hk
    have := h.glob k hk
    have hne : k ≠ L := fun e => hL (e ▸ this.1)
    rw [hu k hne]
    exact ⟨.inl this.1, this.2⟩
  · rintro b ⟨l, hl, ⟨o', ho', hro⟩, hb⟩
    by_cases e1 : l = L
    · left; rw [e1, huL] at hb; omega
    · right
      rw [hu l e1] at hb
      exact ⟨l, hl.resolve_right e1, ⟨o', ho', hro⟩, hb⟩
  · intro b hb _
    rw [hw, Array.getElem?_push_lt hb]
    exact (Array.getElem?_eq_getElem _).symm

/-- A block more. -/
theorem Rel.push {H : Tr AObj} {nx : Nat} {w w' : World} (h : Rel P τ γ R H nx w) (o : AObj) (ob : Obj) (g : G) (hg : g.blk = w.heap.size)
    (hw : w'.heap = w.heap.push ob) (ho : ObjR P τ (upd γ nx g) (more R nx) g o ob) (hou : w'.os = w.os ∧ w'.output = w.output := by exact ⟨rfl, rfl⟩) :
    Rel P τ (upd γ nx g) (more R nx) (hset H nx o) (nx + 1) w' ∧ Went γ R H w (upd γ nx g) (more R nx) (hset H nx o) w' := by
  have hl := h.lay o
  have hr := hl.1.real nx (h.fresh nx (Nat.le_refl _)).2 (Nat.lt_succ_self _) o (by rw [hget_hset, if_pos rfl]) ob g hg hw ho hou
  exact ⟨hr.1, hl.2.trans hr.2⟩

/-- Only the heap counts. -/
theorem Rel.heap {H : Tr AObj} {nx : Nat} {w w' : World} (h : Rel P τ γ R H nx w) (hw : w'.heap = w.heap) : Rel P τ γ R H nx w' :=
  ⟨h.fresh, fun l o hl ho => by rw [hw]; exact h.obj l o hl ho, h.inj, h.glob⟩
theorem Went.heap {H : Tr AObj} {w w' : World} (hw : w'.heap = w.heap) (hou : w'.os = w.os ∧ w'.output = w.output := by exact ⟨rfl, rfl⟩) : Went γ R H w γ R H w' :=
  ⟨fun _ g => ⟨rfl, g⟩, by rw [hw]; exact Nat.le_refl _, fun _ g => .inr g, fun _ _ _ => by rw [hw], hou⟩

/-- A label goes. -/
theorem Rel.del {H : Tr AObj} {nx : Nat} {w : World} (h : Rel P τ γ R H nx w) (l : Nat) : Rel P τ γ R (hdel H l) nx w ∧ Went γ R H w γ R (hdel H l) w := by
  have hd : ∀ m o, hget (hdel H l) m = some o → hget H m = some o := fun m o hm => by
    rw [hget_hdel] at hm
    split at hm
    · simp at hm
    · exact hm
  refine ⟨⟨?_, ?_, ?_, h.glob⟩, ⟨fun _ g => ⟨rfl, g⟩, Nat.le_refl _, ?_, fun _ _ _ => rfl, rfl, rfl⟩⟩
  · intro m hm
    refine ⟨?_, (h.fresh m hm).2⟩
    cases hh : hget (hdel H l) m with
    | none => rfl
    | some o => exact absurd (hd m o hh) (by rw [(h.fresh m hm).1]; simp)
  · intro m o hm ho
    exact h.obj m o hm (hd m o ho)
  · intro m k hm hk hm' hk' he
    obtain ⟨o, ho⟩ := Option.ne_none_iff_exists'.1 hm'
    obtain ⟨o', ho'⟩ := Option.ne_none_iff_exists'.1 hk'
    exact h.inj m k hm hk (by rw [hd m o ho]; simp) (by rw [hd k o' ho']; simp) he
  · rintro b ⟨m, hm, ⟨o, ho, hro⟩, hb⟩
    exact .inr ⟨m, hm, ⟨o, hd m o ho, hro⟩, hb⟩

/-- A block that changes. -/
theorem Rel.put {H : Tr AObj} {nx : Nat} {w w' : World} (h : Rel P τ γ R H nx w) (l : Nat) (o₀ o : AObj) (ob : Obj) (hl : R l) (h₀ : hget H l = some o₀) (hr₀ : o₀.ro = false)
    (ho : ObjR P τ γ R (γ l) o ob) (hs : w'.heap.size = w.heap.size) (hb : w'.heap[(γ l).blk]? = some ob) (hot : ∀ b, b ≠ (γ l).blk → w'.heap[b]? = w.heap[b]?) (hou : w'.os = w.os ∧ w'.output = w.output := by exact ⟨rfl, rfl⟩) :
    Rel P τ γ R (hset H l o) nx w' ∧ Went γ R H w γ R (hset H l o) w' := by
  refine ⟨⟨?_, ?_, ?_, h.glob⟩, ⟨fun _ g => ⟨rfl, g⟩, by omega, ?_, ?_, hou⟩⟩
  · intro m hm
    have := h.fresh m hm
    refine ⟨?_, this.2⟩
    rw [hget_hset, if_neg (fun (e : m = l) => this.2 (e ▸ hl))]
    exact this.1
  · intro m o' hm ho'
    rw [hget_hset] at ho'
    by_cases e : m = l
    · subst e
      simp only [if_true, Option.some.injEq] at ho'
      subst ho'
      exact ⟨ob, hb, ho⟩
    · rw [if_neg e] at ho'
      obtain ⟨ob', hb', hr'⟩ := h.obj m o' hm ho'
      refine ⟨ob', ?_, hr'⟩
      rw [hot _ (fun e' => e (h.inj m l hm hl (by simp [ho']) (by simp [h₀]) e')), hb']
  · intro m k hm hk hm' hk' he
    refine h.inj m k hm hk ?_ ?_ he
    · rw [hget_hset] at hm'
      by_cases e : m = l
      · subst e; simp [h₀]
      · rwa [if_neg e] at hm'
    · rw [hget_hset] at hk'
      by_cases e : k = l
      · subst e; simp [h₀]
      · rwa [if_neg e] at hk'
  · rintro b ⟨m, hm, ⟨o', ho', hro⟩, hb'⟩
    right
    rw [hget_hset] at ho'
    by_cases e : m = l
    · subst e; exact ⟨m, hm, ⟨o₀, h₀, hr₀⟩, hb'⟩
    · rw [if_neg e] at ho'; exact ⟨m, hm, ⟨o', ho', hro⟩, hb'⟩
  · intro b _ hn
    exact hot b fun e => hn ⟨l, hl, ⟨o₀, h₀, hr₀⟩, e.symm⟩

end
end Go.Ax
