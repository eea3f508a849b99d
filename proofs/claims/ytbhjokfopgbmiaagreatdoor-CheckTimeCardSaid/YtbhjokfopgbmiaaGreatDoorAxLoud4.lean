/- Operations that change something: clearing, appending. -/
import Derived.Test.YtbhjokfopgbmiaaGreatDoorAxLoud3
namespace Go.Ax
open Go

section
variable {P : Program} {τ : Nat → Int} {γ : Nat → G} {R : Nat → Prop} {w : World}

theorem Rel.move {H : Tr AObj} {nx : Nat} {w' : World} (h : Rel P τ γ R H nx w) (l : Nat) (o₀ o : AObj) (ob : Obj) (g : G) (hl : R l) (h₀ : hget H l = some o₀) (hr₀ : o₀.ro = false) (hg : g.blk = (γ l).blk)
    (ho : ObjR P τ (upd γ nx g) (more R nx) g o ob) (hs : w'.heap.size = w.heap.size) (hb : w'.heap[(γ l).blk]? = some ob) (hot : ∀ b, b ≠ (γ l).blk → w'.heap[b]? = w.heap[b]?) (hou : w'.os = w.os ∧ w'.output = w.output := by exact ⟨rfl, rfl⟩) :
    Rel P τ (upd γ nx g) (more R nx) (hset (hdel H l) nx o) (nx + 1) w' ∧ Went γ R H w (upd γ nx g) (more R nx) (hset (hdel H l) nx o) w' := by
  have hN : ¬ R nx := (h.fresh nx (Nat.le_refl _)).2
  have ha := upd_agree (γ := γ) (g := g) hN
  have hu : ∀ m, m ≠ nx → upd γ nx g m = γ m := fun m hm => by simp [upd, hm]
  have huL : upd γ nx g nx = g := by simp [upd]
  have hget' : ∀ m o', m ≠ nx → hget (hset (hdel H l) nx o) m = some o' → m ≠ l ∧ hget H m = some o' := fun m o' hm ho' => by
    rw [hget_hset, if_neg hm, hget_hdel] at ho'
    split at ho'
    · simp at ho'
    · rename_i hne; exact ⟨hne, ho'⟩
  have hne : ∀ m, R m → m ≠ l → hget H m ≠ none → (γ m).blk ≠ (γ l).blk := fun m hm hml hmn he => hml (h.inj m l hm hl hmn (by rw [h₀]; simp) he)
  refine ⟨⟨?_, ?_, ?_, ?_⟩, ⟨ha, by omega, ?_, ?_, hou⟩⟩
  · intro m hm
    have := h.fresh m (by omega)
    refine ⟨?_, ?_⟩
    · rw [hget_hset, if_neg (by omega), hget_hdel]; split
      · rfl
      · exact this.1
    · rintro (g | g)
      · exact this.2 g
      · omega
  · intro m o' hm ho'
    by_cases e1 : m = nx
    · subst e1
      rw [hget_hset, if_pos rfl] at ho'
      simp only [Option.some.injEq] at ho'
      subst ho'
      rw [huL, hg]
      exact ⟨ob, hb, ho⟩
    · obtain ⟨hml, hHm⟩ := hget' m o' e1 ho'
      have hRm : R m := hm.resolve_right e1
      obtain ⟨ob', hb', hr'⟩ := h.obj m o' hRm hHm
      rw [hu m e1]
      exact ⟨ob', by rw [hot _ (hne m hRm hml (by rw [hHm]; simp)), hb'], hr'.agree ha⟩
  · intro m k hm hk hm' hk' he
    obtain ⟨om, hom⟩ := Option.ne_none_iff_exists'.1 hm'
    obtain ⟨okk, hok⟩ := Option.ne_none_iff_exists'.1 hk'
    by_cases e1 : m = nx
    · by_cases e2 : k = nx
      · rw [e1, e2]
      · obtain ⟨hkl, hHk⟩ := hget' k okk e2 hok
        rw [e1, huL, hu k e2, hg] at he
        exact absurd he.symm (hne k (hk.resolve_right e2) hkl (by rw [hHk]; simp))
    · obtain ⟨hml, hHm⟩ := hget' m om e1 hom
      by_cases e2 : k = nx
      · rw [e2, huL, hu m e1, hg] at he
        exact absurd he (hne m (hm.resolve_right e1) hml (by rw [hHm]; simp))
      · obtain ⟨hkl, hHk⟩ := hget' k okk e2 hok
        rw [hu m e1, hu k e2] at he
        exact h.inj m k (hm.resolve_right e1) (hk.resolve_right e2) (by rw [hHm]; simp) (by rw [hHk]; simp) he
  · intro k hk
    have := h.glob k hk
    have hkn : k ≠ nx := fun e => hN (e ▸ this.1)
    rw [hu k hkn]
    exact ⟨.inl this.1, this.2⟩
  · rintro b ⟨m, hm, ⟨o', ho', hro⟩, hbm⟩
    right
    by_cases e1 : m = nx
    · rw [e1, huL, hg] at hbm
      exact ⟨l, hl, ⟨o₀, h₀, hr₀⟩, hbm⟩
    · obtain ⟨hml, hHm⟩ := hget' m o' e1 ho'
      rw [hu m e1] at hbm
      exact ⟨m, hm.resolve_right e1, ⟨o', hHm, hro⟩, hbm⟩
  · intro b _ hn
    exact hot b fun e => hn ⟨l, hl, ⟨o₀, h₀, hr₀⟩, e.symm⟩

/-- Where a slice that isn't empty stands. -/
theorem slc_place {l o q n c : Nat} {x : Bool} {z : Nat} (ho : okv γ R (.slc l o q n c x z)) (hc : 0 < c) : (γ l).lim ≠ o := by
  simp only [okv] at ho
  obtain ⟨_, _, h3, h4, _⟩ := ho
  intro e
  have : 0 < c * z := Nat.mul_pos hc h4
  omega

theorem zeroCells_eq {zs : List Value} (hm : 0 < zs.length) (n : Nat) : (Builtin.zeroCells zs.toArray n).toList = (List.replicate n zs).flatten := by
  have := range_copies zs hm n
  rw [← this]
  simp [Builtin.zeroCells]
theorem zeroCells_size (zs : Array Value) (n : Nat) : (Builtin.zeroCells zs n).size = n * zs.size := by simp [Builtin.zeroCells]

theorem lenV_sound {v : AV} {vs : List AV} {z : Nat} {H : Tr AObj} {nx : Nat} (hR : Rel P τ γ R H nx w) (ho : okv γ R v) (h : appCells z v H = some vs) :
    (Builtin.lenOf (conc τ γ v)).run P w = .ok (lenV v) w ∧ (Builtin.firstCells z (lenV v) (conc τ γ v)).run P w = .ok (concL τ γ vs).toArray w ∧ okvL γ R vs ∧ vs.length = lenV v * z := by
  cases v <;> simp only [appCells, reduceCtorEq] at h
  case nils =>
    simp only [Option.some.injEq] at h
    subst h
    simp [conc, Builtin.lenOf, lenV, Builtin.firstCells, concL, okvL]
  case str s =>
    simp only [natbeq_eq, brec_eq, decide_eq_true_eq, mapL_eq] at h
    split at h
    · rename_i hz
      subst hz
      simp only [Option.some.injEq] at h
      subst h
      refine ⟨by simp [conc, Builtin.lenOf, lenV, strV_size], ?_, ?_, by simp [lenV]⟩
      · simp only [conc, Builtin.firstCells, Sem.run_pure, lenV, lenL_eq]
        congr 1
        have : (strV s).extract 0 s.length = strV s := by
          have := strV_size s
          rw [← this]
          exact ByteArray.extract_zero_size
        rw [this]
        apply Array.ext'
        simp only [okv] at ho
        simp only [strV, bytesB, Array.toList_map, List.map_map, concL_eq]
        apply List.map_congr_left
        intro b hb
        have := ho b hb
        simp [conc]
        omega
      · rw [okvL_iff]
        intro v hv
        simp only [List.mem_map] at hv
        obtain ⟨b, _, rfl⟩ := hv
        simp [okv]
    · simp at h
  case slc l o q n c x y =>
    simp only [natbeq_eq, brec_eq, decide_eq_true_eq, Nat.mul_eq] at h
    split at h
    · rename_i hz
      subst hz
      have ho' := ho
      simp only [okv] at ho'
      have hlen : vs.length = n * y := by
        obtain ⟨_, cs, _, _, _, _, rfl, hle⟩ := cellsAt_spec h
        simp only [List.length_take]
        omega
      refine ⟨by simp [conc, Builtin.lenOf, lenV], ?_, (run_loadCells_at (τ := τ) hR ho'.1 h).2, by simpa [lenV] using hlen⟩
      simp only [conc, Builtin.firstCells, lenV]
      by_cases hn : n = 0
      · subst hn
        rw [Nat.zero_mul] at *
        have : vs = [] := List.length_eq_zero_iff.1 (by omega)
        subst this
        rfl
      · rw [if_neg (slc_place ho (by omega))]
        exact (run_loadCells_at (τ := τ) hR ho'.1 h).1
    · simp at h

theorem nextslicecap_le (need old : Nat) (h : old < need) : Builtin.nextslicecap need old ≤ 2 * need + 192 := by
  unfold Builtin.nextslicecap
  split
  · omega
  · split
    · omega
    · have : ∀ r c, c < need → Builtin.growBy need r c ≤ 2 * need + 192 := by
        intro r
        induction r with
        | zero => intro c hc; simp only [Builtin.growBy]; omega
        | succ r ih =>
          intro c hc
          simp only [Builtin.growBy]
          split
          · omega
          · by_cases h2 : c + (c + 768) / 4 < need
            · exact ih _ h2
            · have h3 : c + (c + 768) / 4 ≤ 2 * need + 192 := by omega
              cases r with
              | zero => exact h3
              | succ r => simp only [Builtin.growBy]; rw [if_pos (by omega)]; exact h3
      exact this 4 old h

/-- A new block for what is appended. -/
theorem grow_sound {H : Tr AObj} {nx e : Nat} {cs : List AV} {need cap z : Nat} {rest : Array Value} (hR : Rel P τ γ R H nx w) (hc : okvL γ R cs) (hlen : cs.length = need * z) (hrest : rest.size = (cap - need) * z) (hle : need ≤ cap) (hz : 0 < z) (hn : 0 < need) :
    ∃ g, Rel P τ (upd γ nx g) (more R nx) (hset H nx (.cells e cs 0 false)) (nx + 1) (w.alloc (.cells ((concL τ γ cs).toArray ++ rest) e)) ∧
      Went γ R H w (upd γ nx g) (more R nx) (hset H nx (.cells e cs 0 false)) (w.alloc (.cells ((concL τ γ cs).toArray ++ rest) e)) ∧
      okv (upd γ nx g) (more R nx) (.slc nx 0 0 need need true z) ∧ conc τ (upd γ nx g) (.slc nx 0 0 need need true z) = .slice (some ⟨w.heap.size, 0, none⟩) need cap := by
  have hL : ¬ R nx := (hR.fresh nx (Nat.le_refl _)).2
  have hmul : need * z + (cap - need) * z = cap * z := by rw [← Nat.add_mul, Nat.add_sub_cancel' hle]
  have hcz : 0 < cap * z := Nat.mul_pos (by omega) hz
  have ha := concL_agree (τ := τ) (upd_agree (γ := γ) (g := ⟨w.heap.size, 0, cap * z, cap * z⟩) hL) _ hc
  have hp := hR.push (w' := w.alloc (.cells ((concL τ γ cs).toArray ++ rest) e)) (.cells e cs 0 false) (.cells ((concL τ γ cs).toArray ++ rest) e) ⟨w.heap.size, 0, cap * z, cap * z⟩ rfl rfl (by
    refine .cells e cs 0 false _ (0, 0) ?_ (by simp) (by simp; omega) (fun i v hv => ?_) ha.2 (fun i _ => by simp)
    · simp [concL_eq, hlen, hrest, hmul]
    · have hi : i < cs.length := (List.getElem?_eq_some_iff.1 hv).1
      rw [Array.getElem?_append_left (by simp [concL_eq]; omega), ← ha.1]
      simp [concL_eq, hv])
  refine ⟨_, hp.1, hp.2, ?_, ?_⟩
  · simp only [okv, upd, if_true, more]
    refine ⟨.inr trivial, Nat.le_refl _, ?_, hz, fun _ => by rw [Nat.sub_zero]; exact Nat.dvd_mul_left z cap⟩
    rw [Nat.zero_add]
    exact Nat.mul_le_mul_right z hle
  · simp only [conc, upd, if_true]
    rw [Nat.sub_zero, Nat.mul_div_cancel _ hz]
    split <;> rfl

variable {α : Type} [Ans α]
section
variable {T : Tr AV} {ρ : Operand → Value} {dst : Option Tmp} {ty : TypeId} {pos : String} {af : Array Edge} {gd : Option (Nat × Bool)}

theorem v_clr {st : St} {t e : TypeId} {x : Operand} {x' : X} {z : List AV} {cf : CallF α} {yf : YieldF α} {k : ONext → St → α} (hR : Rel P τ γ R st.H st.nx w) (ht : P.underlying t = some (.slice e)) (hz : cellsZ P e = some z) (hz0 : z.length ≠ 0)
    (fx : Fit P τ γ R st.T ρ x) (hx : opd P x = some x') (h : Ans.holds (vev cf yf (.clr z.length z x') st k)) :
    Out P τ γ R w st ((execOp ρ ⟨dst, .call { callee := .builtin .clear, args := #[x], argTypes := #[t] }, ty, pos, af, gd⟩).run P w) k := by
  have x1 := fx x' hx
  simp only [vev] at h
  split at h
  · rename_i he
    rw [he] at x1
    refine .inl ⟨.tup [], γ, R, _, st.nx, w, .inl ?_, hR, Went.refl _ _ _ _, by simp [okv, okvL], h⟩
    simp [execOp, resolve, invoke, builtin, Builtin.clear_, run_underlying ht, x1.1, conc, concL]
  · rename_i l o q n c b y he
    rw [he] at x1
    simp only [natbeq_eq] at h
    by_cases hy : y = z.length
    · rw [decide_eq_true hy] at h
      subst hy
      cases n with
      | zero =>
        refine .inl ⟨.tup [], γ, R, _, st.nx, w, .inl ?_, hR, Went.refl _ _ _ _, by simp [okv, okvL], h⟩
        simp [execOp, resolve, invoke, builtin, Builtin.clear_, run_underlying ht, x1.1, conc, concL]
      | succ n =>
        simp only at h
        have ho := x1.2
        simp only [okv] at ho
        obtain ⟨i, zv, hi, hzv, hzc, hzo, hzl⟩ := cellsZ_spec (τ := τ) (γ := γ) (R := R) hz
        obtain ⟨w', H', h1, h2, h3, h4, _⟩ := store_sound hR ho.1 (vs := copies (n + 1) z) (by
          rw [copies_eq, okvL_iff]
          intro v hv
          simp only [List.mem_flatten, List.mem_replicate] at hv
          obtain ⟨l, ⟨_, rfl⟩, hv⟩ := hv
          exact (okvL_iff _ _ _).1 hzo v hv) h
        refine .inl ⟨.tup [], γ, R, H', st.nx, w', .inl ?_, h2, h3, by simp [okv, okvL], h4⟩
        have hcells : (Builtin.zeroCells (concL τ γ z).toArray (n + 1)).toList = concL τ γ (copies (n + 1) z) := by
          rw [zeroCells_eq (by rw [concL_eq]; simp; omega), copies_eq]
          simp [concL_eq, List.map_flatten]
        simp only [execOp, resolve, invoke, builtin, Builtin.clear_, Sem.run_bind, Result.andThen_ok, x1.1, conc, if_neg (slc_place x1.2 (by omega)), Sem.run_pure, List.map_toArray, List.map_cons, List.map_nil, concL]
        simp [run_underlying ht, run_zeroValue hi hzv, hzc, hcells, h1]
    · rw [decide_eq_false hy] at h
      exact absurd h Ans.not_fail
  · exact absurd h Ans.not_fail
end
end
end Go.Ax
