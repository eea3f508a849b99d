/- Operations that change something: appending. -/
import Derived.Test.YtbhjokfopgbmiaaGreatDoorAxLoud4
namespace Go.Ax
open Go

theorem notInt (d : TypeDesc) : (∀ k, d ≠ .int k) → (d matches .int _) = false := by
  cases d <;> intro h <;> first | rfl | exact absurd rfl (h _)

section
variable {P : Program} {τ : Nat → Int} {γ : Nat → G} {R : Nat → Prop} {w : World} {α : Type} [Ans α]

/-- An append as the machine runs it: there is room. -/
theorem run_append_room {t u e : TypeId} {d : TypeDesc} {i : TypeInfo} {base : Option Addr} {sLen sCap n : Nat} {x : Value} {news : List Value} {w' : World} {ty : TypeId} (ht : P.underlying t = some (.slice e)) (hu : P.underlying u = some d) (hd : ∀ k, d ≠ .int k) (hi : P.info? e = some i)
    (hlen : (Builtin.lenOf x).run P w = .ok n w) (hnew : (Builtin.firstCells i.size n x).run P w = .ok news.toArray w) (hle : sLen + n ≤ sCap) (hst : ∀ a, base = some a → (storeCells (a.add (sLen * i.size)) news).run P w = .ok () w') (hb : base = none → w' = w) :
    (Builtin.append_ #[t, u] ty #[.slice base sLen sCap, x]).run P w = .ok (.slice base (sLen + n) sCap) w' := by
  have hz := notInt d hd
  cases base with
  | none =>
    rw [hb rfl]
    simp [Builtin.append_, run_underlying ht, run_sizeOf' hi, run_underlying hu, hlen, hle, hnew]
  | some a =>
    simp [Builtin.append_, run_underlying ht, run_sizeOf' hi, run_underlying hu, hlen, hle, hnew, hst a rfl]

theorem run_cap (need sCap e : Nat) : ∃ (c : Nat) (w₁ : World), (choose (.appendCap need sCap e)).run P w = .ok c w₁ ∧ need ≤ c ∧ w₁.heap = w.heap ∧ w₁.os = w.os ∧ w₁.output = w.output :=
  ⟨need + w.tape w.drawn (.appendCap need sCap e) % (2 ^ 63 - need), { w with drawn := w.drawn + 1 }, by simp [Question.forced, Question.cut], Nat.le_add_right _ _, rfl, rfl, rfl⟩

/-- An append as the machine runs it: there is none. -/
theorem run_append_grow {t u e : TypeId} {d : TypeDesc} {i : TypeInfo} {zv : Value} {base : Option Addr} {sLen sCap n : Nat} {x : Value} {news olds : List Value} {ty : TypeId} (ht : P.underlying t = some (.slice e)) (hu : P.underlying u = some d) (hd : ∀ k, d ≠ .int k) (hi : P.info? e = some i)
    (hzv : i.zero = some zv) (hlen : (Builtin.lenOf x).run P w = .ok n w) (hnew : ∀ w₁ : World, w₁.heap = w.heap → (Builtin.firstCells i.size n x).run P w₁ = .ok news.toArray w₁)
    (hold : ∀ w₁ : World, w₁.heap = w.heap → (Builtin.firstCells i.size sLen (.slice base sLen sCap)).run P w₁ = .ok olds.toArray w₁) (hgt : sCap < sLen + n) (hroom : (sLen + n) * (i.bytes + 1) ≤ 16777216) :
    ∃ (c : Nat) (w₁ : World), w₁.heap = w.heap ∧ (w₁.os = w.os ∧ w₁.output = w.output) ∧ sLen + n ≤ c ∧ (Builtin.append_ #[t, u] ty #[.slice base sLen sCap, x]).run P w =
      .ok (.slice (some ⟨w₁.heap.size, 0, none⟩) (sLen + n) c) (w₁.alloc (.cells ((olds ++ news).toArray ++ Builtin.zeroCells zv.cells (c - (sLen + n))) e)) := by
  have hz := notInt d hd
  obtain ⟨c, w₁, hc, hle, hw, hou⟩ := run_cap (P := P) (w := w) (sLen + n) sCap e
  refine ⟨c, w₁, hw, hou, hle, ?_⟩
  have h1 : sLen + n ≤ 16777216 := Nat.le_trans (Nat.le_mul_of_pos_right _ (Nat.succ_pos _)) hroom
  have h2 : i.bytes ≤ 16777216 := Nat.le_trans (Nat.le_trans (Nat.le_succ _) (Nat.le_mul_of_pos_left _ (by omega))) hroom
  have h3 : Builtin.nextslicecap (sLen + n) sCap * i.bytes ≤ 2 ^ 48 := by
    have hm := Nat.mul_le_mul_right i.bytes (nextslicecap_le (sLen + n) sCap hgt)
    have h4 : (sLen + n) * i.bytes ≤ 16777216 := Nat.le_trans (Nat.mul_le_mul_left _ (Nat.le_succ _)) hroom
    have h5 : (2 * (sLen + n) + 192) * i.bytes = 2 * ((sLen + n) * i.bytes) + 192 * i.bytes := by rw [Nat.add_mul, Nat.mul_assoc]
    omega
  have hti : (typeInfo e).run P w = .ok i w := by simp [typeInfo, hi]
  have hti₁ : (typeInfo e).run P w₁ = .ok i w₁ := by simp [typeInfo, hi]
  have hnle : ¬ sLen + n ≤ sCap := by omega
  have hmax : ¬ (((sLen + n : Nat) : Int) > IntKind.i64.max ∧ (False ∨ i.bytes = 0)) := by
    rintro ⟨h, _⟩
    have : IntKind.i64.max = 9223372036854775807 := by decide
    omega
  have hn3 : ¬ (Builtin.nextslicecap (sLen + n) sCap * i.bytes > 2 ^ 48) := by omega
  simp only [Builtin.append_, List.getElem?_toArray, List.getElem?_cons_zero, List.getElem?_cons_succ, Sem.run_bind, run_underlying ht, Result.andThen_ok, run_sizeOf' hi, run_underlying hu, Sem.run_pure, Bool.false_eq_true, if_false, hlen, hnle, hti]
  rw [if_neg hmax]
  simp only [Sem.run_bind, hti, Result.andThen_ok]
  rw [if_neg hn3]
  have hzw : (zeroValue e).run P w₁ = .ok zv w₁ := run_zeroValue hi hzv
  simp only [Sem.run_bind, hc, Result.andThen_ok, hti₁, run_askRoom, hold w₁ hw, Bool.not_false, if_true, hnew w₁ hw, hzw, newRow, run_newObj, Sem.run_pure, World.alloc]
  simp

/-- What is appended laid behind what was there, in a new block. -/
theorem app_grown {t u e : TypeId} {d : TypeDesc} {i : TypeInfo} {z : List AV} {base : Option Addr} {sLen sCap : Nat} {v : AV} {vs olds : List AV} {ty : TypeId} {st : St} {H : Tr AObj} {k : AV → St → α} (hR : Rel P τ γ R st.H st.nx w) (hR₀ : Rel P τ γ R H st.nx w) (hW₀ : Went γ R st.H w γ R H w)
    (ht : P.underlying t = some (.slice e)) (hu : P.underlying u = some d) (hd : ∀ k, d ≠ .int k) (hi : P.info? e = some i) (hz : cellsZ P e = some z) (hz0 : i.size ≠ 0) (hv : okv γ R v) (hvs : appCells i.size v st.H = some vs) 
    (holds : okvL γ R olds) (hlen : olds.length = sLen * i.size) (hold : ∀ w₁ : World, w₁.heap = w.heap → (Builtin.firstCells i.size sLen (.slice base sLen sCap)).run P w₁ = .ok (concL τ γ olds).toArray w₁) (hgt : sCap < sLen + lenV v)
    (h : Ans.holds (appNew e i.size i.bytes (sLen + lenV v) (olds ++ vs) ⟨st.T, st.D, H, st.nx, st.rd⟩ k)) :
    ∃ r γ' R' H' nx' w', (Builtin.append_ #[t, u] ty #[.slice base sLen sCap, conc τ γ v]).run P w = .ok (conc τ γ' r) w' ∧ Rel P τ γ' R' H' nx' w' ∧ Went γ R st.H w γ' R' H' w' ∧ okv γ' R' r ∧ Ans.holds (k r ⟨st.T, st.D, H', nx', st.rd⟩) := by
  simp only [appNew, natble_eq, Nat.mul_eq, Nat.succ_eq_add_one] at h
  by_cases hroom : (sLen + lenV v) * (i.bytes + 1) ≤ 16777216
  · rw [decide_eq_true hroom] at h
    have hl := lenV_sound (τ := τ) hR hv hvs
    obtain ⟨i', zv, hi', hzv, hzc, hzo, hzl⟩ := cellsZ_spec (τ := τ) (γ := γ) (R := R) hz
    rw [hi] at hi'
    simp only [Option.some.injEq] at hi'
    subst hi'
    obtain ⟨c, w₁, hw, hou, hle, hrun⟩ := run_append_grow (P := P) (w := w) (ty := ty) (olds := concL τ γ olds) (news := concL τ γ vs) ht hu hd hi hzv hl.1 (fun w₁ hw₁ => (lenV_sound (τ := τ) (hR.heap hw₁) hv hvs).2.1) hold hgt hroom
    obtain ⟨g, h1, h2, h3, h4⟩ := grow_sound (cap := c) (rest := Builtin.zeroCells zv.cells (c - (sLen + lenV v))) (e := e) (cs := olds ++ vs) (hR₀.heap hw) (okvL_append holds hl.2.2.1) (by rw [List.length_append, hlen, hl.2.2.2, Nat.add_mul])
      (by rw [zeroCells_size, hzc]; simp [concL_eq, hzl]) hle (Nat.pos_of_ne_zero hz0) (by omega)
    refine ⟨_, _, _, _, _, _, ?_, h1, (hW₀.trans (Went.heap hw hou)).trans h2, h3, h⟩
    rw [hrun, h4]
    simp [concL_eq]
  · rw [decide_eq_false hroom] at h
    exact absurd h Ans.not_fail

theorem app_sound {t u e : TypeId} {d : TypeDesc} {i : TypeInfo} {z : List AV} {s v : AV} {ty : TypeId} {st : St} {k : AV → St → α} (hR : Rel P τ γ R st.H st.nx w)
    (ht : P.underlying t = some (.slice e)) (hu : P.underlying u = some d) (hd : ∀ k, d ≠ .int k) (hi : P.info? e = some i) (hz : cellsZ P e = some z) (hz0 : i.size ≠ 0) (hs : okv γ R s) (hv : okv γ R v)
    (h : Ans.holds (appV e i.size i.bytes s v st k)) :
    ∃ r γ' R' H' nx' w', (Builtin.append_ #[t, u] ty #[conc τ γ s, conc τ γ v]).run P w = .ok (conc τ γ' r) w' ∧ Rel P τ γ' R' H' nx' w' ∧ Went γ R st.H w γ' R' H' w' ∧ okv γ' R' r ∧ Ans.holds (k r ⟨st.T, st.D, H', nx', st.rd⟩) := by
  unfold appV at h
  cases hvs : appCells i.size v st.H with
  | none => rw [hvs] at h; exact absurd h Ans.not_fail
  | some vs =>
    rw [hvs] at h
    simp only at h
    have hl := lenV_sound (τ := τ) hR hv hvs
    split at h
    · -- nothing there
      cases hm : lenV v with
      | zero =>
        rw [hm] at h
        rw [hm] at hl
        have hnil : vs = [] := List.length_eq_zero_iff.1 (by rw [hl.2.2.2, Nat.zero_mul])
        subst hnil
        refine ⟨.nils, γ, R, st.H, st.nx, w, ?_, hR, Went.refl _ _ _ _, by simp [okv], h⟩
        have := run_append_room (P := P) (w := w) (ty := ty) (base := none) (sLen := 0) (sCap := 0) (w' := w) (news := concL τ γ []) ht hu hd hi hl.1 hl.2.1 (by omega) (by simp) (fun _ => rfl)
        simpa [conc] using this
      | succ m =>
        have h' : Ans.holds (appNew e i.size i.bytes (0 + lenV v) ([] ++ vs) ⟨st.T, st.D, st.H, st.nx, st.rd⟩ k) := by
          rw [hm] at h
          rw [hm, Nat.zero_add, List.nil_append]
          exact h
        exact app_grown (base := none) (sLen := 0) (sCap := 0) (olds := []) hR hR (Went.refl _ _ _ _) ht hu hd hi hz hz0 hv hvs (by simp [okvL]) (by simp) (fun w₁ _ => by simp [Builtin.firstCells, concL]) (by omega) h'
    · rename_i l o q n c x y
      simp only [natbeq_eq] at h
      by_cases hy : y = i.size
      case neg => rw [decide_eq_false hy] at h; exact absurd h Ans.not_fail
      rw [decide_eq_true hy] at h
      subst hy
      have hs' := hs
      simp only [okv] at hs'
      obtain ⟨hRl, hnc, hlim, hy0, hdiv⟩ := hs'
      have hcapge : c ≤ ((γ l).lim - o) / i.size := by
        rw [Nat.le_div_iff_mul_le hy0]
        omega
      simp only [natble_eq, Nat.add_eq] at h
      by_cases hfit : n + lenV v ≤ c
      · rw [decide_eq_true hfit] at h
        have hcap' : n + lenV v ≤ (if x = true then ((γ l).lim - o) / i.size else c) := by split <;> omega
        cases hm : lenV v with
        | zero =>
          rw [hm] at h
          rw [hm] at hl hcap'
          have hnil : vs = [] := List.length_eq_zero_iff.1 (by rw [hl.2.2.2, Nat.zero_mul])
          subst hnil
          refine ⟨_, γ, R, st.H, st.nx, w, ?_, hR, Went.refl _ _ _ _, hs, h⟩
          have := run_append_room (P := P) (w := w) (ty := ty) (base := some ⟨(γ l).blk, (γ l).base + (if (γ l).lim = o then q else o), none⟩) (sLen := n) (sCap := if x = true then ((γ l).lim - o) / i.size else c) (w' := w) (news := concL τ γ []) ht hu hd hi hl.1 hl.2.1 hcap' (by
            intro a _; simp [concL, storeCells]) (by simp)
          simpa [conc] using this
        | succ m =>
          rw [hm] at h
          simp only [appSame, Nat.add_eq, Nat.mul_eq] at h
          have hne := slc_place hs (by omega)
          obtain ⟨w', H', h1, h2, h3, h4, _⟩ := store_sound hR hRl (vs := vs) hl.2.2.1 h
          refine ⟨_, γ, R, H', st.nx, w', ?_, h2, h3, ?_, h4⟩
          · have := run_append_room (P := P) (w := w) (ty := ty) (base := some ⟨(γ l).blk, (γ l).base + o, none⟩) (sLen := n) (sCap := if x = true then ((γ l).lim - o) / i.size else c) (w' := w') (news := concL τ γ vs) ht hu hd hi hl.1 hl.2.1 hcap' (by
              intro a ha
              simp only [Option.some.injEq] at ha
              subst ha
              rw [addr_add, Nat.add_assoc]
              exact h1) (by simp)
            simp only [conc, if_neg hne]
            rw [this, hm]
          · simp only [okv]
            exact ⟨hRl, by omega, hlim, hy0, hdiv⟩
      · rw [decide_eq_false hfit] at h
        simp only [appGrow] at h
        split at h
        case h_2 => exact absurd h Ans.not_fail
        rename_i e₀ cs fz ro hg
        simp only [dropL_eq, takeL_eq, Nat.mul_eq, Nat.add_eq, appL_eq] at h
        by_cases hle : n * i.size ≤ (cs.drop o).length
        case neg => rw [if_neg hle] at h; exact absurd h Ans.not_fail
        rw [if_pos hle] at h
        simp only at h
        obtain ⟨ob, hb, hr⟩ := hR.obj l _ hRl hg
        have hocs : okvL γ R cs := by cases hr; assumption
        have hat : cellsAt st.H l o (n * i.size) = some ((cs.drop o).take (n * i.size)) := by
          unfold cellsAt
          rw [hg]
          simp only [dropL_eq, takeL_eq]
          rw [if_pos hle]
        have holen : ((cs.drop o).take (n * i.size)).length = n * i.size := by rw [List.length_take]; omega
        have hoold : okvL γ R ((cs.drop o).take (n * i.size)) := okvL_take _ (okvL_drop _ hocs)
        have hold : ∀ C, ∀ w₁ : World, w₁.heap = w.heap → (Builtin.firstCells i.size n (.slice (some ⟨(γ l).blk, (γ l).base + (if (γ l).lim = o then q else o), none⟩) n C)).run P w₁ = .ok (concL τ γ ((cs.drop o).take (n * i.size))).toArray w₁ := by
          intro C w₁ hw₁
          simp only [Builtin.firstCells]
          by_cases hn : n = 0
          · subst hn
            rw [Nat.zero_mul]
            rfl
          · rw [if_neg (slc_place hs (by omega))]
            exact (run_loadCells_at (τ := τ) (hR.heap hw₁) hRl hat).1
        cases x with
        | false =>
          exact app_grown (sCap := c) (base := some ⟨(γ l).blk, (γ l).base + (if (γ l).lim = o then q else o), none⟩) (olds := (cs.drop o).take (n * i.size)) hR hR (Went.refl _ _ _ _) ht hu hd hi hz hz0 hv hvs hoold holen (hold c) (by omega) h
        | true =>
          simp only [natble_eq, natbeq_eq, band_eq, bnot_eq] at h
          cases hc : ((decide (e₀ = e) && !ro) && (decide (fz ≤ o) && allCell vs)) with
          | false => rw [hc] at h; exact absurd h Ans.not_fail
          | true =>
            rw [hc] at h
            simp only [Bool.and_eq_true, decide_eq_true_eq, Bool.not_eq_true'] at hc
            obtain ⟨⟨rfl, rfl⟩, hfz, hall⟩ := hc
            have hdel := hR.del l
            by_cases hroomy : n + lenV v ≤ ((γ l).lim - o) / i.size
            · -- it fits, and nobody knew
              have hne : (γ l).lim ≠ o := by
                intro heq
                rw [heq, Nat.sub_self, Nat.zero_div] at hroomy
                omega
              have hmul : (n + lenV v) * i.size ≤ (γ l).lim - o := (Nat.le_div_iff_mul_le hy0).1 hroomy
              rw [Nat.add_mul] at hmul
              have hvl : (concL τ γ vs).length = lenV v * i.size := by rw [concL_eq, List.length_map, hl.2.2.2]
              simp only [appNew, natble_eq] at h
              cases hc2 : decide (Nat.mul (n + lenV v) (Nat.succ i.bytes) ≤ 16777216) with
              | false => rw [hc2] at h; exact absurd h Ans.not_fail
              | true =>
                rw [hc2] at h
                have hN : ¬ R st.nx := (hR.fresh st.nx (Nat.le_refl _)).2
                cases hr with
                | cells _ _ _ _ C fr hsz hlm hn hcs ho' hf =>
                  obtain ⟨w', c', hr, hb', hs', hx, hsz', hnb, hou⟩ := run_stores (P := P) (γ l).blk ((γ l).base + (o + n * i.size)) e₀ fr (concL τ γ vs) 0 C w hb (by rw [hvl]; omega)
                    (fun j _ => by have := hf (o + n * i.size + j) (by omega); rwa [show (γ l).base + (o + n * i.size + j) = (γ l).base + (o + n * i.size) + 0 + j by omega] at this)
                    (fun v hv => by
                      rw [concL_eq, List.mem_map] at hv
                      obtain ⟨u, hu, rfl⟩ := hv
                      exact oneCell_conc ((allCell_iff vs).1 hall u hu))
                  have hmo := hR.move (w' := w') l _ (.cells e₀ ((cs.drop o).take (n * i.size) ++ vs) 0 false) (.cells c' e₀ fr) ⟨(γ l).blk, (γ l).base + o, (γ l).size, (γ l).lim - o⟩ hRl hg rfl rfl (by
                    have ha := concL_agree (τ := τ) (upd_agree (γ := γ) (g := ⟨(γ l).blk, (γ l).base + o, (γ l).size, (γ l).lim - o⟩) hN) _ (okvL_append hoold hl.2.2.1)
                    refine .cells e₀ _ 0 false c' fr (by simp [hs', hsz]) (by simp; omega) (by simp [hl.2.2.2]; omega) (fun j v hv => ?_) ha.2 (fun j _ => by
                      have := hf (o + j) (by omega)
                      simpa [Nat.add_assoc] using this)
                    have hav : conc τ (upd γ st.nx ⟨(γ l).blk, (γ l).base + o, (γ l).size, (γ l).lim - o⟩) v = conc τ γ v :=
                      (conc_agree (upd_agree hN) v ((okvL_iff _ _ _).1 (okvL_append hoold hl.2.2.1) v (List.mem_of_getElem? hv))).1
                    rw [hav, hx, hvl]
                    simp only [Nat.add_zero]
                    by_cases h1 : j < n * i.size
                    · rw [if_neg (by omega)]
                      rw [List.getElem?_append_left (by omega), List.getElem?_take, if_pos h1, List.getElem?_drop] at hv
                      have := hcs (o + j) v hv
                      rwa [← Nat.add_assoc] at this
                    · rw [List.getElem?_append_right (by omega), holen] at hv
                      have hj2 : j - n * i.size < vs.length := (List.getElem?_eq_some_iff.1 hv).1
                      rw [hl.2.2.2] at hj2
                      rw [if_pos (by omega), concL_eq, List.getElem?_map, show (γ l).base + o + j - ((γ l).base + (o + n * i.size)) = j - n * i.size by omega, hv]
                      rfl) hsz' hb' hnb hou
                  refine ⟨_, _, _, _, _, w', ?_, hmo.1, hmo.2, ?_, h⟩
                  · have := run_append_room (P := P) (w := w) (ty := ty) (base := some ⟨(γ l).blk, (γ l).base + o, none⟩) (sLen := n) (sCap := ((γ l).lim - o) / i.size) (w' := w') (news := concL τ γ vs) ht hu hd hi hl.1 hl.2.1 hroomy (by
                      intro a ha
                      simp only [Option.some.injEq] at ha
                      subst ha
                      rw [addr_add, Nat.add_assoc]
                      exact hr) (by simp)
                    simp only [conc, if_neg hne, if_true, upd, Nat.sub_zero]
                    rw [this]
                    simp
                  · simp only [okv, upd, if_true, more]
                    exact ⟨.inr trivial, Nat.le_refl _, by rw [Nat.add_mul]; omega, hy0, fun _ => by rw [Nat.sub_zero]; exact hdiv rfl⟩
            · exact app_grown (sCap := ((γ l).lim - o) / i.size) (base := some ⟨(γ l).blk, (γ l).base + (if (γ l).lim = o then q else o), none⟩) (olds := (cs.drop o).take (n * i.size)) hR hdel.1 hdel.2 ht hu hd hi hz hz0 hv hvs hoold holen (hold _) (by omega) h
    · exact absurd h Ans.not_fail
end
end Go.Ax
