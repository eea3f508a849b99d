/- A region: the whole. -/
import Derived.Test.YtbhjokfopgbmiaaGreatDoorAxRegion4
import Derived.Orders
namespace Go.Ax
open Go

/-- An order that the machine may come by. -/
def Lin (ops : List Oper) : List Nat → List Nat → Prop
  | S, [] => ∀ i, i < ops.length → i ∈ S
  | S, i :: l => i < ops.length ∧ i ∉ S ∧ (∀ o, ops[i]? = some o → ∀ e ∈ o.after.toList, Region.binds .any e = true → e.on ∈ S) ∧ Lin ops (S ++ [i]) l

theorem nodup_len : ∀ (l l' : List Nat), l.Nodup → (∀ x ∈ l, x ∈ l') → l.length ≤ l'.length := by
  intro l
  induction l with
  | nil => intro l' _ _; simp
  | cons x xs ih =>
    intro l' hnd hsub
    have hx := hsub x (by simp)
    have := ih (l'.erase x) (List.nodup_cons.1 hnd).2 (fun y hy => by
      have hne : y ≠ x := fun e => (List.nodup_cons.1 hnd).1 (e ▸ hy)
      exact (List.mem_erase_of_ne hne).2 (hsub y (by simp [hy])))
    rw [List.length_erase_of_mem hx] at this
    have : 0 < l'.length := List.length_pos_of_mem hx
    simp only [List.length_cons]
    omega

theorem lin_of {ops : List Oper} (he : ∀ (i : Nat) (o : Oper), ops[i]? = some o → ∀ e ∈ o.after.toList, Region.binds .any e = true → e.on < i) : ∀ (fuel t : Nat) (listed : Array Bool) (S : List Nat), listed.size = ops.length → S.Nodup → (∀ i ∈ S, i < ops.length) →
    (∀ i, i < ops.length → (listed.getD i false = true ↔ i ∈ S)) → S.length + fuel = ops.length → Lin ops S (Region.linearise.go .any ops.toArray fuel t listed []) := by
  intro fuel
  induction fuel with
  | zero =>
    intro t listed S hsz hnd hlt hl hlen
    simp only [Region.linearise.go, List.reverse_nil, Lin]
    intro i hi
    by_cases h : i ∈ S
    · exact h
    · exfalso
      have := nodup_len (i :: S) (List.range ops.length) (List.nodup_cons.2 ⟨h, hnd⟩) (fun x hx => by
        rw [List.mem_cons] at hx
        rw [List.mem_range]
        rcases hx with rfl | hx
        · exact hi
        · exact hlt x hx)
      simp only [List.length_cons, List.length_range] at this
      omega
  | succ fuel ih =>
    intro t listed S hsz hnd hlt hl hlen
    have hd : ∀ i, i < ops.length → listed.getD i true = listed.getD i false := fun i hi => by
      simp [Array.getD_eq_getD_getElem?, Array.getElem?_eq_getElem (hsz ▸ hi)]
    simp only [Region.linearise.go]
    change Lin ops S (match (Region.ready .any ops.toArray listed)[t % (Region.ready .any ops.toArray listed).length]? with
      | some i => Region.linearise.go .any ops.toArray fuel (t / (Region.ready .any ops.toArray listed).length) (listed.setIfInBounds i true) [i]
      | none => [].reverse)
    -- somebody is ready
    have hne : Region.ready .any ops.toArray listed ≠ [] := by
      have hex : ∃ i, i < ops.length ∧ i ∉ S := by
        apply Classical.byContradiction
        intro hno
        have : ∀ i, i < ops.length → i ∈ S := fun i hi => Classical.byContradiction fun h => hno ⟨i, hi, h⟩
        have := nodup_len (List.range ops.length) S List.nodup_range (fun x hx => this x (List.mem_range.1 hx))
        simp only [List.length_range] at this
        omega
      obtain ⟨i, hi, hiS⟩ := hex
      have hmin : ∃ i, i < ops.length ∧ i ∉ S ∧ ∀ j, j < i → j ∈ S := by
        induction i using Nat.strongRecOn with
        | _ i ihi =>
          by_cases h : ∀ j, j < i → j ∈ S
          · exact ⟨i, hi, hiS, h⟩
          · simp only [Classical.not_forall] at h
            obtain ⟨j, hj, hjS⟩ := h
            exact ihi j hj (by omega) hjS
      obtain ⟨m, hm, hmS, hmin⟩ := hmin
      intro hnil
      have : m ∈ Region.ready .any ops.toArray listed := by
        rw [mem_ready]
        refine ⟨?_, ops[m], by simp [hm], ?_⟩
        · rw [hd m hm]
          cases hb : listed.getD m false with
          | false => rfl
          | true => exact absurd ((hl m hm).1 hb) hmS
        · intro e hem hb
          have hlt' := he m ops[m] (List.getElem?_eq_getElem hm) e (Array.mem_toList_iff.2 hem) hb
          exact (hl e.on (by omega)).2 (hmin e.on hlt')
      rw [hnil] at this
      simp at this
    cases hi : (Region.ready .any ops.toArray listed)[t % (Region.ready .any ops.toArray listed).length]? with
    | none =>
      exfalso
      have hpos : 0 < (Region.ready .any ops.toArray listed).length := List.length_pos_iff.2 hne
      have := Nat.mod_lt t hpos
      rw [List.getElem?_eq_none_iff] at hi
      omega
    | some i =>
      simp only []
      rw [linearise_go_acc, List.reverse_singleton, List.singleton_append]
      have hir := mem_ready.1 (List.mem_of_getElem? hi)
      obtain ⟨h0, o, ho, hall⟩ := hir
      simp only [List.getElem?_toArray] at ho
      have hin : i < ops.length := (List.getElem?_eq_some_iff.1 ho).1
      have hiS : i ∉ S := fun h => by
        have := (hl i hin).2 h
        rw [hd i hin] at h0
        rw [this] at h0
        simp at h0
      refine ⟨hin, hiS, ?_, ?_⟩
      · intro o' ho' e hem hb
        rw [ho] at ho'
        simp only [Option.some.injEq] at ho'
        subst ho'
        have hlt' := he i o ho e hem hb
        exact (hl e.on (by omega)).1 (hall e (Array.mem_toList_iff.1 hem) hb)
      · refine ih _ _ (S ++ [i]) (by simpa using hsz) ?_ ?_ ?_ (by simp; omega)
        · rw [List.nodup_append]
          refine ⟨hnd, by simp, fun x hx y hy => ?_⟩
          simp only [List.mem_singleton] at hy
          subst hy
          exact fun e => hiS (e ▸ hx)
        · intro j hj
          simp only [List.mem_append, List.mem_singleton] at hj
          rcases hj with hj | rfl
          · exact hlt j hj
          · exact hin
        · intro j hj
          simp only [List.mem_append, List.mem_singleton]
          by_cases hji : i = j
          · subst hji
            simp [Array.getD_eq_getD_getElem?, hsz, hin]
          · rw [getD_set_ne false hji, hl j hj]
            constructor
            · exact fun h => .inl h
            · rintro (h | h)
              · exact h
              · exact absurd h.symm hji

section
variable {P : Program} {τ : Nat → Int} {N : Nat} {ops : List Oper} {fs : List Full} {pi : List Nat} {rops : List ROp}
variable {S D : List Nat} {lab : Nat → Nat} {γ : Nat → G} {R : Nat → Prop} {st : St} {tmps : Array Value} {w : World}
variable {α : Type} [Ans α] {cf : CallF α} {yf : YieldF α} {kp : AV → St → α} {k : St → α}

theorem rops_at (hr : RegF P N ops fs pi rops) {j : Nat} {post : List Nat} (hpi : pi = D ++ j :: post) : ∃ f c, fs[j]? = some f ∧ checksOf (befores ops) fs pi j = some c ∧ rops.drop D.length = ropOf f c :: rops.drop (D ++ [j]).length := by
  have hp : pi[D.length]? = some j := by rw [hpi]; simp
  obtain ⟨f, c, hf, hc, hro⟩ := hr.rop _ _ hp
  refine ⟨f, c, hf, hc, ?_⟩
  obtain ⟨hlt, hro⟩ := List.getElem?_eq_some_iff.1 hro
  rw [List.drop_eq_getElem_cons hlt, hro]
  simp

theorem idx_at {j : Nat} {post : List Nat} (hj : j ∉ D) (hpi : pi = D ++ j :: post) : pi.idxOf j = D.length := by
  rw [hpi, List.idxOf_append, if_neg hj]
  simp

/-- The abstract machine goes on until an operation's turn. -/
theorem adv_to (hr : RegF P N ops fs pi rops) {i : Nat} {fi : Full} (hi : i < ops.length) (hfi : fs[i]? = some fi) : ∀ (post : List Nat) (D : List Nat) (st : St) (lab : Nat → Nat), Lag P τ N ops fs S D lab γ R st tmps w → pi = D ++ post → i ∉ D → (∀ j, Ahead (befores ops) j i → j ∈ S) →
    Ans.holds (runOps cf yf kp (rops.drop D.length) st k) →
    ∃ D' st' lab' post', Lag P τ N ops fs S D' lab' γ R st' tmps w ∧ pi = D' ++ post' ∧ Ans.holds (runOps cf yf kp (rops.drop D'.length) st' k) ∧ Went γ R st.H w γ R st'.H w ∧ st'.D = st.D ∧ st'.rd = st.rd ∧
      (i ∈ D' ∨ (isLoud fi.a = true ∧ i ∉ D' ∧ ∃ po, post' = i :: po)) := by
  intro post
  induction post with
  | nil =>
    intro D st lab inv hpi hiD
    exfalso
    -- everyone is in the order
    have h1 : ∀ x ∈ i :: D, x ∈ List.range ops.length := by
      intro x hx
      rw [List.mem_range]
      rw [List.mem_cons] at hx
      rcases hx with rfl | hx
      · exact hi
      · exact hr.lt x (by rw [hpi]; simp [hx])
    have h2 := hr.nodup
    rw [hpi, List.append_nil] at h2
    have h3 := nodup_len (i :: D) (List.range ops.length) (List.nodup_cons.2 ⟨hiD, h2⟩) h1
    have h4 := hr.len
    rw [hpi, List.append_nil] at h4
    simp only [List.length_cons, List.length_range] at h3
    omega
  | cons j post ih =>
    intro D st lab inv hpi hiD hah h
    obtain ⟨hjD, hjn, hDn, hnah⟩ := not_in hr hpi
    obtain ⟨f, c, hf, hc, hro⟩ := rops_at hr hpi
    rw [hro] at h
    by_cases hji : j = i
    · subst hji
      rw [hfi] at hf
      simp only [Option.some.injEq] at hf
      subst hf
      cases hl : isLoud fi.a with
      | true =>
        refine ⟨D, st, lab, j :: post, inv, hpi, by rw [hro]; exact h, Went.refl _ _ _ _, rfl, rfl, .inr ⟨rfl, hiD, post, rfl⟩⟩
      | false =>
        obtain ⟨st', lab', h1, h2, h3, h4, h5⟩ := adv hr inv hpi hfi hl h
        exact ⟨D ++ [j], st', lab', post, h1, by rw [hpi]; simp, h2, h3, h4, h5, .inl (by simp)⟩
    · have hl : isLoud f.a = false := by
        cases hl : isLoud f.a with
        | false => rfl
        | true =>
          exfalso
          have hp : i ∈ post := by
            have : i ∈ pi := by
              apply Classical.byContradiction
              intro hni
              have h2 := nodup_len (i :: pi) (List.range ops.length) (List.nodup_cons.2 ⟨hni, hr.nodup⟩) (fun x hx => by
                rw [List.mem_range]
                rw [List.mem_cons] at hx
                rcases hx with rfl | hx
                · exact hi
                · exact hr.lt x hx)
              have h4 := hr.len
              simp only [List.length_cons, List.length_range] at h2
              omega
            rw [hpi] at this
            simp only [List.mem_append, List.mem_cons] at this
            rcases this with h | h | h
            · exact absurd h hiD
            · exact absurd h.symm hji
            · exact h
          rcases (pair_spec hr hjn hi hji hf hfi).1 with h1 | h1 | h1
          · -- i ahead of j
            obtain ⟨p1, p2, rfl⟩ := List.append_of_mem hp
            have := hr.first D j _ hpi i h1
            exact hiD this
          · exact hjD (inv.sub j (hah j h1))
          · have h2 := h1.2.2.2.2 hl
            rw [idx_at hjD hpi] at h2
            have h3 : D.length ≤ pi.idxOf i := by
              rw [hpi, List.idxOf_append, if_neg hiD]
              omega
            omega
      obtain ⟨st', lab', h1, h2, h3, h4, h5⟩ := adv hr inv hpi hf hl h
      have hiD' : i ∉ D ++ [j] := by
        simp only [List.mem_append, List.mem_singleton, not_or]
        exact ⟨hiD, fun e => hji e.symm⟩
      obtain ⟨D', st₂, lab₂, post', g1, g2, g3, g4, g5, g6, g7⟩ := ih (D ++ [j]) st' lab' h1 (by rw [hpi]; simp) hiD' hah h2
      exact ⟨D', st₂, lab₂, post', g1, g2, g3, h3.trans g4, g5.trans h4, g6.trans h5, g7⟩

/-- A state of a frame is what the abstract state says. -/
structure Sit (P : Program) (τ : Nat → Int) (N : Nat) (γ : Nat → G) (R : Nat → Prop) (st : St) (tmps : Array Value) (w : World) : Prop where
  tm : TmpsR τ γ st.T tmps
  ok : TmpsOk γ R st.T
  rel : Rel P τ γ R st.H st.nx w
  size : N ≤ tmps.size

/-- How code that comes to its end leaves things. -/
def Ends (P : Program) (τ : Nat → Int) (N : Nat) (m : Machine) (b : Frame) (ds : List Deferred) (todo : List Item) (cs : List Frame) (γ : Nat → G) (R : Nat → Prop) (st : St) (w : World) (k : St → α) : Prop :=
  ∃ tmps' st' γ' R' w', Steps P m (lone (on b tmps' ds todo) cs w') ∧ Sit P τ N γ' R' st' tmps' w' ∧ Went γ R st.H w γ' R' st'.H w' ∧ st'.D = st.D ∧ st'.rd = st.rd ∧ Ans.holds (k st')

theorem Ends.of_steps {m m' : Machine} {b : Frame} {ds : List Deferred} {todo : List Item} {cs : List Frame} {γ' : Nat → G} {R' : Nat → Prop} {st' : St} {w' : World} (hs : Steps P m m') (hw : Went γ R st.H w γ' R' st'.H w') (hd : st'.D = st.D) (hrd : st'.rd = st.rd) (h : Ends P τ N m' b ds todo cs γ' R' st' w' k) :
    Ends P τ N m b ds todo cs γ R st w k := by
  obtain ⟨t, s, γ₂, R₂, w₂, h1, h2, h3, h4, h5, h6⟩ := h
  exact ⟨t, s, γ₂, R₂, w₂, hs.trans h1, h2, hw.trans h3, h4.trans hd, h5.trans hrd, h6⟩

/-- The machine by its order, the abstract machine by its own. -/
theorem sim (hcf : CallsOk P τ cf) (hyf : YieldsOk P τ yf) (hr : RegF P N ops fs pi rops) (b : Frame) (ds : List Deferred) (kk : List Item) (cs : List Frame) : ∀ (l : List Nat) (S D post : List Nat) (lab : Nat → Nat) (γ : Nat → G) (R : Nat → Prop) (st : St) (tmps : Array Value) (w : World),
    Lag P τ N ops fs S D lab γ R st tmps w → pi = D ++ post → Lin ops S l → Ans.holds (runOps cf yf kp (rops.drop D.length) st k) →
    Ends P τ N (lone (on b tmps ds (.inRegion ops.toArray l :: kk)) cs w) b ds kk cs γ R st w k ∨ Panics P τ (lone (on b tmps ds (.inRegion ops.toArray l :: kk)) cs w) b ds cs γ R st w kp := by
  intro l
  induction l with
  | nil =>
    intro S D post lab γ R st tmps w inv hpi hlin h
    have hDS : ∀ i ∈ D, i ∈ S := fun i hi => hlin i (hr.lt i (by rw [hpi]; simp [hi]))
    have hpost : post = [] := by
      cases post with
      | nil => rfl
      | cons j post =>
        obtain ⟨hjD, hjn, _, _⟩ := not_in hr hpi
        exact absurd (inv.sub j (hlin j hjn)) hjD
    subst hpost
    have hlen : rops.drop D.length = [] := by
      rw [List.drop_eq_nil_of_le]
      rw [hr.rlen, hpi]
      simp
    rw [hlen] at h
    have hall : ∀ t, tmps.getD t undef = conc τ γ (tv st.T t) ∧ okv γ R (tv st.T t) := fun t => inv.tmp t fun i hi hiS => absurd (hDS i hi) hiS
    exact .inl ⟨tmps, st, γ, R, w, .one st_region_end, ⟨fun t => (hall t).1, fun t => (hall t).2, inv.rel, inv.size⟩, Went.refl _ _ _ _, rfl, rfl, h⟩
  | cons i l ih =>
    intro S D post lab γ R st tmps w inv hpi hlin h
    obtain ⟨hin, hiS, hafter, hrest⟩ := hlin
    obtain ⟨f, hf, _⟩ := hr.full i _ (List.getElem?_eq_getElem hin)
    have hah : ∀ j, Ahead (befores ops) j i → j ∈ S := by
      intro j hj
      rw [befores_spec hr.edges (List.getElem?_eq_getElem hin)] at hj
      obtain ⟨e, hem, hb, hj⟩ := hj
      have heS := hafter _ (List.getElem?_eq_getElem hin) e hem hb
      rcases hj with rfl | hj
      · exact heS
      · exact inv.closed _ heS j hj
    -- the abstract machine comes to it
    have hgo : ∃ D' st' lab' post', Lag P τ N ops fs S D' lab' γ R st' tmps w ∧ pi = D' ++ post' ∧ Ans.holds (runOps cf yf kp (rops.drop D'.length) st' k) ∧ Went γ R st.H w γ R st'.H w ∧ st'.D = st.D ∧ st'.rd = st.rd ∧
        (i ∈ D' ∨ (isLoud f.a = true ∧ i ∉ D' ∧ ∃ po, post' = i :: po)) := by
      by_cases hiD : i ∈ D
      · exact ⟨D, st, lab, post, inv, hpi, h, Went.refl _ _ _ _, rfl, rfl, .inl hiD⟩
      · exact adv_to hr hin hf post D st lab inv hpi hiD hah h
    obtain ⟨D', st', lab', post', inv', hpi', h', hwent, hd', hrd', hcase⟩ := hgo
    have hD' : ∀ k ∈ D', k < ops.length := fun k hk => hr.lt k (by rw [hpi']; simp [hk])
    rcases hcase with hiD | ⟨hl, hiD, po, rfl⟩
    · obtain ⟨tmps', w', γ', R', hs, hlag, hw2⟩ := exec1 hr inv' hD' hiD hf hiS hah b ds l kk cs
      rcases ih (S ++ [i]) D' post' lab' γ' R' st' tmps' w' hlag hpi' hrest h' with g | g
      · exact .inl (g.of_steps hs (hwent.trans hw2) hd' hrd')
      · exact .inr (g.of_steps hs (hwent.trans hw2) hd' hrd')
    · obtain ⟨f', c, hf', hc, hro⟩ := rops_at hr hpi'
      rw [hf] at hf'
      simp only [Option.some.injEq] at hf'
      subst hf'
      rw [hro] at h'
      rcases exec2 hcf hyf hr inv' hpi' hf hc hl hah h' b ds l kk cs with ⟨tmps', st₂, γ', R', w', hs, hlag, hw2, hd2, hrd2, hk⟩ | hp
      · rcases ih (S ++ [i]) (D' ++ [i]) po lab' γ' R' st₂ tmps' w' hlag (by rw [hpi']; simp) hrest hk with g | g
        · exact .inl (g.of_steps hs (hwent.trans hw2) (hd2.trans hd') (hrd2.trans hrd'))
        · exact .inr (g.of_steps hs (hwent.trans hw2) (hd2.trans hd') (hrd2.trans hrd'))
      · exact .inr (hp.of_steps (Steps.refl _ _) hwent hd' hrd')

theorem region_draw_list (hcf : CallsOk P τ cf) (hyf : YieldsOk P τ yf) {id : Nat} (hc : regC P N ops true = some rops) (hs : Sit P τ N γ R st tmps w) (h : Ans.holds (runOps cf yf kp rops st k)) (b : Frame) (ds : List Deferred) (kk : List Item) (cs : List Frame) :
    Ends P τ N (lone (on b tmps ds (.code (.region id ops.toArray true) :: kk)) cs w) b ds kk cs γ R st w k ∨ Panics P τ (lone (on b tmps ds (.code (.region id ops.toArray true) :: kk)) cs w) b ds cs γ R st w kp := by
  obtain ⟨fs, pi, hr⟩ := regC_draw hc
  have hst := st_region_draw (P := P) (b := b) (tmps := tmps) (ds := ds) (k := kk) (cs := cs) (w := w) (id := id) (ops := ops.toArray)
  rw [hr.mixed] at hst
  simp only [Region.schedule, Bool.true_or, if_true] at hst
  have hlin : Lin ops [] (Region.linearise .any ops.toArray (w.tape w.drawn (.order b.fn id))) := by
    have := lin_of hr.edges ops.length (w.tape w.drawn (.order b.fn id)) (Array.replicate ops.length false) [] (by simp) (by simp) (by simp) (fun i hi => by simp [Array.getD_eq_getD_getElem?, hi]) (by simp)
    exact this
  have inv : Lag P τ N ops fs [] [] (fun _ => 0) γ R st tmps { w with drawn := w.drawn + 1 } :=
    ⟨by simp, by simp, by simp, hs.size, fun t _ => ⟨hs.tm t, hs.ok t⟩, hs.rel.heap rfl, by simp, by simp⟩
  have := sim (kp := kp) (k := k) hcf hyf hr b ds kk cs _ [] [] pi _ γ R st tmps _ inv rfl hlin h
  rcases this with g | g
  · exact .inl (Ends.of_steps (.one hst) (Went.heap (w := w) (w' := { w with drawn := w.drawn + 1 }) rfl) rfl rfl g)
  · exact .inr (Panics.of_steps (.one hst) (Went.heap (w := w) (w' := { w with drawn := w.drawn + 1 }) rfl) rfl rfl g)

/-- A region in whatever order. -/
theorem region_draw (hcf : CallsOk P τ cf) (hyf : YieldsOk P τ yf) {id : Nat} {opsA : Array Oper} (hc : regC P N opsA.toList true = some rops) (hs : Sit P τ N γ R st tmps w) (h : Ans.holds (runOps cf yf kp rops st k)) (b : Frame) (ds : List Deferred) (kk : List Item) (cs : List Frame) :
    Ends P τ N (lone (on b tmps ds (.code (.region id opsA true) :: kk)) cs w) b ds kk cs γ R st w k ∨ Panics P τ (lone (on b tmps ds (.code (.region id opsA true) :: kk)) cs w) b ds cs γ R st w kp :=
  region_draw_list hcf hyf hc hs h b ds kk cs
end
end Go.Ax
