/- What an operation comes to, by what it looks at. -/
import Derived.Test.YtbhjokfopgbmiaaGreatDoorAxLoud6
namespace Go.Ax
open Go

theorem path_pnum : ∀ p : P1, path (pnum p) = p := by
  have h : ∀ (p : P1) (f : Nat), pnum p ≤ f → pathF f (pnum p) = p := by
    intro p
    induction p with
    | e => intro f _; cases f <;> rfl
    | l p ih =>
      intro f hf
      simp only [pnum] at hf ⊢
      cases f with
      | zero => omega
      | succ f =>
        simp only [pathF]
        rw [if_pos (by omega), show 2 * pnum p / 2 = pnum p by omega, ih f (by omega)]
    | r p ih =>
      intro f hf
      simp only [pnum] at hf ⊢
      cases f with
      | zero => omega
      | succ f =>
        simp only [pathF]
        rw [if_neg (by omega), show (2 * pnum p + 1) / 2 = pnum p by omega, ih f (by omega)]
  exact fun p => h p _ (Nat.le_refl _)

theorem evL_congr {xs : List X} {T T' : Tr AV} (h : ∀ x ∈ xs, ev x T = ev x T') : evL xs T = evL xs T' := by
  unfold evL
  rw [mapL_eq, mapL_eq]
  exact List.map_congr_left h
theorem fillC_congr {T T' : Tr AV} : ∀ (ps : List (Nat × Nat × X)) (cs : List AV), (∀ x ∈ ps.map (·.2.2), ev x T = ev x T') → fillC ps T cs = fillC ps T' cs := by
  intro ps
  induction ps with
  | nil => intro cs _; rfl
  | cons p ps ih =>
    intro cs h
    have e : ∀ T, fillC (p :: ps) T cs = (Bool.casesOn (Nat.beq (lenL (ev p.2.2 T).cells) p.2.1) none (Option.casesOn (overL (ev p.2.2 T).cells p.1 cs) none fun cs' => fillC ps T cs') : Option (List AV)) := fun _ => rfl
    have hf : fillC ps T = fillC ps T' := funext fun cs => ih cs fun x hx => h x (by simp only [List.map_cons, List.mem_cons]; exact .inr hx)
    rw [e, e, h p.2.2 (by simp), hf]
theorem bnd_congr {x : Option X} {T T' : Tr AV} {d m : Nat} (h : ∀ y ∈ xsO x, ev y T = ev y T') : bnd x T d m = bnd x T' d m := by
  cases x with
  | none => rfl
  | some x => simp only [bnd]; rw [h x (by simp [xsO])]
theorem sliceV_congr {b o q n c : Nat} {x : Bool} {z : Nat} {lo hi mx : Option X} {T T' : Tr AV} (h : ∀ y ∈ xsO lo ++ (xsO hi ++ xsO mx), ev y T = ev y T') : sliceV b o q n c x z lo hi mx T = sliceV b o q n c x z lo hi mx T' := by
  have h1 : ∀ d m, bnd lo T d m = bnd lo T' d m := fun d m => bnd_congr fun y hy => h y (by simp [hy])
  have h2 : ∀ d m, bnd hi T d m = bnd hi T' d m := fun d m => bnd_congr fun y hy => h y (by simp [hy])
  have h3 : ∀ d m, bnd mx T d m = bnd mx T' d m := fun d m => bnd_congr fun y hy => h y (by simp [hy])
  unfold sliceV
  cases mx with
  | none => simp only [h1, h2]
  | some m =>
    cases hi with
    | none => rfl
    | some hi => simp only [h1, h2, h3]
theorem sliceN_congr {lo hi mx : Option X} {T T' : Tr AV} (h : ∀ y ∈ xsO lo ++ (xsO hi ++ xsO mx), ev y T = ev y T') : sliceN lo hi mx T = sliceN lo hi mx T' := by
  have h1 : ∀ d m, bnd lo T d m = bnd lo T' d m := fun d m => bnd_congr fun y hy => h y (by simp [hy])
  have h2 : ∀ d m, bnd hi T d m = bnd hi T' d m := fun d m => bnd_congr fun y hy => h y (by simp [hy])
  have h3 : ∀ d m, bnd mx T d m = bnd mx T' d m := fun d m => bnd_congr fun y hy => h y (by simp [hy])
  unfold sliceN
  cases mx with
  | none => simp only [h1, h2]
  | some m =>
    cases hi with
    | none => rfl
    | some hi => simp only [h1, h2, h3]
theorem sliceStr_congr {s : List Nat} {lo hi : Option X} {T T' : Tr AV} (h : ∀ y ∈ xsO lo ++ xsO hi, ev y T = ev y T') : sliceStr s lo hi T = sliceStr s lo hi T' := by
  have h1 : ∀ d m, bnd lo T d m = bnd lo T' d m := fun d m => bnd_congr fun y hy => h y (by simp [hy])
  have h2 : ∀ d m, bnd hi T d m = bnd hi T' d m := fun d m => bnd_congr fun y hy => h y (by simp [hy])
  unfold sliceStr
  simp only [h1, h2]

theorem pev_congr {o : PO} {T T' : Tr AV} (h : ∀ x ∈ xsP o, ev x T = ev x T') : pev o T = pev o T' := by
  cases o
  case build z ps => simp only [pev]; rw [fillC_congr ps z h]
  case mkfn f a b =>
    simp only [pev]
    rw [evL_congr fun x hx => h x (by simp [xsP, hx]), evL_congr fun x hx => h x (by simp [xsP, hx])]
  case slStr x lo hi =>
    simp only [pev]
    rw [h x (by simp [xsP])]
    split
    · exact sliceStr_congr fun y hy => h y (by simp only [xsP, List.mem_cons]; exact .inr hy)
    · rfl
  case slV z x lo hi mx =>
    simp only [pev]
    rw [h x (by simp [xsP])]
    have hs : ∀ y ∈ xsO lo ++ (xsO hi ++ xsO mx), ev y T = ev y T' := fun y hy => h y (by simp only [xsP, List.mem_cons]; exact .inr hy)
    split
    · rw [sliceV_congr hs]
    · exact sliceN_congr hs
    · rfl
  all_goals
    simp only [xsP, List.mem_cons, List.not_mem_nil, or_false, forall_eq_or_imp, forall_eq, false_implies, implies_true] at h
    simp only [pev, h]

theorem rev_congr {o : RO} {T T' : Tr AV} {H : Tr AObj} (h : ∀ x ∈ xsR o, ev x T = ev x T') : rev o T H = rev o T' H := by
  cases o
  case slA n z x lo hi mx =>
    have hs : ∀ y ∈ xsO lo ++ (xsO hi ++ xsO mx), ev y T = ev y T' := fun y hy => h y (by simp only [xsR, List.mem_cons]; exact .inr hy)
    simp only [rev]
    rw [h x (by simp [xsR])]
    simp only [sliceV_congr hs]
  all_goals
    simp only [xsR, List.mem_cons, List.not_mem_nil, or_false, forall_eq_or_imp, forall_eq] at h
    simp only [rev, h]

theorem aev_congr {o : LO} {T T' : Tr AV} {L : Nat} (h : ∀ x ∈ xsL o, ev x T = ev x T') : aev o T L = aev o T' L := by
  cases o
  case bsl e z cs len ps => simp only [aev]; rw [fillC_congr ps cs h]
  case alloc => rfl
  case mkmap => rfl
  all_goals
    simp only [xsL, List.mem_cons, List.not_mem_nil, or_false, forall_eq_or_imp, forall_eq] at h
    simp only [aev, h]

/-- What is read stays when blocks come. -/
theorem rev_more {o : RO} {T : Tr AV} {H H' : Tr AObj} {v : AV} (hH : ∀ l ob, hget H l = some ob → hget H' l = some ob) (h : rev o T H = some v) : rev o T H' = some v := by
  have hm : ∀ m es, mapAt H m = some es → mapAt H' m = some es := by
    intro m es hm
    unfold mapAt at hm ⊢
    split at hm
    · exact hm
    · rename_i l
      split at hm
      · rename_i es' c hg; simp only [hH _ _ hg]; exact hm
      · simp at hm
    · simp at hm
  have hc : ∀ l o n cs, cellsAt H l o n = some cs → cellsAt H' l o n = some cs := by
    intro l o n cs hc
    unfold cellsAt at hc ⊢
    split at hc
    · rename_i hg; simp only [hH _ _ hg]; exact hc
    · simp at hc
  cases o <;> simp only [rev] at h ⊢
  case ld1 x =>
    split at h
    · split at h
      · rename_i hg; simp only [hH _ _ hg]; exact h
      · simp at h
    · simp at h
  case ldn n x =>
    split at h
    · simp only [orec_bind, Option.bind_eq_some_iff] at h ⊢
      obtain ⟨cs, h1, h2⟩ := h
      exact ⟨cs, hc _ _ _ _ h1, h2⟩
    · simp at h
  case lkup =>
    simp only [orec_bind, Option.bind_eq_some_iff] at h ⊢
    obtain ⟨es, h1, h2⟩ := h
    exact ⟨es, hm _ _ h1, h2⟩
  case lenM =>
    simp only [orec_bind, Option.bind_eq_some_iff] at h ⊢
    obtain ⟨es, h1, h2⟩ := h
    exact ⟨es, hm _ _ h1, h2⟩
  case entry x =>
    split at h
    · split at h
      · rename_i hg
        simp only [hH _ _ hg]
        split at h
        · rename_i hg'; simp only [hH _ _ hg']; exact h
        · simp at h
      · simp at h
    · simp at h
  case b2s x =>
    split at h
    · exact h
    · simp only [orec_bind, Option.bind_eq_some_iff] at h ⊢
      obtain ⟨cs, h1, h2⟩ := h
      exact ⟨cs, hc _ _ _ _ h1, h2⟩
    · simp at h
  case slA =>
    split at h
    · split at h
      · rename_i hg; simp only [hH _ _ hg]; exact h
      · simp at h
    · simp at h

theorem same0_eq {a b : AV} (h : same0 a b = true) : a = b := by
  unfold same0 at h
  split at h
  case h_4 => rw [streq_eq] at h; simpa using h
  case h_12 x _ _ x' _ _ _ _ _ _ => 
    simp only [natbeq_eq, band_eq, Bool.and_eq_true, decide_eq_true_eq] at h
    obtain ⟨rfl, rfl, rfl, rfl, rfl, h, rfl⟩ := h
    rename_i x _ x'
    cases x <;> cases x' <;> simp_all
  case h_1 => rename_i x y; cases x <;> cases y <;> simp_all
  all_goals simp_all
theorem same1_eq {a b : AV} (h : same1 a b = true) : a = b := by
  unfold same1 at h
  split at h
  · simp only [natbeq_eq, band_eq, Bool.and_eq_true, decide_eq_true_eq] at h
    rw [h.1, same0_eq h.2]
  · exact same0_eq h
theorem allSame_eq : ∀ a b : List AV, allSame same1 a b = true → a = b := by
  intro a
  induction a with
  | nil => intro b h; cases b with
    | nil => rfl
    | cons y ys => simp [allSame] at h
  | cons x xs ih =>
    intro b h
    cases b with
    | nil => simp [allSame] at h
    | cons y ys =>
      have e : allSame same1 (x :: xs) (y :: ys) = (Bool.rec false (allSame same1 xs ys) (same1 x y) : Bool) := rfl
      rw [e] at h
      cases hs : same1 x y with
      | false => rw [hs] at h; simp at h
      | true => rw [hs] at h; rw [same1_eq hs, ih ys h]
theorem same2_eq {a b : AV} (h : same2 a b = true) : a = b := by
  unfold same2 at h
  split at h
  · rw [allSame_eq _ _ h]
  · rw [allSame_eq _ _ h]
  · exact same1_eq h
end Go.Ax
