/- The plain law: the row behind a cut. -/
import Derived.Test.YtonflknnlfffhaaTy
namespace Go.Proofs.Ytonflknnlfffhaa
open Go.RowKit Go.Lib KP MR RW
section
variable {T : List Tk} {N : Tab} {nx : Int} {G : List Int}
theorem mem_goes (h : WF T) {x : Int} : x ∈ goes T G ↔ (∃ t ∈ T, t.1 = x) ∧ Cl T G x := by
  unfold goes
  rw [List.mem_map]
  constructor
  · rintro ⟨t, ht, rfl⟩
    obtain ⟨h1, h2⟩ := List.mem_filter.1 ht
    exact ⟨⟨t, h1, rfl⟩, (mem_rem h G _).1 (of_decide_eq_true h2)⟩
  · rintro ⟨⟨t, ht, rfl⟩, h2⟩
    exact ⟨t, List.mem_filter.2 ⟨ht, decide_eq_true ((mem_rem h G _).2 h2)⟩, rfl⟩
theorem mem_stay (h : WF T) {t : Tk} : t ∈ stay T G ↔ t ∈ T ∧ ¬ Cl T G t.1 := by
  unfold stay
  rw [List.mem_filter, decide_eq_true_iff, mem_rem h]
theorem goes_rise (h : WF T) (G : List Int) : (goes T G).Pairwise (· < ·) := h.ids_rise _
theorem goes_nodup (h : WF T) (G : List Int) : (goes T G).Nodup := (goes_rise h G).imp (fun h => Int.ne_of_lt h)
theorem rise_goes (h : WF T) {l : List Int} (hn : l.Nodup) (hm : ∀ x, x ∈ l ↔ (∃ t ∈ T, t.1 = x) ∧ Cl T G x) : rise l = goes T G :=
  rise_of ((List.perm_ext_iff_of_nodup hn (goes_nodup h G)).2 (fun x => (hm x).trans (mem_goes h).symm)) (goes_rise h G)
theorem wf_stay (h : WF T) (G : List Int) : WF (stay T G) := by
  refine ⟨h.ris.sublist List.filter_sublist, fun t ht => h.pos t ((mem_stay h).1 ht).1, fun t ht => ?_⟩
  obtain ⟨h1, h2⟩ := (mem_stay h).1 ht
  refine ⟨?_, (h.par t h1).2⟩
  rcases (h.par t h1).1 with e | ⟨u, hu, e⟩
  · exact .inl e
  · exact .inr ⟨u, (mem_stay h).2 ⟨hu, fun hc => h2 (.step t h1 (by rw [← e]; exact hc))⟩, e⟩
theorem kidsOf_stay (T : List Tk) (G : List Int) (p : Int) : kidsOf (stay T G) p = (kidsOf T p).filter fun k => decide (k ∉ rem G T) := by
  unfold kidsOf stay
  rw [List.filter_map, List.filter_filter, List.filter_filter]
  congr 1
  refine List.filter_congr (fun t _ => ?_)
  simp [Bool.and_comm]
theorem Cl.from {x : Int} (hx : Cl T G x) : x ∈ G ∨ ∃ t ∈ T, t.1 = x ∧ Cl T G t.2.1 := by
  cases hx with
  | base x h => exact .inl h
  | step t ht h => exact .inr ⟨t, ht, rfl, h⟩
theorem lk_mem {x : Int} : (lk N x).isSome = true ↔ x ∈ N.map (·.1) := by
  rw [List.mem_map]
  constructor
  · intro h
    obtain ⟨nd, hnd⟩ := Option.isSome_iff_exists.1 h
    exact ⟨_, lk_some hnd, rfl⟩
  · rintro ⟨p, hp, rfl⟩
    cases hl : lk N p.1 with
    | some _ => rfl
    | none => exact absurd rfl (lk_none hl p hp)
theorem Good.key (h : Good T N nx) (x : Int) : (lk N x).isSome = true ↔ x = 0 ∨ ∃ t ∈ T, t.1 = x := by
  rw [lk_mem, h.perm.mem_iff, List.mem_cons, List.mem_map]
theorem Good.none (h : Good T N nx) {x : Int} (h0 : x ≠ 0) (hn : ∀ t ∈ T, t.1 ≠ x) : lk N x = none := by
  cases hl : lk N x with
  | none => rfl
  | some nd =>
    rcases (h.key x).1 (by rw [hl]; rfl) with e | ⟨t, ht, e⟩
    · exact absurd e h0
    · exact absurd e (hn t ht)
/-- One that is none takes nothing with it. -/
theorem cl_none (h : WF T) {x y : Int} (h0 : x ≠ 0) (hn : ∀ t ∈ T, t.1 ≠ x) (hc : Cl T [x] y) : y = x :=
  hc.least (S := fun y => y = x) (fun y hy => List.mem_singleton.1 hy) (fun t ht e => by
    rcases (h.par t ht).1 with e2 | ⟨u, hu, e2⟩
    · exact absurd (e.symm.trans e2) h0
    · exact absurd (e2.trans e) (hn u hu))
theorem stay_none (h : WF T) {x : Int} (h0 : x ≠ 0) (hn : ∀ t ∈ T, t.1 ≠ x) : stay T [x] = T := by
  unfold stay
  rw [List.filter_eq_self]
  intro t ht
  refine decide_eq_true (fun hr => hn t ht (cl_none h h0 hn ((mem_rem h _ _).1 hr)))
theorem goes_none (h : WF T) {x : Int} (h0 : x ≠ 0) (hn : ∀ t ∈ T, t.1 ≠ x) : goes T [x] = [] := by
  refine List.eq_nil_iff_forall_not_mem.2 (fun y hy => ?_)
  obtain ⟨⟨t, ht, e⟩, hc⟩ := (mem_goes h).1 hy
  exact hn t ht (e.trans (cl_none h h0 hn hc))
/-- All hangs at the root. -/
theorem cl_root (h : WF T) : ∀ (n : Nat) (t : Tk), t ∈ T → t.1.toNat < n → Cl T [0] t.1 := by
  intro n
  induction n with
  | zero => intro t _ h; omega
  | succ n ih =>
    intro t ht hn
    refine .step t ht ?_
    rcases (h.par t ht).1 with e | ⟨u, hu, e⟩
    · rw [e]; exact .base _ List.mem_cons_self
    · rw [← e]
      exact ih u hu (by have := (h.par t ht).2; have := h.pos u hu; omega)
theorem stay_root (h : WF T) : stay T [0] = [] := by
  refine List.eq_nil_iff_forall_not_mem.2 (fun t ht => ?_)
  obtain ⟨h1, h2⟩ := (mem_stay h).1 ht
  exact h2 (cl_root h _ t h1 (Nat.lt_succ_self _))
theorem gone_keys (N : Tab) (l : List Int) : (gone N l).map (·.1) = (N.map (·.1)).filter fun x => decide (x ∉ l) := by
  unfold gone
  rw [List.filter_map]
  rfl
theorem wf_nil : WF [] := ⟨List.Pairwise.nil, fun _ h => (by cases h), fun _ h => (by cases h)⟩
theorem good_root (h : Good T N nx) {out : List Int} (hm : ∀ x, x ∈ out ↔ Cl T [0] x ∧ x ≠ 0) : Good [] (setK (gone N out) 0 (.slice none 0 0) []) nx := by
  obtain ⟨nd, h1, h2⟩ := h.root
  have h0 : (0 : Int) ∉ out := fun hx => ((hm 0).1 hx).2 rfl
  refine ⟨wf_nil, fun _ h => (by cases h), ?_, ⟨_, lk_setK_self ((lk_gone h0).trans h1), rfl⟩, fun _ h => (by cases h)⟩
  rw [setK_keys, gone_keys]
  refine (h.perm.filter _).trans ?_
  rw [List.filter_cons_of_pos (by simpa using h0)]
  have : (T.map (·.1)).filter (fun x => decide (x ∉ out)) = [] := by
    refine List.eq_nil_iff_forall_not_mem.2 (fun x hx => ?_)
    obtain ⟨h3, h4⟩ := List.mem_filter.1 hx
    obtain ⟨t, ht, rfl⟩ := List.mem_map.1 h3
    refine of_decide_eq_true h4 ((hm _).2 ⟨cl_root h.wf _ t ht (Nat.lt_succ_self _), ?_⟩)
    have := h.wf.pos t ht
    omega
  rw [this]
  exact List.Perm.refl _
/-- Kids of another one than the cut one's parent. -/
theorem kids_other (h : WF T) {t : Tk} (ht : t ∈ T) {p : Int} (hp : p ≠ t.2.1) (hc : ¬ Cl T [t.1] p) : kidsOf (stay T [t.1]) p = kidsOf T p := by
  rw [kidsOf_stay, List.filter_eq_self]
  intro k hk
  obtain ⟨u, hu, rfl, hup⟩ := mem_kidsOf.1 hk
  refine decide_eq_true (fun hr => ?_)
  rcases ((mem_rem h _ _).1 hr).from with h1 | ⟨v, hv, e, h1⟩
  · have := h.uniq hu ht (List.mem_singleton.1 h1)
    subst this
    exact hp hup.symm
  · obtain rfl := h.uniq hv hu e
    rw [hup] at h1
    exact hc h1
theorem cl_par (h : WF T) {t : Tk} (ht : t ∈ T) : ¬ Cl T [t.1] t.2.1 := fun hc => by
  have h1 := hc.ge h
  have h2 := (h.par t ht).2
  omega
theorem kids_par (h : WF T) {t : Tk} (ht : t ∈ T) {pre post : List Int} (e : kidsOf T t.2.1 = pre ++ t.1 :: post) : kidsOf (stay T [t.1]) t.2.1 = pre ++ post ∧ t.1 ∉ pre ∧ t.1 ∉ post := by
  have hnd := kidsOf_nodup h t.2.1
  rw [e, List.nodup_append] at hnd
  obtain ⟨n1, n2, n3⟩ := hnd
  have hq1 : t.1 ∉ pre := fun hx => n3 _ hx _ List.mem_cons_self rfl
  have hq2 : t.1 ∉ post := (List.nodup_cons.1 n2).1
  have key : ∀ k, k ∈ kidsOf T t.2.1 → k ≠ t.1 → decide (k ∉ rem [t.1] T) = true := by
    intro k hk hne
    obtain ⟨u, hu, rfl, hup⟩ := mem_kidsOf.1 hk
    refine decide_eq_true (fun hr => ?_)
    rcases ((mem_rem h _ _).1 hr).from with h1 | ⟨v, hv, e, h1⟩
    · exact hne (List.mem_singleton.1 h1)
    · obtain rfl := h.uniq hv hu e
      rw [hup] at h1
      exact cl_par h ht h1
  rw [e] at key
  refine ⟨?_, hq1, hq2⟩
  rw [kidsOf_stay, e, List.filter_append, List.filter_cons_of_neg (by
    simp only [decide_eq_true_eq, Decidable.not_not]
    exact rem_sub _ _ _ List.mem_cons_self)]
  congr 1
  · rw [List.filter_eq_self]
    exact fun k hk => key k (List.mem_append_left _ hk) (fun e => hq1 (e ▸ hk))
  · rw [List.filter_eq_self]
    exact fun k hk => key k (List.mem_append_right _ (List.mem_cons_of_mem _ hk)) (fun e => hq2 (e ▸ hk))
theorem lk_gone_in {l : List Int} {x : Int} (h : x ∈ l) : lk (gone N l) x = none := by
  cases hl : lk (gone N l) x with
  | none => rfl
  | some nd =>
    have h1 := (List.mem_filter.1 (lk_some hl)).2
    exact absurd h (of_decide_eq_true h1)
theorem good_node (h : Good T N nx) {t : Tk} (ht : t ∈ T) {out pre post : List Int} {v : Value} (hm : ∀ x, x ∈ out ↔ Cl T [t.1] x ∧ x ≠ t.1) (e : kidsOf T t.2.1 = pre ++ t.1 :: post) : Good (stay T [t.1]) (setK (gone N (out ++ [t.1])) t.2.1 v (pre ++ post)) nx := by
  have hm2 : ∀ x, x ∈ out ++ [t.1] ↔ Cl T [t.1] x := by
    intro x
    rw [List.mem_append, hm, List.mem_singleton]
    constructor
    · rintro (h1 | rfl)
      · exact h1.1
      · exact .base _ List.mem_cons_self
    · intro h1
      by_cases e : x = t.1
      · exact .inr e
      · exact .inl ⟨h1, e⟩
  obtain ⟨kp, _, _⟩ := kids_par h.wf ht e
  have h0 : (0 : Int) ∉ out ++ [t.1] := fun hx => by
    have h1 := ((hm2 0).1 hx).ge h.wf
    have h2 := h.wf.pos t ht
    omega
  have at' : ∀ p nd, lk N p = some nd → p ∉ out ++ [t.1] → nd.kids = kidsOf T p → ∃ nd', lk (setK (gone N (out ++ [t.1])) t.2.1 v (pre ++ post)) p = some nd' ∧ nd'.par = nd.par ∧ nd'.fact = nd.fact ∧ nd'.kids = kidsOf (stay T [t.1]) p := by
    intro p nd hl hp hk
    have hg := (lk_gone hp).trans hl
    by_cases e2 : p = t.2.1
    · subst e2
      exact ⟨_, lk_setK_self hg, rfl, rfl, kp.symm⟩
    · exact ⟨nd, (lk_setK e2).trans hg, rfl, rfl, hk.trans (kids_other h.wf ht e2 (fun hc => hp ((hm2 p).2 hc))).symm⟩
  refine ⟨wf_stay h.wf _, fun u hu => h.lim u ((mem_stay h.wf).1 hu).1, ?_, ?_, fun u hu => ?_⟩
  · rw [setK_keys, gone_keys]
    refine (h.perm.filter _).trans ?_
    rw [List.filter_cons_of_pos (by simpa using h0), List.filter_map]
    unfold stay
    refine List.Perm.of_eq ?_
    congr 2
    refine List.filter_congr (fun u _ => ?_)
    simp only [Function.comp_apply, decide_eq_decide]
    rw [hm2, mem_rem h.wf]
  · obtain ⟨nd, h1, h2⟩ := h.root
    obtain ⟨nd', a1, _, _, a4⟩ := at' 0 nd h1 h0 h2
    exact ⟨nd', a1, a4⟩
  · obtain ⟨h1, h2⟩ := (mem_stay h.wf).1 hu
    obtain ⟨nd, b1, b2, b3, b4⟩ := h.node u h1
    obtain ⟨nd', a1, a2, a3, a4⟩ := at' u.1 nd b1 (fun hx => h2 ((hm2 _).1 hx)) b4
    exact ⟨nd', a1, a2.trans b2, a3.trans b3, a4⟩
end
end Go.Proofs.Ytonflknnlfffhaa
