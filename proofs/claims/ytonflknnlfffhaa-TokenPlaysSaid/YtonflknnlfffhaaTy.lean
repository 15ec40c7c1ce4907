/- The plain law: tokens as a row; what goes with what. -/
import Derived.Test.YtonflknnlfffhaaTd
namespace Go.Proofs.Ytonflknnlfffhaa
open Go.RowKit Go.Lib KP MR RW
/-- A token: its number, its parent's, its fact. -/
abbrev Tk := Int × Int × Int
def kidsOf (T : List Tk) (id : Int) : List Int := (T.filter fun t => decide (t.2.1 = id)).map (·.1)
/-- A row of tokens as it comes to be. -/
structure WF (T : List Tk) : Prop where
  ris : T.Pairwise fun a b => a.1 < b.1
  pos : ∀ t ∈ T, 1 ≤ t.1
  par : ∀ t ∈ T, (t.2.1 = 0 ∨ ∃ u ∈ T, u.1 = t.2.1) ∧ t.2.1 < t.1
/-- What goes when G goes. -/
inductive Cl (T : List Tk) (G : List Int) : Int → Prop
  | base (x : Int) : x ∈ G → Cl T G x
  | step (t : Tk) : t ∈ T → Cl T G t.2.1 → Cl T G t.1
theorem Cl.least {T : List Tk} {G : List Int} {S : Int → Prop} (h0 : ∀ x ∈ G, S x) (h1 : ∀ t ∈ T, S t.2.1 → S t.1) {x : Int} (h : Cl T G x) : S x := by
  induction h with
  | base x hx => exact h0 x hx
  | step t ht _ ih => exact h1 t ht ih
theorem Cl.mono {T T' : List Tk} {G G' : List Int} (hT : ∀ t ∈ T, t ∈ T') (hG : ∀ x ∈ G, Cl T' G' x) {x : Int} (h : Cl T G x) : Cl T' G' x := h.least hG (fun t ht hx => .step t (hT t ht) hx)
/-- The document's own way. -/
def rem : List Int → List Tk → List Int
  | G, [] => G
  | G, t :: l => if t.1 ∈ G ∨ t.2.1 ∈ G then rem (G ++ [t.1]) l else rem G l
theorem rem_sub : ∀ (l : List Tk) (G : List Int), ∀ x ∈ G, x ∈ rem G l
  | [], _, _, h => h
  | t :: l, G, x, h => by
    unfold rem
    split
    · exact rem_sub l _ x (List.mem_append_left _ h)
    · exact rem_sub l _ x h
theorem rem_from : ∀ (l : List Tk) (G : List Int), ∀ x ∈ rem G l, x ∈ G ∨ ∃ t ∈ l, t.1 = x
  | [], _, _, h => .inl h
  | t :: l, G, x, h => by
    unfold rem at h
    split at h
    · rcases rem_from l _ x h with h1 | ⟨u, hu, e⟩
      · rcases List.mem_append.1 h1 with h2 | h2
        · exact .inl h2
        · exact .inr ⟨t, List.mem_cons_self, (List.mem_singleton.1 h2).symm⟩
      · exact .inr ⟨u, List.mem_cons_of_mem _ hu, e⟩
    · rcases rem_from l _ x h with h1 | ⟨u, hu, e⟩
      · exact .inl h1
      · exact .inr ⟨u, List.mem_cons_of_mem _ hu, e⟩
theorem rem_cl (T : List Tk) : ∀ (l : List Tk) (G G0 : List Int), (∀ t ∈ l, t ∈ T) → (∀ x ∈ G, Cl T G0 x) → ∀ x ∈ rem G l, Cl T G0 x
  | [], _, _, _, h, x, hx => h x hx
  | t :: l, G, G0, hl, h, x, hx => by
    unfold rem at hx
    split at hx
    · rename_i hc
      refine rem_cl T l _ G0 (fun u hu => hl u (List.mem_cons_of_mem _ hu)) (fun y hy => ?_) x hx
      rcases List.mem_append.1 hy with h1 | h1
      · exact h y h1
      · rw [List.mem_singleton.1 h1]
        rcases hc with hc | hc
        · exact h _ hc
        · exact .step t (hl t List.mem_cons_self) (h _ hc)
    · exact rem_cl T l G G0 (fun u hu => hl u (List.mem_cons_of_mem _ hu)) h x hx
/-- In a rising row a later one is not an earlier one's parent. -/
theorem rem_closed : ∀ (l : List Tk) (G : List Int), l.Pairwise (fun a b => a.1 < b.1) → (∀ t ∈ l, t.2.1 < t.1) → ∀ t ∈ l, t.2.1 ∈ rem G l → t.1 ∈ rem G l
  | [], _, _, _, _, h, _ => by cases h
  | u :: l, G, hr, hp, t, ht, hx => by
    have hr' := List.pairwise_cons.1 hr
    rcases List.mem_cons.1 ht with rfl | ht
    · unfold rem at hx ⊢
      by_cases hc : t.1 ∈ G ∨ t.2.1 ∈ G
      · rw [if_pos hc] at hx ⊢
        exact rem_sub l _ _ (List.mem_append_right _ List.mem_cons_self)
      · rw [if_neg hc] at hx
        exfalso
        rcases rem_from l G _ hx with h1 | ⟨v, hv, e⟩
        · exact hc (.inr h1)
        · have h1 := hr'.1 v hv
          have h2 := hp t List.mem_cons_self
          omega
    · unfold rem at hx ⊢
      split
      · rename_i hc
        rw [if_pos hc] at hx
        exact rem_closed l _ hr'.2 (fun t ht => hp t (List.mem_cons_of_mem _ ht)) t ht hx
      · rename_i hc
        rw [if_neg hc] at hx
        exact rem_closed l _ hr'.2 (fun t ht => hp t (List.mem_cons_of_mem _ ht)) t ht hx
theorem mem_rem {T : List Tk} (h : WF T) (G : List Int) (x : Int) : x ∈ rem G T ↔ Cl T G x :=
  ⟨rem_cl T T G G (fun _ h => h) (fun y hy => .base y hy) x, fun hx => hx.least (rem_sub T G) (rem_closed T G h.ris (fun t ht => (h.par t ht).2))⟩
/-- What stays; the numbers of what goes. -/
def stay (T : List Tk) (G : List Int) : List Tk := T.filter fun t => decide (t.1 ∉ rem G T)
def goes (T : List Tk) (G : List Int) : List Int := (T.filter fun t => decide (t.1 ∈ rem G T)).map (·.1)
theorem Cl.ge {T : List Tk} (h : WF T) {k x : Int} (hx : Cl T [k] x) : k ≤ x := hx.least (S := fun x => k ≤ x) (fun y hy => by rw [List.mem_singleton.1 hy]; exact Int.le_refl _) (fun t ht hy => by have := (h.par t ht).2; omega)
theorem WF.uniq {T : List Tk} (h : WF T) {t u : Tk} (ht : t ∈ T) (hu : u ∈ T) (e : t.1 = u.1) : t = u := by
  obtain ⟨i, hi, rfl⟩ := List.getElem_of_mem ht
  obtain ⟨j, hj, rfl⟩ := List.getElem_of_mem hu
  rcases Nat.lt_trichotomy i j with h1 | h1 | h1
  · have := List.pairwise_iff_getElem.1 h.ris i j hi hj h1; omega
  · subst h1; rfl
  · have := List.pairwise_iff_getElem.1 h.ris j i hj hi h1; omega
theorem WF.ids_nodup {T : List Tk} (h : WF T) : (T.map (·.1)).Nodup := by
  rw [List.Nodup, List.pairwise_map]
  exact h.ris.imp (fun h => Int.ne_of_lt h)
theorem WF.ids_rise {T : List Tk} (h : WF T) (f : Tk → Bool) : ((T.filter f).map (·.1)).Pairwise (· < ·) := by
  rw [List.pairwise_map]
  exact (h.ris.sublist List.filter_sublist)
theorem rise_of {l l' : List Int} (hp : l.Perm l') (hs : l'.Pairwise (· < ·)) : rise l = l' := by
  have h1 : rise l = rise l' := Go.mergeSort_of_perm_i hp
  rw [h1]
  refine List.mergeSort_of_pairwise ?_
  exact hs.imp (fun h => by simp; omega)
theorem mem_kidsOf {T : List Tk} {id k : Int} : k ∈ kidsOf T id ↔ ∃ t ∈ T, t.1 = k ∧ t.2.1 = id := by
  unfold kidsOf
  rw [List.mem_map]
  constructor
  · rintro ⟨t, ht, e⟩
    obtain ⟨h1, h2⟩ := List.mem_filter.1 ht
    exact ⟨t, h1, e, of_decide_eq_true h2⟩
  · rintro ⟨t, ht, e, e2⟩
    exact ⟨t, List.mem_filter.2 ⟨ht, decide_eq_true e2⟩, e⟩
theorem kidsOf_nodup {T : List Tk} (h : WF T) (id : Int) : (kidsOf T id).Nodup := (h.ids_rise _).imp (fun h => Int.ne_of_lt h)
/-- Kids of one parent share nothing. -/
theorem Cl.disj {T : List Tk} (h : WF T) {t u : Tk} (ht : t ∈ T) (hu : u ∈ T) (hp : t.2.1 = u.2.1) (hne : t.1 ≠ u.1) {x : Int} (h1 : Cl T [t.1] x) (h2 : Cl T [u.1] x) : False := by
  induction h1 with
  | base x hx =>
    rw [List.mem_singleton] at hx
    subst hx
    have : t.1 ≠ t.2.1 := by have := (h.par t ht).2; omega
    generalize hy : t.1 = y at h2
    cases h2 with
    | base _ h3 => exact hne (hy.trans (List.mem_singleton.1 h3))
    | step v hv h3 =>
      obtain rfl := h.uniq hv ht hy.symm
      have h4 := h3.ge h
      have h5 := (h.par u hu).2
      omega
  | step v hv h3 ih =>
    generalize hy : v.1 = y at h2
    cases h2 with
    | base _ h4 =>
      have e := hy.trans (List.mem_singleton.1 h4)
      obtain rfl := h.uniq hv hu e
      have h5 := h3.ge h
      have h6 := (h.par t ht).2
      omega
    | step v' hv' h4 =>
      obtain rfl := h.uniq hv' hv hy.symm
      exact ih h4
/-- The nodes are those of the row. -/
structure Good (T : List Tk) (N : Tab) (nx : Int) : Prop where
  wf : WF T
  lim : ∀ t ∈ T, t.1 < nx
  perm : (N.map (·.1)).Perm (0 :: T.map (·.1))
  root : ∃ nd, lk N 0 = some nd ∧ nd.kids = kidsOf T 0
  node : ∀ t ∈ T, ∃ nd, lk N t.1 = some nd ∧ nd.par = t.2.1 ∧ nd.fact = t.2.2 ∧ nd.kids = kidsOf T t.1
theorem Good.at {T : List Tk} {N : Tab} {nx : Int} (h : Good T N nx) {id : Int} (hid : id = 0 ∨ ∃ t ∈ T, t.1 = id) : ∃ nd, lk N id = some nd ∧ nd.kids = kidsOf T id := by
  rcases hid with rfl | ⟨t, ht, rfl⟩
  · exact h.root
  · obtain ⟨nd, h1, _, _, h2⟩ := h.node t ht
    exact ⟨nd, h1, h2⟩
theorem Good.kids {T : List Tk} {N : Tab} {nx : Int} (h : Good T N nx) (id : Int) : ∀ (n : Nat), (∀ t ∈ T, t.2.1 = id → ∃ out, For N (kidsOf T t.1) out ∧ (∀ x, x ∈ out ↔ Cl T [t.1] x ∧ x ≠ t.1) ∧ (t.1 :: out).Nodup) → ∀ ks : List Int, ks.length = n → ks.Nodup → (∀ k ∈ ks, k ∈ kidsOf T id) → ∃ out, For N ks out ∧ (∀ x, x ∈ out ↔ ∃ k ∈ ks, Cl T [k] x) ∧ out.Nodup := by
  intro n
  induction n with
  | zero =>
    intro _ ks hl _ _
    obtain rfl := List.eq_nil_of_length_eq_zero hl
    exact ⟨[], .nil, by simp, List.nodup_nil⟩
  | succ n ih =>
    intro hk ks hl hnd hks
    match ks, hl, hnd, hks with
    | k :: ks, hl, hnd, hks =>
      obtain ⟨n1, n2⟩ := List.nodup_cons.1 hnd
      obtain ⟨o2, f2, m2, d2⟩ := ih hk ks (by simpa using hl) n2 (fun k hk => hks k (List.mem_cons_of_mem _ hk))
      obtain ⟨t, ht, rfl, hp⟩ := mem_kidsOf.1 (hks k List.mem_cons_self)
      obtain ⟨o1, f1, m1, d1⟩ := hk t ht hp
      obtain ⟨nd, e1, e2⟩ := h.at (.inr ⟨t, ht, rfl⟩)
      refine ⟨t.1 :: (o1 ++ o2), .cons t.1 nd ks o1 o2 e1 (by rw [e2]; exact f1) f2, fun x => ?_, ?_⟩
      · rw [List.mem_cons, List.mem_append, m1, m2]
        constructor
        · rintro (rfl | ⟨h1, _⟩ | ⟨k, hk, h1⟩)
          · exact ⟨_, List.mem_cons_self, .base _ List.mem_cons_self⟩
          · exact ⟨_, List.mem_cons_self, h1⟩
          · exact ⟨k, List.mem_cons_of_mem _ hk, h1⟩
        · rintro ⟨k, hk, h1⟩
          rcases List.mem_cons.1 hk with rfl | hk
          · by_cases e : x = t.1
            · exact .inl e
            · exact .inr (.inl ⟨h1, e⟩)
          · exact .inr (.inr ⟨k, hk, h1⟩)
      · rw [← List.cons_append, List.nodup_append]
        refine ⟨d1, d2, fun x hx y hy e => ?_⟩
        subst e
        have h1 : Cl T [t.1] x := by
          rcases List.mem_cons.1 hx with rfl | hx
          · exact .base _ List.mem_cons_self
          · exact ((m1 x).1 hx).1
        obtain ⟨k, hk, h2⟩ := (m2 x).1 hy
        obtain ⟨u, hu, rfl, hpu⟩ := mem_kidsOf.1 (hks k (List.mem_cons_of_mem _ hk))
        exact h1.disj h.wf ht hu (hp.trans hpu.symm) (fun e => n1 (e ▸ hk)) h2
theorem Good.sub {T : List Tk} {N : Tab} {nx : Int} (h : Good T N nx) : ∀ (n : Nat) (id : Int), (nx - id).toNat < n → 0 ≤ id → ∃ out, For N (kidsOf T id) out ∧ (∀ x, x ∈ out ↔ Cl T [id] x ∧ x ≠ id) ∧ (id :: out).Nodup := by
  intro n
  induction n with
  | zero => intro id h; omega
  | succ n ih =>
    intro id hn h0
    have hk : ∀ t ∈ T, t.2.1 = id → ∃ out, For N (kidsOf T t.1) out ∧ (∀ x, x ∈ out ↔ Cl T [t.1] x ∧ x ≠ t.1) ∧ (t.1 :: out).Nodup := fun t ht hp => ih t.1 (by
      have h1 := (h.wf.par t ht).2
      have h2 := h.lim t ht
      omega) (by have := h.wf.pos t ht; omega)
    obtain ⟨out, f, m, d⟩ := h.kids id _ hk (kidsOf T id) rfl (kidsOf_nodup h.wf id) (fun k hk => hk)
    have m' : ∀ x, x ∈ out ↔ Cl T [id] x ∧ x ≠ id := by
      intro x
      rw [m]
      constructor
      · rintro ⟨k, hk, h1⟩
        obtain ⟨t, ht, rfl, hp⟩ := mem_kidsOf.1 hk
        refine ⟨h1.mono (fun t h => h) (fun y hy => ?_), ?_⟩
        · rw [List.mem_singleton.1 hy]
          exact .step t ht (by rw [hp]; exact .base _ List.mem_cons_self)
        · have h2 := h1.ge h.wf
          have h3 := (h.wf.par t ht).2
          omega
      · rintro ⟨h1, hne⟩
        induction h1 with
        | base x hx => exact absurd (List.mem_singleton.1 hx) hne
        | step t ht h2 ih2 =>
          by_cases e : t.2.1 = id
          · exact ⟨t.1, mem_kidsOf.2 ⟨t, ht, rfl, e⟩, .base _ List.mem_cons_self⟩
          · obtain ⟨k, hk, h3⟩ := ih2 e
            exact ⟨k, hk, .step t ht h3⟩
    exact ⟨out, f, m', List.nodup_cons.2 ⟨fun hx => ((m' id).1 hx).2 rfl, d⟩⟩
end Go.Proofs.Ytonflknnlfffhaa
