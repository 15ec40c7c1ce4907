/- token.Tree as a row of tokens: New, Len, Cut, Kids. -/
import Derived.Test.YtonflknnlfffhaaTz
namespace Go.Proofs.Ytonflknnlfffhaa
open Go.RowKit Go.Lib KP MR RW
/-- Block g is a tree that holds just the tokens T. -/
def TreeT (B : Nat) (w0 : World) (F : Nat → Prop) (g : Nat) (T : List Tk) (nx : Int) (W : World) : Prop := ∃ m N, TM B F g m N (nx - 1) W ∧ Good T N nx ∧ Below B w0 W
section
variable {B : Nat} {w0 W W' : World} {F : Nat → Prop} {g : Nat} {T : List Tk} {nx : Int}
theorem TreeT.wf (h : TreeT B w0 F g T nx W) : WF T := by obtain ⟨_, _, _, h, _⟩ := h; exact h.wf
theorem TreeT.lt (h : TreeT B w0 F g T nx W) : ∀ k, F k → B ≤ k ∧ k < W.heap.size := by obtain ⟨_, _, h, _⟩ := h; exact h.lt
theorem TreeT.below (h : TreeT B w0 F g T nx W) : Below B w0 W := by obtain ⟨_, _, _, _, h⟩ := h; exact h
theorem TreeT.size (h : TreeT B w0 F g T nx W) : B ≤ W.heap.size := by
  obtain ⟨_, _, h, _⟩ := h
  have := h.lt g h.Fg
  omega
theorem TreeT.lim (h : TreeT B w0 F g T nx W) : ∀ t ∈ T, t.1 < nx := by obtain ⟨_, _, _, h, _⟩ := h; exact h.lim
theorem TreeT.nx1 (h : TreeT B w0 F g T nx W) : 1 ≤ nx := by obtain ⟨_, _, h, _⟩ := h; have := h.last1; omega
theorem TreeT.keep {G : Nat → Prop} (h : TreeT B w0 F g T nx W) (hk : Keep G W W') (hd : ∀ k, F k → ¬ G k) (hG : ∀ k, G k → B ≤ k) : TreeT B w0 F g T nx W' := by
  have hs := h.size
  obtain ⟨m, N, h1, h2, h3⟩ := h
  exact ⟨m, N, h1.keep hk hd, h2, h3.trans (hk.below hs hG)⟩
theorem TreeT.grow (h : TreeT B w0 F g T nx W) (hb : Below W.heap.size W W') : TreeT B w0 F g T nx W' := h.keep (Keep.of_below hb (fun _ => False)) (fun _ _ h => h) (fun _ h => h.elim)
theorem Good.count {N : Tab} (h : Good T N nx) : N.length = T.length + 1 := by
  have := h.perm.length_eq
  simpa using this
theorem new_t (w : World) : Calls Try.prog 8 #[] w fun e w' => ∃ g F, e = .returned (.pointer (some ⟨g, 0, none⟩)) ∧ TreeT w.heap.size w F g [] 1 w' ∧ Below w.heap.size w w' := by
  refine (new_c w).mono ?_
  rintro e w' ⟨g, m, b, F, rfl, hT, hb⟩
  exact ⟨g, F, rfl, ⟨m, _, hT, ⟨wf_nil, (fun _ h => by cases h), List.Perm.refl _, ⟨_, rfl, rfl⟩, (fun _ h => by cases h)⟩, hb⟩, hb⟩
theorem len_t (h : TreeT B w0 F g T nx W) : Calls Try.prog 15 #[.pointer (some ⟨g, 0, none⟩)] W fun e w' => e = .returned (.int .i64 T.length) ∧ W = w' := by
  obtain ⟨m, N, h1, h2, _⟩ := h
  refine (len_c h1).mono ?_
  rintro e w' ⟨rfl, rfl⟩
  exact ⟨ret_int (by have := h2.count; omega), rfl⟩
/-- What goes is rising. -/
theorem rise_out {N : Tab} (h : Good T N nx) {t : Tk} (ht : t ∈ T) {out : List Int} (hm : ∀ x, x ∈ out ↔ Cl T [t.1] x ∧ x ≠ t.1) (hn : (t.1 :: out).Nodup) : rise (out ++ [t.1]) = goes T [t.1] := by
  refine rise_goes h.wf ?_ (fun x => ?_)
  · obtain ⟨n1, n2⟩ := List.nodup_cons.1 hn
    exact List.nodup_append.2 ⟨n2, by simp, fun a ha b hb e => n1 (by rw [← List.mem_singleton.1 hb, ← e]; exact ha)⟩
  · rw [List.mem_append, hm, List.mem_singleton]
    constructor
    · rintro (⟨h1, h2⟩ | rfl)
      · refine ⟨?_, h1⟩
        rcases h1.from with h3 | ⟨u, hu, e, _⟩
        · exact absurd (List.mem_singleton.1 h3) h2
        · exact ⟨u, hu, e⟩
      · exact ⟨⟨t, ht, rfl⟩, .base _ List.mem_cons_self⟩
    · rintro ⟨_, h1⟩
      by_cases e : x = t.1
      · exact .inr e
      · exact .inl ⟨h1, e⟩
theorem out_few {N : Tab} (h : Good T N nx) {id : Int} {out : List Int} (hm : ∀ x, x ∈ out ↔ Cl T [id] x ∧ x ≠ id) (hn : (id :: out).Nodup) : out.length ≤ T.length := by
  have h1 : out ⊆ T.map (·.1) := by
    intro x hx
    obtain ⟨h1, h2⟩ := (hm x).1 hx
    rcases h1.from with h3 | ⟨u, hu, e, _⟩
    · exact absurd (List.mem_singleton.1 h3) h2
    · exact List.mem_map.2 ⟨u, hu, e⟩
  have h2 : out.Perm ((T.map (·.1)).filter fun x => decide (x ∈ out)) := (List.perm_ext_iff_of_nodup (List.nodup_cons.1 hn).2 (h.wf.ids_nodup.sublist List.filter_sublist)).2 (fun x => by
    rw [List.mem_filter, decide_eq_true_iff]
    exact ⟨fun hx => ⟨h1 hx, hx⟩, fun hx => hx.2⟩)
  have h3 := List.length_filter_le (fun x => decide (x ∈ out)) (T.map (·.1))
  rw [h2.length_eq]
  simpa using h3
theorem cut_t (h : TreeT B w0 F g T nx W) (hT : T.length ≤ 900) (id : Int) : Calls Try.prog 14 #[.pointer (some ⟨g, 0, none⟩), .int .i64 id] W fun e w' => ∃ v, e = .returned v ∧ OwnI w' W.heap.size v (goes T [id]) ∧ TreeT B w0 F g (stay T [id]) nx w' ∧ Keep F W w' := by
  have hs := h.size
  have hlt := h.lt
  obtain ⟨m, N, h1, h2, h3⟩ := h
  by_cases h0 : id = 0
  · subst h0
    obtain ⟨out, f, hm, hn⟩ := h2.sub _ 0 (Nat.lt_succ_self _) (Int.le_refl _)
    obtain ⟨nd, e1, e2⟩ := h2.root
    rw [← e2] at f
    refine (cut_root h1 e1 f hn (Nat.le_trans (out_few h2 hm hn) hT)).mono ?_
    rintro e w' ⟨v, rfl, ho, ht, hk⟩
    refine ⟨v, rfl, ?_, ⟨m, _, ht, by rw [stay_root h2.wf]; exact good_root h2 hm, h3.trans (hk.below hs (fun k hk => (hlt k hk).1))⟩, hk⟩
    have : rise out = goes T [0] := rise_goes h2.wf (List.nodup_cons.1 hn).2 (fun x => by
      rw [hm]
      constructor
      · rintro ⟨h1, h2'⟩
        refine ⟨?_, h1⟩
        rcases h1.from with h3 | ⟨u, hu, e, _⟩
        · exact absurd (List.mem_singleton.1 h3) h2'
        · exact ⟨u, hu, e⟩
      · rintro ⟨⟨t, ht, rfl⟩, hc⟩
        exact ⟨hc, by have := h2.wf.pos t ht; omega⟩)
    rw [← this]
    exact ho
  · by_cases hid : ∃ t ∈ T, t.1 = id
    · obtain ⟨t, ht, rfl⟩ := hid
      obtain ⟨out, f, hm, hn⟩ := h2.sub _ t.1 (Nat.lt_succ_self _) (by have := h2.wf.pos t ht; omega)
      obtain ⟨nd, e1, e2, e3, e4⟩ := h2.node t ht
      obtain ⟨ndp, p1, p2⟩ := h2.at (h2.wf.par t ht).1
      obtain ⟨pre, post, hpp⟩ := List.append_of_mem (mem_kidsOf.2 ⟨t, ht, rfl, rfl⟩ : t.1 ∈ kidsOf T t.2.1)
      obtain ⟨_, q1, q2⟩ := kids_par h2.wf ht hpp
      rw [← e4] at f
      rw [← e2] at p1
      refine (cut_node h1 e1 p1 (p2.trans hpp) q1 q2 f hn ?_ h0 (Nat.le_trans (out_few h2 hm hn) hT)).mono ?_
      · rw [e2]
        intro hx
        rcases List.mem_cons.1 hx with e | hx
        · have := (h2.wf.par t ht).2; omega
        · exact cl_par h2.wf ht ((hm _).1 hx).1
      · rintro e w' ⟨v, v', rfl, ho, ht', hk⟩
        rw [e2] at ht'
        rw [rise_out h2 ht hm hn] at ho
        exact ⟨v, rfl, ho, ⟨m, _, ht', good_node h2 ht hm hpp, h3.trans (hk.below hs (fun k hk => (hlt k hk).1))⟩, hk⟩
    · have hid' : ∀ t ∈ T, t.1 ≠ id := fun t ht e => hid ⟨t, ht, e⟩
      refine (cut_no h1 (h2.none h0 hid')).mono ?_
      rintro e w' ⟨rfl, hb⟩
      rw [goes_none h2.wf h0 hid', stay_none h2.wf h0 hid']
      exact ⟨_, rfl, OwnW.nil _ _ _ _, ⟨m, N, h1.grow hb, h2, h3.trans (hb.mono hs)⟩, Keep.of_below hb _⟩
end
end Go.Proofs.Ytonflknnlfffhaa
