/- token.Tree as a row of tokens: Add, Kids, Path. -/
import Derived.Test.YtonflknnlfffhaaTa
namespace Go.Proofs.Ytonflknnlfffhaa
open Go.RowKit Go.Lib KP MR RW
section
variable {T : List Tk} {N : Tab} {nx : Int}
theorem lk_snoc {A : Tab} {x : Int} {nd : Nd} {y : Int} (h : y ≠ x) : lk (A ++ [(x, nd)]) y = lk A y := by
  unfold lk
  rw [List.find?_append]
  cases h1 : A.find? (fun p => decide (p.1 = y)) with
  | some p => rfl
  | none => rw [List.find?_cons_of_neg (by simp [Ne.symm h])]; rfl
theorem lk_snoc_self {A : Tab} {x : Int} {nd : Nd} (h : lk A x = none) : lk (A ++ [(x, nd)]) x = some nd := by
  unfold lk at *
  rw [Option.map_eq_none_iff] at h
  rw [List.find?_append, h, List.find?_cons_of_pos (by simp)]
  rfl
theorem kidsOf_snoc (T : List Tk) (t : Tk) (q : Int) : kidsOf (T ++ [t]) q = kidsOf T q ++ (if t.2.1 = q then [t.1] else []) := by
  unfold kidsOf
  rw [List.filter_append, List.map_append]
  congr 1
  by_cases e : t.2.1 = q
  · rw [List.filter_cons_of_pos (by simp [e]), if_pos e]; rfl
  · rw [List.filter_cons_of_neg (by simp [e]), if_neg e]; rfl
theorem good_new (h : Good T N nx) (hnx : 1 ≤ nx) : lk N nx = none ∧ kidsOf T nx = [] :=
  ⟨h.none (by omega) (fun t ht e => by have := h.lim t ht; omega), List.eq_nil_iff_forall_not_mem.2 (fun k hk => by
    obtain ⟨t, ht, _, e⟩ := mem_kidsOf.1 hk
    have h1 := (h.wf.par t ht).2
    have h2 := h.lim t ht
    omega)⟩
theorem good_add (h : Good T N nx) (hnx : 1 ≤ nx) {p : Int} (hp : p = 0 ∨ ∃ t ∈ T, t.1 = p) (f : Int) (v : Value) (b : Nat) : Good (T ++ [(nx, p, f)]) (setK N p v (kidsOf T p ++ [nx]) ++ [(nx, ⟨b, p, f, .slice none 0 0, []⟩)]) (nx + 1) := by
  obtain ⟨n1, n2⟩ := good_new h hnx
  have hpn : p < nx := by
    rcases hp with e | ⟨t, ht, e⟩
    · omega
    · have := h.lim t ht; omega
  have at' : ∀ q nd, lk N q = some nd → q < nx → nd.kids = kidsOf T q → ∃ nd', lk (setK N p v (kidsOf T p ++ [nx]) ++ [(nx, ⟨b, p, f, .slice none 0 0, []⟩)]) q = some nd' ∧ nd'.par = nd.par ∧ nd'.fact = nd.fact ∧ nd'.kids = kidsOf (T ++ [(nx, p, f)]) q := by
    intro q nd hl hq hk
    rw [lk_snoc (by omega), kidsOf_snoc]
    by_cases e : q = p
    · subst e
      exact ⟨_, lk_setK_self hl, rfl, rfl, by simp⟩
    · refine ⟨nd, (lk_setK e).trans hl, rfl, rfl, ?_⟩
      rw [if_neg (fun e2 => e e2.symm), List.append_nil]
      exact hk
  refine ⟨⟨?_, ?_, ?_⟩, ?_, ?_, ?_, ?_⟩
  · refine List.pairwise_append.2 ⟨h.wf.ris, List.pairwise_singleton _ _, fun t ht u hu => ?_⟩
    obtain rfl := List.mem_singleton.1 hu
    exact h.lim t ht
  · intro t ht
    rcases List.mem_append.1 ht with ht | ht
    · exact h.wf.pos t ht
    · obtain rfl := List.mem_singleton.1 ht
      exact hnx
  · intro t ht
    rcases List.mem_append.1 ht with ht | ht
    · obtain ⟨h1, h2⟩ := h.wf.par t ht
      exact ⟨h1.imp id (fun ⟨u, hu, e⟩ => ⟨u, List.mem_append_left _ hu, e⟩), h2⟩
    · obtain rfl := List.mem_singleton.1 ht
      exact ⟨hp.imp id (fun ⟨u, hu, e⟩ => ⟨u, List.mem_append_left _ hu, e⟩), hpn⟩
  · intro t ht
    rcases List.mem_append.1 ht with ht | ht
    · have := h.lim t ht; omega
    · obtain rfl := List.mem_singleton.1 ht
      show nx < nx + 1
      omega
  · rw [List.map_append, setK_keys, List.map_append]
    exact h.perm.append_right _
  · obtain ⟨nd, h1, h2⟩ := h.root
    obtain ⟨nd', a1, _, _, a4⟩ := at' 0 nd h1 (by omega) h2
    exact ⟨nd', a1, a4⟩
  · intro t ht
    rcases List.mem_append.1 ht with ht | ht
    · obtain ⟨nd, b1, b2, b3, b4⟩ := h.node t ht
      obtain ⟨nd', a1, a2, a3, a4⟩ := at' t.1 nd b1 (h.lim t ht) b4
      exact ⟨nd', a1, a2.trans b2, a3.trans b3, a4⟩
    · obtain rfl := List.mem_singleton.1 ht
      refine ⟨_, lk_snoc_self ((lk_setK (by show nx ≠ p; omega)).trans n1), rfl, rfl, ?_⟩
      rw [kidsOf_snoc]
      show [] = kidsOf T nx ++ if p = nx then [nx] else []
      rw [n2, if_neg (by omega)]
      rfl
end
section
variable {B : Nat} {w0 W W' : World} {F : Nat → Prop} {g : Nat} {T : List Tk} {nx : Int}
theorem add_t_no (h : TreeT B w0 F g T nx W) (p f : Int) (h0 : p ≠ 0) (hn : ∀ t ∈ T, t.1 ≠ p) : Calls Try.prog 9 #[.pointer (some ⟨g, 0, none⟩), .int .i64 p, .int .i64 f] W fun e w' => e = .returned (.tuple #[.int .i64 0, .int .i64 5]) ∧ W = w' := by
  obtain ⟨m, N, h1, h2, _⟩ := h
  exact add_no h1 p f (h2.none h0 hn)
theorem add_t (h : TreeT B w0 F g T nx W) (p f : Int) (hp : p = 0 ∨ ∃ t ∈ T, t.1 = p) (hT : T.length ≤ 800) (hnx : nx ≤ 100000) : Calls Try.prog 9 #[.pointer (some ⟨g, 0, none⟩), .int .i64 p, .int .i64 f] W fun e w' =>
    e = .returned (.tuple #[.int .i64 nx, .int .i64 0]) ∧ ∃ F', TreeT B w0 F' g (T ++ [(nx, p, f)]) (nx + 1) w' ∧ (∀ k, F k → F' k) ∧ (∀ k, F' k → F k ∨ W.heap.size ≤ k) ∧ Keep F W w' := by
  have hs := h.size
  have hlt := h.lt
  have hn1 := h.nx1
  obtain ⟨m, N, h1, h2, h3⟩ := h
  obtain ⟨nd, e1, e2⟩ := h2.at hp
  refine (add_yes h1 p f e1 (by omega) (good_new h2 hn1).1 (by omega) (by rw [h2.count]; omega) (by
    rw [e2]
    unfold kidsOf
    rw [List.length_map]
    exact Nat.le_trans (List.length_filter_le _ _) (by omega))).mono ?_
  rintro e w' ⟨rfl, F', v', b, ht, hf1, hf2, hk⟩
  rw [e2] at ht
  exact ⟨rfl, F', ⟨m, _, by rw [show nx + 1 - 1 = nx by omega]; exact ht, good_add h2 hn1 hp f v' b, h3.trans (hk.below hs (fun k hk => (hlt k hk).1))⟩, hf1, hf2, hk⟩
set_option maxRecDepth 100000 in
set_option maxHeartbeats 4000000 in
theorem kids_no (h : TreeT B w0 F g T nx W) (p : Int) (h0 : p ≠ 0) (hn : ∀ t ∈ T, t.1 ≠ p) : Calls Try.prog 18 #[.pointer (some ⟨g, 0, none⟩), .int .i64 p] W fun e w' => e = .returned (.slice none 0 0) ∧ W = w' := by
  obtain ⟨m, N, h1, h2, _⟩ := h
  have hc0 := block_cell (j := 0) h1.blk rfl
  have hlk := h1.look_no (h2.none h0 hn)
  clear h1 h2 hn h0
  go_enter Try.func18, Try.ntmps18
  go_wp2_with fail
  go_ret
  exact ⟨rfl, rfl⟩
set_option maxRecDepth 100000 in
set_option maxHeartbeats 4000000 in
theorem kids_yes (h : TreeT B w0 F g T nx W) (p : Int) (hp : p = 0 ∨ ∃ t ∈ T, t.1 = p) : Calls Try.prog 18 #[.pointer (some ⟨g, 0, none⟩), .int .i64 p] W fun e w' => ∃ v, e = .returned v ∧ OwnI w' W.heap.size v (kidsOf T p) ∧ Below W.heap.size W w' := by
  obtain ⟨m, N, h1, h2, _⟩ := h
  obtain ⟨nd, e1, e2⟩ := h2.at hp
  have hc0 := block_cell (j := 0) h1.blk rfl
  have hlk := h1.look_yes e1
  have hmem := lk_some e1
  have hc2 := block_cell (j := 2) (h1.node _ hmem) rfl
  dsimp only at hc2
  have HC := Lib.hid (clone_c (h1.own _ hmem) (by have := h1.kf _ hmem; omega))
  dsimp only at HC
  rw [e2] at HC
  clear h1 h2 hp e1 e2 hmem
  generalize nd.kv = kv at *
  go_enter Try.func18, Try.ntmps18
  go_wp2_with fail
  refine HC.out.mono ?_
  rintro e w1 ⟨v1, rfl, ho1, hb1⟩
  have O1 := Lib.hid ho1
  have B1 := Lib.hid hb1
  clear ho1 hb1
  go_wp2_with fail
  refine (clip_c O1.out).mono ?_
  rintro e w2 ⟨v2, rfl, ho2, hv2, rfl⟩
  go_wp2_with fail
  go_ret
  exact ⟨v2, rfl, ho2, B1.out⟩
end
/-- The facts from a token up. -/
inductive Up (T : List Tk) : Int → List Int → Prop
  | root : Up T 0 []
  | node (t : Tk) (l : List Int) : t ∈ T → Up T t.2.1 l → Up T t.1 (t.2.2 :: l)
theorem Up.uniq {T : List Tk} (h : WF T) {id : Int} {l l' : List Int} (h1 : Up T id l) (h2 : Up T id l') : l = l' := by
  induction h1 generalizing l' with
  | root =>
    generalize hz : (0 : Int) = z at h2
    cases h2 with
    | root => rfl
    | node t l ht _ => have := h.pos t ht; omega
  | node t l ht _ ih =>
    generalize hz : t.1 = z at h2
    cases h2 with
    | root => have := h.pos t ht; omega
    | node u l' hu h3 =>
      obtain rfl := h.uniq hu ht hz.symm
      rw [ih h3]
theorem Up.of {T : List Tk} (h : WF T) : ∀ (n : Nat) (id : Int), id.toNat < n → (id = 0 ∨ ∃ t ∈ T, t.1 = id) → ∃ l, Up T id l ∧ l.length ≤ id.toNat := by
  intro n
  induction n with
  | zero => intro id h; omega
  | succ n ih =>
    rintro id hn (rfl | ⟨t, ht, rfl⟩)
    · exact ⟨[], .root, Nat.zero_le _⟩
    · have h1 := (h.par t ht).2
      have h2 := h.pos t ht
      have h3 : 0 ≤ t.2.1 := by
        rcases (h.par t ht).1 with e | ⟨u, hu, e⟩
        · omega
        · have := h.pos u hu; omega
      obtain ⟨l, hl, hl2⟩ := ih t.2.1 (by omega) (h.par t ht).1
      exact ⟨t.2.2 :: l, .node t l ht hl, by simp; omega⟩
theorem Up.step {T : List Tk} {id : Int} {l : List Int} (hu : Up T id l) (h0 : id ≠ 0) : ∃ t ∈ T, t.1 = id ∧ ∃ l', l = t.2.2 :: l' ∧ Up T t.2.1 l' := by
  cases hu with
  | root => exact absurd rfl h0
  | node t l ht h1 => exact ⟨t, ht, rfl, l, rfl, h1⟩
end Go.Proofs.Ytonflknnlfffhaa
