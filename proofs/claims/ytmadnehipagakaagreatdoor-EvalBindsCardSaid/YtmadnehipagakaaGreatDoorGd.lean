/- Expressions as trees, in memory; what the evaluator answers, told plainly. -/
import Derived.Test.YtmadnehipagakaaGreatDoorGc
namespace Go.Proofs.YtmadnehipagakaaGreatDoor
open Go.RowKit Go.Lib Go.Sort Go.Shelf KP
theorem Tab.keep {F : Nat → Prop} {w w' : World} (h : Tab w) (hk : Keep F w w') (hF : ∀ g, Tryz.prog.globalNamed "internal/strconv.uint64pow10" = some g → ¬ F g) : Tab w' := by
  obtain ⟨g, hg⟩ := tab_global
  have hlt := h.lt g hg
  unfold Tab TabIs World.var? at h ⊢
  rw [hg] at h ⊢
  simp only [Option.bind_some] at h ⊢
  rw [hk.block g hlt (hF g hg)]
  exact h
/-- A value that may be used. -/
structure goodV (v : Vl) : Prop where
  k : v.1 = 1 ∨ v.1 = 2 ∨ v.1 = 3
  n : okI v.2.1
  s : v.2.2.size ≤ 1000
theorem goodV.ok {v : Vl} (h : goodV v) : okV v := ⟨by rcases h.k with e | e | e <;> rw [e] <;> (unfold okI; omega), h.n, by have := h.s; omega⟩
inductive Ex where
  | mk (k : Int) (v : Vl) (s : ByteArray) (kids : List Ex)
namespace Ex
def k : Ex → Int | .mk k _ _ _ => k
def v : Ex → Vl | .mk _ v _ _ => v
def s : Ex → ByteArray | .mk _ _ s _ => s
def kids : Ex → List Ex | .mk _ _ _ l => l
end Ex
abbrev exC (e : Ex) (B : Option Addr) (c : Nat) : Array Value := #[.int .i64 e.k, .int .i64 e.v.1, .int .i64 e.v.2.1, .string e.v.2.2, .string e.s, .slice B e.kids.length c]
abbrev exV (e : Ex) (B : Option Addr) (c : Nat) : Value := .agg #[.int .i64 e.k, .int .i64 e.v.1, .int .i64 e.v.2.1, .string e.v.2.2, .string e.s, .slice B e.kids.length c]
/-- The kids of a tree lie at A, in none of the blocks N. -/
inductive ExAt (N : Nat → Prop) (W : World) : Ex → Option Addr → Prop where
  | mk {k : Int} {v : Vl} {s : ByteArray} {l : List Ex} {A : Option Addr} (B : Nat → Option Addr) (c : Nat → Nat)
    (hc : ∀ i (h : i < l.length), ∃ ad, A = some ad ∧ ¬ N ad.block ∧ ∀ j u, (exC l[i] (B i) (c i))[j]? = some u → W.cell? ((ad.add (i * 6)).add j) = some u)
    (hk : ∀ i (h : i < l.length), ExAt N W l[i] (B i)) : ExAt N W (.mk k v s l) A
section
variable {N F : Nat → Prop} {W W' : World} {e : Ex} {A : Option Addr}
theorem ExAt.keep (h : ExAt N W e A) (hk : Keep F W W') (hF : ∀ k, F k → N k) : ExAt N W' e A := by
  induction h with
  | mk B c hc _ ih =>
    refine .mk B c (fun i hi => ?_) (fun i hi => ih i hi)
    obtain ⟨ad, e, hn, h1⟩ := hc i hi
    exact ⟨ad, e, hn, fun j v hv => hk.cell (h1 j v hv) (fun hf => hn (by rw [add_block, add_block] at hf; exact hF _ hf))⟩
theorem ExAt.bel (h : ExAt N W e A) (hb : Below W.heap.size W W') : ExAt N W' e A := h.keep (Keep.of_below hb (fun _ => False)) (fun _ h => h.elim)
theorem ExAt.mono {M : Nat → Prop} (h : ExAt N W e A) (hM : ∀ k, M k → N k) : ExAt M W e A := by
  induction h with
  | mk B c hc _ ih =>
    refine .mk B c (fun i hi => ?_) (fun i hi => ih i hi)
    obtain ⟨ad, e, hn, h1⟩ := hc i hi
    exact ⟨ad, e, fun hm => hn (hM _ hm), h1⟩
theorem ExAt.nil (N : Nat → Prop) (W : World) (k : Int) (v : Vl) (s : ByteArray) (A : Option Addr) : ExAt N W (.mk k v s []) A := .mk (fun _ => none) (fun _ => 0) (fun i h => by simp at h) (fun i h => by simp at h)
theorem ExAt.kid (h : ExAt N W e A) {i : Nat} (hi : i < e.kids.length) : ∃ ad B c, A = some ad ∧ ¬ N ad.block ∧ (W.cell? (ad.add (i * 6)) = some (.int .i64 e.kids[i].k) ∧ W.cell? ⟨(ad.add (i * 6)).block, (ad.add (i * 6)).off + 1, none⟩ = some (.int .i64 e.kids[i].v.1) ∧ W.cell? ⟨(ad.add (i * 6)).block, (ad.add (i * 6)).off + 2, none⟩ = some (.int .i64 e.kids[i].v.2.1) ∧ W.cell? ⟨(ad.add (i * 6)).block, (ad.add (i * 6)).off + 3, none⟩ = some (.string e.kids[i].v.2.2) ∧ W.cell? ⟨(ad.add (i * 6)).block, (ad.add (i * 6)).off + 4, none⟩ = some (.string e.kids[i].s) ∧ W.cell? ⟨(ad.add (i * 6)).block, (ad.add (i * 6)).off + 5, none⟩ = some (.slice B e.kids[i].kids.length c)) ∧ ExAt N W e.kids[i] B := by
  cases h with
  | mk B c hc hk =>
    obtain ⟨ad, e, hn, h1⟩ := hc i hi
    refine ⟨ad, B i, c i, e, hn, ⟨?_, h1 1 _ rfl, h1 2 _ rfl, h1 3 _ rfl, h1 4 _ rfl, h1 5 _ rfl⟩, hk i hi⟩
    have h2 := h1 0 _ rfl
    rw [show (ad.add (i * 6)).add 0 = ad.add (i * 6) by simp [Addr.add]] at h2
    exact h2
end
/-- A function: its name, its parameters, its body. -/
abbrev Fu := ByteArray × List ByteArray × List Ex
def body (l : List Ex) : Ex := .mk 0 v0 ⟨#[]⟩ l
def FunsAt (N : Nat → Prop) (W : World) (A : Option Addr) (F : List Fu) : Prop := ∀ i (h : i < F.length), ∃ ad PA pc BA bc, A = some ad ∧ ¬ N ad.block ∧ (W.cell? (ad.add (i * 3)) = some (.string F[i].1) ∧ W.cell? ⟨(ad.add (i * 3)).block, (ad.add (i * 3)).off + 1, none⟩ = some (.slice PA F[i].2.1.length pc) ∧ W.cell? ⟨(ad.add (i * 3)).block, (ad.add (i * 3)).off + 2, none⟩ = some (.slice BA F[i].2.2.length bc)) ∧ (∀ k (h : k < F[i].2.1.length), ∃ a, PA = some a ∧ ¬ N a.block ∧ W.cell? (a.add k) = some (.string F[i].2.1[k])) ∧ ExAt N W (body F[i].2.2) BA
theorem FunsAt.keep {N M : Nat → Prop} {W W' : World} {A : Option Addr} {F : List Fu} (h : FunsAt N W A F) (hk : Keep M W W') (hM : ∀ k, M k → N k) : FunsAt N W' A F := by
  intro i hi
  obtain ⟨ad, PA, pc, BA, bc, e, hn, ⟨c0, c1, c2⟩, hp, hb⟩ := h i hi
  refine ⟨ad, PA, pc, BA, bc, e, hn, ⟨hk.cell c0 (fun hf => hn (by rw [add_block] at hf; exact hM _ hf)), hk.cell c1 (fun hf => hn (by have hf : M (ad.add (i * 3)).block := hf; rw [add_block] at hf; exact hM _ hf)), hk.cell c2 (fun hf => hn (by have hf : M (ad.add (i * 3)).block := hf; rw [add_block] at hf; exact hM _ hf))⟩, ?_, hb.keep hk hM⟩
  intro k hk'
  obtain ⟨a, e, hn, hc⟩ := hp k hk'
  exact ⟨a, e, hn, hk.cell hc (fun hf => hn (by rw [add_block] at hf; exact hM _ hf))⟩
/-! What is answered: the value, the error; the fuel that is left. -/
abbrev Rs := (Vl × Int) × Nat
def allS (ev : Ex → Nat → Rs) (st : (List Vl × Int) × Nat) (e : Ex) : (List Vl × Int) × Nat :=
  if st.1.2 ≠ 0 then st else if (ev e st.2).1.2 ≠ 0 then (([], (ev e st.2).1.2), (ev e st.2).2) else ((st.1.1 ++ [(ev e st.2).1.1], 0), (ev e st.2).2)
def allO (ev : Ex → Nat → Rs) (l : List Ex) (f : Nat) : (List Vl × Int) × Nat := l.foldl (allS ev) (([], 0), f)
def firS (ev : Ex → Nat → Rs) (want : Bool) (st : (Bool × Int) × Nat) (e : Ex) : (Bool × Int) × Nat :=
  if st.1.1 then st else if (ev e st.2).1.2 ≠ 0 then ((true, (ev e st.2).1.2), (ev e st.2).2) else ((trueB (ev e st.2).1.1 == want, 0), (ev e st.2).2)
def firO (ev : Ex → Nat → Rs) (want : Bool) (l : List Ex) (f : Nat) : (Bool × Int) × Nat := l.foldl (firS ev want) ((false, 0), f)
def funO (F : List Fu) (s : ByteArray) : Option Nat := F.findIdx? (fun x => decide (x.1 = s))
def lastO (r : (List Vl × Int) × Nat) : Rs := if r.1.2 ≠ 0 then ((v0, r.1.2), r.2) else ((r.1.1.getLast?.getD (vB false), 0), r.2)
def truthO (want : Bool) (r : (Bool × Int) × Nat) : Rs := if r.1.2 ≠ 0 then ((v0, r.1.2), r.2) else ((vB (r.1.1 == want), 0), r.2)
section
variable (F : List Fu) (G : List Bd)
def calO (ev : List Bd → Nat → Ex → Nat → Rs) (s : ByteArray) (l : List Vl) (d f : Nat) : Rs := match funO F s with
  | none => (applyO s l, f)
  | some i => match F[i]? with
    | none => ((v0, 1), f)
    | some x => if l.length ≠ x.2.1.length then ((v0, 1), f) else if 32 ≤ d then ((v0, 4), f) else lastO (allO (ev (x.2.1.zip l) (d + 1)) x.2.2 f)
def chO (ev : Ex → Nat → Rs) (l : List Ex) (f : Nat) : Rs := match l with
  | [a, b, c] => if (ev a f).1.2 ≠ 0 then ((v0, (ev a f).1.2), (ev a f).2) else if trueB (ev a f).1.1 then ev b (ev a f).2 else ev c (ev a f).2
  | _ => ((v0, 1), f)
def evS (ev : List Bd → Nat → Ex → Nat → Rs) (env : List Bd) (d : Nat) (e : Ex) (f : Nat) : Rs :=
  if e.k = 1 then ((e.v, 0), f)
  else if e.k = 2 then (foundO (getO env e.s), f)
  else if e.k = 3 then (foundO (getO G e.s), f)
  else if e.k = 4 then if (allO (ev env d) e.kids f).1.2 ≠ 0 then ((v0, (allO (ev env d) e.kids f).1.2), (allO (ev env d) e.kids f).2) else calO F ev e.s (allO (ev env d) e.kids f).1.1 d (allO (ev env d) e.kids f).2
  else if e.k = 5 then chO (ev env d) e.kids f
  else if e.k = 6 then truthO false (firO (ev env d) false e.kids f)
  else if e.k = 7 then truthO true (firO (ev env d) true e.kids f)
  else ((v0, 2), f)
def evG : Nat → List Bd → Nat → Ex → Nat → Rs
  | 0, _, _, _, _ => ((v0, 9), 0)
  | g + 1, env, d, e, f => if f = 0 then ((v0, 9), 0) else evS F G (evG g) env d e (f - 1)
end
inductive goodE : Ex → Prop where
  | mk {k : Int} {v : Vl} {s : ByteArray} {l : List Ex} (hv : k = 1 → goodV v) (hl : l.length ≤ 100000) (hk : ∀ i (h : i < l.length), goodE l[i]) : goodE (.mk k v s l)
theorem goodE.v {e : Ex} (h : goodE e) : e.k = 1 → goodV e.v := by cases h with | mk hv _ _ => exact hv
theorem goodE.len {e : Ex} (h : goodE e) : e.kids.length ≤ 100000 := by cases h with | mk _ hl _ => exact hl
theorem goodE.kid {e : Ex} (h : goodE e) {i : Nat} (hi : i < e.kids.length) : goodE e.kids[i] := by cases h with | mk _ _ hk => exact hk i hi
def goodB (l : List Bd) : Prop := l.length ≤ 900000 ∧ ∀ b ∈ l, goodV b.2
def goodF (F : List Fu) : Prop := F.length ≤ 900000 ∧ ∀ x ∈ F, x.2.1.length ≤ 100000 ∧ goodE (body x.2.2)
/-! What is answered without an error may be used; the fuel falls. -/
theorem good_int {n : Int} (h : okI n) : goodV (vI n) := ⟨.inl rfl, h, Nat.zero_le _⟩
theorem good_bool (b : Bool) : goodV (vB b) := by cases b <;> exact ⟨.inr (.inl rfl), by unfold okI; constructor <;> decide, by decide⟩
theorem foldO_ok {op : Int → Int → Option Int} (hop : ∀ a b y, okI a → op a b = some y → okI y) : ∀ (l : List Int) (a y : Int), okI a → foldO op a l = some y → okI y
  | [], a, y, ha, h => by unfold foldO at h; injection h with h; subst h; exact ha
  | b :: l, a, y, ha, h => by
    unfold foldO at h
    cases hq : op a b with
    | none => rw [hq] at h; cases h
    | some x => rw [hq] at h; exact foldO_ok hop l x y (hop _ _ _ ha hq) h
theorem outP_good {o : Option Int} (ho : ∀ y, o = some y → okI y) (h : (outP o).2 = 0) : goodV (outP o).1 := by
  cases o with
  | none => simp [outP, rE] at h
  | some x => exact good_int (ho x rfl)
theorem head_ok {l : List Int} (h : ∀ x ∈ l, okI x) : okI (l.headD 0) := by
  cases l with
  | nil => unfold okI; decide
  | cons x l => exact h x (by simp)
theorem max_ok {a b : Int} (ha : okI a) (hb : okI b) : okI (max a b) := by unfold okI at *; omega
theorem min_ok {a b : Int} (ha : okI a) (hb : okI b) : okI (min a b) := by unfold okI at *; omega
theorem maxL_ok : ∀ (l : List Int) (a : Int), okI a → (∀ x ∈ l, okI x) → okI (maxL a l)
  | [], _, ha, _ => ha
  | b :: l, _, ha, h => maxL_ok l _ (max_ok ha (h b (by simp))) (fun x hx => h x (by simp [hx]))
theorem minL_ok : ∀ (l : List Int) (a : Int), okI a → (∀ x ∈ l, okI x) → okI (minL a l)
  | [], _, ha, _ => ha
  | b :: l, _, ha, h => minL_ok l _ (min_ok ha (h b (by simp))) (fun x hx => h x (by simp [hx]))
theorem zero_ok : okI 0 := by unfold okI; decide
theorem one_ok : okI 1 := by unfold okI; decide
theorem num_good (k : Nat) (l : List Int) (hl : ∀ x ∈ l, okI x) (hk : k = 0 ∨ k = 1 ∨ k = 2 ∨ k = 3 ∨ k = 4 ∨ k = 5 ∨ k = 6 ∨ k = 7 ∨ k = 8 ∨ k = 9 ∨ k = 10 ∨ k = 13 ∨ k = 14 ∨ k = 15) (h : (numN k l).2 = 0) : goodV (numN k l).1 := by
  have hh := head_ok hl
  have ht : ∀ x ∈ l.tail, okI x := fun x hx => hl x (List.mem_of_mem_tail hx)
  have hsub : ∀ a b y, okI a → subO a b = some y → okI y := fun _ _ _ _ h => lim_ok h
  rcases hk with rfl | rfl | rfl | rfl | rfl | rfl | rfl | rfl | rfl | rfl | rfl | rfl | rfl | rfl
  · exact outP_good (fun y hy => foldO_ok (fun _ _ _ _ h => lim_ok h) l 1 y one_ok hy) h
  · exact outP_good (fun y hy => foldO_ok (fun _ _ _ _ h => lim_ok h) l 0 y zero_ok hy) h
  · change (if l.length ≤ 1 then outP (foldO subO 0 l) else outP (foldO subO (l.headD 0) l.tail)).2 = 0 at h
    show goodV (if l.length ≤ 1 then outP (foldO subO 0 l) else outP (foldO subO (l.headD 0) l.tail)).1
    by_cases h2 : l.length ≤ 1
    · rw [if_pos h2] at h ⊢; exact outP_good (fun y hy => foldO_ok hsub l 0 y zero_ok hy) h
    · rw [if_neg h2] at h ⊢; exact outP_good (fun y hy => foldO_ok hsub _ _ y hh hy) h
  · exact good_bool _
  · exact good_bool _
  · exact good_bool _
  · exact good_bool _
  · exact good_bool _
  · exact good_bool _
  · change (if 0 ≤ l.headD 0 then ((vI (l.headD 0), 0) : Vl × Int) else outP (foldO subO 0 l)).2 = 0 at h
    show goodV (if 0 ≤ l.headD 0 then ((vI (l.headD 0), 0) : Vl × Int) else outP (foldO subO 0 l)).1
    by_cases h2 : 0 ≤ l.headD 0
    · rw [if_pos h2]; exact good_int hh
    · rw [if_neg h2] at h ⊢; exact outP_good (fun y hy => foldO_ok hsub l 0 y zero_ok hy) h
  · exact outP_good (fun y hy => foldO_ok (fun _ _ _ ha h => divO_ok ha h) _ _ y hh hy) h
  · exact good_int (maxL_ok _ _ hh ht)
  · exact good_int (minL_ok _ _ hh ht)
  · exact outP_good (fun y hy => foldO_ok (fun _ _ _ ha h => modO_ok ha h) _ _ y hh hy) h
theorem code_lt21 {s : ByteArray} (h : knownB s = true) : code s < 21 := by
  have hm : s ∈ namB := (Lib.containsS_iff _ _).1 h
  rcases name_cases hm with rfl | rfl | rfl | rfl | rfl | rfl | rfl | rfl | rfl | rfl | rfl | rfl | rfl | rfl | rfl | rfl | rfl | rfl | rfl | rfl | rfl
  all_goals decide +kernel
theorem applyN_good (k : Nat) (hk : k < 21) (l : List Vl) (hl : ∀ v ∈ l, goodV v) (hn : k = 20 ∨ k = 12 → l ≠ []) (h : (applyN k l).2 = 0) : goodV (applyN k l).1 := by
  have hnums : ∀ x ∈ nums l, okI x := by
    intro x hx
    unfold nums at hx
    obtain ⟨v, hv, rfl⟩ := List.mem_map.1 hx
    exact (hl v hv).n
  have hN : ∀ k, (k = 0 ∨ k = 1 ∨ k = 2 ∨ k = 3 ∨ k = 4 ∨ k = 5 ∨ k = 6 ∨ k = 7 ∨ k = 8 ∨ k = 9 ∨ k = 10 ∨ k = 13 ∨ k = 14 ∨ k = 15) → (if allInt l then numN k (nums l) else (v0, 8)).2 = 0 → goodV (if allInt l then numN k (nums l) else (v0, 8)).1 := by
    intro k hk h
    split at h
    · rename_i h2; rw [if_pos h2]; exact num_good _ _ hnums hk h
    · simp at h
  by_cases e11 : k = 11
  · subst e11; exact good_bool _
  by_cases e16 : k = 16
  · subst e16; exact good_bool _
  by_cases e17 : k = 17
  · subst e17; exact good_bool _
  by_cases e12 : k = 12
  · subst e12
    obtain ⟨a, l', rfl⟩ : ∃ a l', l = a :: l' := by
      cases l with
      | nil => exact absurd rfl (hn (.inr rfl))
      | cons a l' => exact ⟨a, l', rfl⟩
    change (if ((a :: l').headD v0).1 ≠ 3 then ((v0, 8) : Vl × Int) else (vI ((a :: l').headD v0).2.2.size, 0)).2 = 0 at h
    show goodV (if ((a :: l').headD v0).1 ≠ 3 then ((v0, 8) : Vl × Int) else (vI ((a :: l').headD v0).2.2.size, 0)).1
    by_cases h2 : ((a :: l').headD v0).1 ≠ 3
    · rw [if_pos h2] at h; simp at h
    · rw [if_neg h2]
      refine good_int ?_
      have := (hl a (by simp)).s
      show okI (a.2.2.size : Int)
      unfold okI
      omega
  by_cases e20 : k = 20
  · subst e20
    obtain ⟨a, l', rfl⟩ : ∃ a l', l = a :: l' := by
      cases l with
      | nil => exact absurd rfl (hn (.inl rfl))
      | cons a l' => exact ⟨a, l', rfl⟩
    show goodV (vS (typeS a.1))
    rcases (hl a (by simp)).k with h3 | h3 | h3 <;> rw [h3] <;> exact ⟨.inr (.inl rfl), zero_ok, by decide⟩
  by_cases e19 : k = 19
  · subst e19
    show goodV (symCat l).1
    change (symCat l).2 = 0 at h
    unfold symCat at h ⊢
    split at h
    · rename_i h2; exact absurd h h2
    · rename_i h2
      rw [if_neg h2]
      split at h
      · rename_i h3
        rw [if_pos h3]
        refine ⟨.inr (.inl rfl), zero_ok, ?_⟩
        show (joinO l 40).1.size ≤ 1000
        unfold joinO at h2 ⊢
        split at h2
        · rename_i h4; rw [if_pos h4]; show (cat l).size ≤ 1000; omega
        · simp at h2
      · simp at h
  by_cases e18 : k = 18
  · subst e18
    show goodV (strCat l).1
    change (strCat l).2 = 0 at h
    unfold strCat at h ⊢
    split at h
    · rename_i h2; exact absurd h h2
    · rename_i h2
      rw [if_neg h2]
      unfold joinO at h2 ⊢
      split at h2
      · rename_i h3; rw [if_pos h3]; exact ⟨.inr (.inr rfl), zero_ok, h3⟩
      · simp at h2
  have h14 : k = 0 ∨ k = 1 ∨ k = 2 ∨ k = 3 ∨ k = 4 ∨ k = 5 ∨ k = 6 ∨ k = 7 ∨ k = 8 ∨ k = 9 ∨ k = 10 ∨ k = 13 ∨ k = 14 ∨ k = 15 := by omega
  have := hN k h14
  rcases h14 with rfl | rfl | rfl | rfl | rfl | rfl | rfl | rfl | rfl | rfl | rfl | rfl | rfl | rfl <;> exact this h
theorem apply_good (s : ByteArray) (l : List Vl) (hl : ∀ v ∈ l, goodV v) (h : (applyO s l).2 = 0) : goodV (applyO s l).1 := by
  unfold applyO at h ⊢
  split at h
  · simp at h
  · rename_i hk
    have hk' : knownB s = true := by simpa using hk
    rw [if_neg hk]
    split at h
    · simp at h
    · rename_i hf
      rw [if_neg hf]
      refine applyN_good _ (code_lt21 hk') l hl ?_ h
      rintro hc rfl
      apply hf
      have hm : s ∈ namB := (Lib.containsS_iff _ _).1 hk'
      rcases name_cases hm with rfl | rfl | rfl | rfl | rfl | rfl | rfl | rfl | rfl | rfl | rfl | rfl | rfl | rfl | rfl | rfl | rfl | rfl | rfl | rfl | rfl
      all_goals first | (exact absurd hc (by decide +kernel)) | decide +kernel
/-- An answer that may be used, with no more fuel than there was. -/
def goodR (f : Nat) (r : Rs) : Prop := (r.1.2 = 0 → goodV r.1.1) ∧ r.2 ≤ f
theorem goodR.mono {f f' : Nat} {r : Rs} (h : goodR f r) (hf : f ≤ f') : goodR f' r := ⟨h.1, Nat.le_trans h.2 hf⟩
theorem allS_good {ev : Ex → Nat → Rs} {e : Ex} {st : (List Vl × Int) × Nat} {f : Nat} (h : ∀ f', f' ≤ f → goodR f' (ev e f')) (hs : (∀ v ∈ st.1.1, goodV v) ∧ st.2 ≤ f) : (∀ v ∈ (allS ev st e).1.1, goodV v) ∧ (allS ev st e).2 ≤ f := by
  have h1 := h st.2 hs.2
  unfold allS
  split
  · exact hs
  · split
    · exact ⟨by simp, Nat.le_trans h1.2 hs.2⟩
    · rename_i h2
      refine ⟨fun v hv => ?_, Nat.le_trans h1.2 hs.2⟩
      rcases List.mem_append.1 hv with hv | hv
      · exact hs.1 v hv
      · simp only [List.mem_singleton] at hv
        subst hv
        exact h1.1 (by simpa using h2)
theorem allF_good {ev : Ex → Nat → Rs} {f : Nat} : ∀ (l : List Ex) (st : (List Vl × Int) × Nat), (∀ e ∈ l, ∀ f', f' ≤ f → goodR f' (ev e f')) → ((∀ v ∈ st.1.1, goodV v) ∧ st.2 ≤ f) → (∀ v ∈ (l.foldl (allS ev) st).1.1, goodV v) ∧ (l.foldl (allS ev) st).2 ≤ f
  | [], _, _, hs => hs
  | e :: l, st, h, hs => allF_good l _ (fun e he => h e (by simp [he])) (allS_good (h e (by simp)) hs)
theorem all_good {ev : Ex → Nat → Rs} {f : Nat} (l : List Ex) (h : ∀ e ∈ l, ∀ f', f' ≤ f → goodR f' (ev e f')) : (∀ v ∈ (allO ev l f).1.1, goodV v) ∧ (allO ev l f).2 ≤ f := allF_good l _ h ⟨by simp, Nat.le_refl _⟩
theorem firS_good {ev : Ex → Nat → Rs} {want : Bool} {e : Ex} {st : (Bool × Int) × Nat} {f : Nat} (h : ∀ f', f' ≤ f → goodR f' (ev e f')) (hs : st.2 ≤ f) : (firS ev want st e).2 ≤ f := by
  have h1 := h st.2 hs
  unfold firS
  split
  · exact hs
  · split <;> exact Nat.le_trans h1.2 hs
theorem fir_good {ev : Ex → Nat → Rs} {want : Bool} {f : Nat} : ∀ (l : List Ex) (st : (Bool × Int) × Nat), (∀ e ∈ l, ∀ f', f' ≤ f → goodR f' (ev e f')) → st.2 ≤ f → (l.foldl (firS ev want) st).2 ≤ f
  | [], _, _, hs => hs
  | e :: l, st, h, hs => fir_good l _ (fun e he => h e (by simp [he])) (firS_good (h e (by simp)) hs)
theorem get_good {l : List Bd} (hl : ∀ b ∈ l, goodV b.2) (s : ByteArray) : (foundO (getO l s)).2 = 0 → goodV (foundO (getO l s)).1 := by
  unfold getO
  split
  · rename_i b hb
    intro _
    exact hl b (by simpa using List.mem_of_find?_eq_some hb)
  · intro h; simp [foundO] at h
theorem last_good {r : (List Vl × Int) × Nat} {f : Nat} (h : (∀ v ∈ r.1.1, goodV v) ∧ r.2 ≤ f) : goodR f (lastO r) := by
  unfold lastO
  split
  · rename_i h2; exact ⟨fun h3 => absurd h3 h2, h.2⟩
  · refine ⟨fun _ => ?_, h.2⟩
    show goodV (r.1.1.getLast?.getD (vB false))
    cases hl : r.1.1.getLast? with
    | none => exact good_bool _
    | some v => exact h.1 v (List.mem_of_getLast? hl)
theorem zip_good {ps : List ByteArray} {l : List Vl} (h : ∀ v ∈ l, goodV v) : ∀ b ∈ ps.zip l, goodV b.2 := fun b hb => h b.2 (List.of_mem_zip (a := b.1) (b := b.2) hb).2
section
variable {F : List Fu} {G : List Bd}
theorem cal_good (hF : goodF F) {ev : List Bd → Nat → Ex → Nat → Rs} {f0 : Nat} (h : ∀ env d e f, f ≤ f0 → goodE e → (∀ b ∈ env, goodV b.2) → goodR f (ev env d e f)) (s : ByteArray) (l : List Vl) (hl : ∀ v ∈ l, goodV v) (d f : Nat) (hf : f ≤ f0) : goodR f (calO F ev s l d f) := by
  unfold calO
  split
  · exact ⟨apply_good s l hl, Nat.le_refl _⟩
  · split
    · exact ⟨fun h => absurd h (by simp), Nat.le_refl _⟩
    · rename_i x hx
      split
      · exact ⟨fun h => absurd h (by simp), Nat.le_refl _⟩
      · split
        · exact ⟨fun h => absurd h (by simp), Nat.le_refl _⟩
        · have hb := (hF.2 x (List.mem_of_getElem? hx)).2
          refine last_good (all_good _ (fun e he f' hf' => ?_))
          obtain ⟨i, hi, rfl⟩ := List.getElem_of_mem he
          exact h _ _ _ _ (by omega) (hb.kid (e := body x.2.2) hi) (zip_good hl)
theorem ev_good (hF : goodF F) (hG : ∀ b ∈ G, goodV b.2) : ∀ (g : Nat) (env : List Bd) (d : Nat) (e : Ex) (f : Nat), goodE e → (∀ b ∈ env, goodV b.2) → goodR f (evG F G g env d e f)
  | 0, _, _, _, _, _, _ => ⟨fun h => absurd h (by show (9 : Int) ≠ 0; decide), Nat.zero_le _⟩
  | g + 1, env, d, e, f, he, henv => by
    have ih := ev_good hF hG g
    unfold evG
    split
    · exact ⟨fun h => absurd h (by show (9 : Int) ≠ 0; decide), Nat.zero_le _⟩
    · refine goodR.mono (f := f - 1) ?_ (by omega)
      have hkids : ∀ x ∈ e.kids, ∀ f', f' ≤ f - 1 → goodR f' (evG F G g env d x f') := fun x hx f' _ => by
        obtain ⟨i, hi, rfl⟩ := List.getElem_of_mem hx
        exact ih env d _ f' (he.kid hi) henv
      unfold evS
      split
      · rename_i hk; exact ⟨fun _ => he.v hk, Nat.le_refl _⟩
      split
      · exact ⟨get_good henv _, Nat.le_refl _⟩
      split
      · exact ⟨get_good hG _, Nat.le_refl _⟩
      split
      · have ha := all_good e.kids hkids
        split
        · rename_i h2; exact ⟨fun h3 => absurd h3 h2, ha.2⟩
        · exact (cal_good hF (f0 := f - 1) (fun env d e f _ he henv => ih env d e f he henv) _ _ ha.1 _ _ ha.2).mono ha.2
      split
      · unfold chO
        split
        · rename_i a b c hl
          have h1 := hkids a (by rw [hl]; simp) (f - 1) (Nat.le_refl _)
          split
          · rename_i h2; exact ⟨fun h3 => absurd h3 h2, h1.2⟩
          · split
            · exact (hkids b (by rw [hl]; simp) _ h1.2).mono h1.2
            · exact (hkids c (by rw [hl]; simp) _ h1.2).mono h1.2
        · exact ⟨fun h => absurd h (by show (1 : Int) ≠ 0; decide), Nat.le_refl _⟩
      split
      · unfold truthO
        have h1 := fir_good (want := false) e.kids ((false, 0), f - 1) hkids (Nat.le_refl _)
        split
        · rename_i h2; exact ⟨fun h3 => absurd h3 h2, h1⟩
        · exact ⟨fun _ => good_bool _, h1⟩
      split
      · unfold truthO
        have h1 := fir_good (want := true) e.kids ((false, 0), f - 1) hkids (Nat.le_refl _)
        split
        · rename_i h2; exact ⟨fun h3 => absurd h3 h2, h1⟩
        · exact ⟨fun _ => good_bool _, h1⟩
      · exact ⟨fun h => absurd h (by show (2 : Int) ≠ 0; decide), Nat.le_refl _⟩
end
end Go.Proofs.YtmadnehipagakaaGreatDoor
