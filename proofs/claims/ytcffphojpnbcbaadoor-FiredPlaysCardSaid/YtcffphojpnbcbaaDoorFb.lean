/- FiredPlays, plainly: the row of ways that the law keeps. -/
import Derived.Test.YtcffphojpnbcbaaDoorAa
namespace Go.Proofs.YtcffphojpnbcbaaDoor
open Go.RowKit Go.Lib KP MR

def Ac.t (x : Ac) : Wt := (x.r, x.al, x.l)
/-- The last place below j at which a way stands; -1: none. -/
def atI (R : List Ac) (t : Wt) : Nat → Int
  | 0 => -1
  | j + 1 => if (R[j]?.map Ac.t) = some t then (j : Int) else atI R t j
theorem atI_lt (R : List Ac) (t : Wt) : ∀ j, atI R t j < j ∧ -1 ≤ atI R t j
  | 0 => by simp [atI]
  | j + 1 => by
    have := atI_lt R t j
    unfold atI
    split <;> omega
theorem atI_at (R : List Ac) (t : Wt) : ∀ j, 0 ≤ atI R t j → (R[(atI R t j).toNat]?.map Ac.t) = some t
  | 0, h => by simp [atI] at h
  | j + 1, h => by
    unfold atI at h ⊢
    split
    · rename_i e
      simpa using e
    · rename_i e
      rw [if_neg e] at h
      exact atI_at R t j h
theorem atI_no (R : List Ac) (t : Wt) : ∀ j, atI R t j < 0 → ∀ k, k < j → (R[k]?.map Ac.t) ≠ some t
  | 0, _, k, hk => by omega
  | j + 1, h, k, hk => by
    unfold atI at h
    split at h
    · omega
    · rename_i e
      by_cases e2 : k = j
      · subst e2; exact e
      · exact atI_no R t j h k (by omega)
theorem atI_mem (R : List Ac) (t : Wt) : decide (0 ≤ atI R t R.length) = decide (t ∈ R.map Ac.t) := by
  by_cases h : 0 ≤ atI R t R.length
  · have h2 := atI_at R t _ h
    obtain ⟨x, hx, e⟩ := Option.map_eq_some_iff.1 h2
    rw [decide_eq_true h, decide_eq_true (List.mem_map.2 ⟨x, List.mem_of_getElem? hx, e⟩)]
  · have h2 := atI_no R t R.length (by omega)
    rw [decide_eq_false h]
    symm
    rw [decide_eq_false_iff_not]
    intro hm
    obtain ⟨x, hx, e⟩ := List.mem_map.1 hm
    obtain ⟨k, hk, rfl⟩ := List.getElem_of_mem hx
    exact h2 k hk (by rw [List.getElem?_eq_getElem hk]; simp [e])
/-- The row without the place at which a way stands. -/
theorem atI_drop (R : List Ac) (t : Wt) (hn : (R.map Ac.t).Nodup) {p : Nat} (hp : p < R.length) (he : R[p].t = t) : (R.take p ++ R.drop (p + 1)).map Ac.t = (R.map Ac.t).filter fun x => decide (x ≠ t) := by
  have hs : R = R.take p ++ R[p] :: R.drop (p + 1) := by rw [List.getElem_cons_drop, List.take_append_drop]
  rw [hs, List.map_append, List.map_cons, List.nodup_append, List.nodup_cons] at hn
  obtain ⟨_, ⟨h2, _⟩, h3⟩ := hn
  conv => rhs; rw [hs]
  rw [List.map_append, List.map_append, List.map_cons, List.filter_append, List.filter_cons_of_neg (by simp [he])]
  congr 1
  · symm
    rw [List.filter_eq_self]
    intro x hx
    have := h3 x hx R[p].t (List.mem_cons_self)
    rw [he] at this
    simpa using this
  · symm
    rw [List.filter_eq_self]
    intro x hx
    have : x ≠ R[p].t := fun e => h2 (e ▸ hx)
    rw [he] at this
    simpa using this
/-- The row when a rule is cleared, up to place j. -/
def stayR (rule : Int) (R : List Ac) : List Ac := R.filter fun x => stayT rule x.t
theorem stayR_t (rule : Int) (R : List Ac) : (stayR rule R).map Ac.t = (R.map Ac.t).filter (stayT rule) := by
  unfold stayR
  rw [List.filter_map]; rfl
theorem stayR_snoc (rule : Int) (R : List Ac) (j : Nat) (h : j < R.length) : stayR rule (R.take (j + 1)) = stayR rule (R.take j) ++ if stayT rule R[j].t = true then [R[j]] else [] := by
  unfold stayR
  rw [List.take_succ_eq_append_getElem h, List.filter_append, List.filter_cons]
  split <;> simp
/-- How many of the row, up to place j, have a fact. -/
def nF (R : List Ac) (fact : Int) (j : Nat) : Nat := ((R.take j).filter fun x => decide (fact ∈ x.l)).length
theorem nF_snoc (R : List Ac) (fact : Int) (j : Nat) (h : j < R.length) : nF R fact (j + 1) = nF R fact j + if fact ∈ R[j].l then 1 else 0 := by
  unfold nF
  rw [List.take_succ_eq_append_getElem h, List.filter_append, List.filter_cons]
  by_cases e : fact ∈ R[j].l <;> simp [e]
theorem nF_all (R : List Ac) (fact : Int) : nF R fact R.length = withF (R.map Ac.t) fact := by
  unfold nF withF
  rw [List.take_length, List.filter_map, List.length_map]
  rfl
theorem nF_le (R : List Ac) (fact : Int) (j : Nat) : nF R fact j ≤ j := by
  unfold nF
  have h1 := List.length_filter_le (fun x : Ac => decide (fact ∈ x.l)) (R.take j)
  have h2 := List.length_take_le j R
  omega

/-! ### the row in memory -/
def cellsOf (R : List Ac) : List Value := R.flatMap fun x => x.cs.toList
theorem cellsOf_len (R : List Ac) : (cellsOf R).length = R.length * 4 := by
  unfold cellsOf
  induction R with
  | nil => rfl
  | cons x R ih => simp at ih ⊢; omega
theorem cellsOf_app (R S : List Ac) : cellsOf (R ++ S) = cellsOf R ++ cellsOf S := by simp [cellsOf]
theorem cellsOf_one (x : Ac) : cellsOf [x] = x.cs.toList := by simp [cellsOf]
theorem cellsOf_cell (R : List Ac) (k j : Nat) (h : k < R.length) (v : Value) (hv : R[k].cs[j]? = some v) : (cellsOf R)[k * 4 + j]? = some v := by
  have hj : j < 4 := by have := (Array.getElem?_eq_some_iff.1 hv).1; simpa using this
  induction R generalizing k with
  | nil => cases h
  | cons x R ih =>
    have e : cellsOf (x :: R) = x.cs.toList ++ cellsOf R := by simp [cellsOf]
    rw [e]
    cases k with
    | zero =>
      rw [List.getElem?_append_left (by simp; omega)]
      simpa using hv
    | succ k =>
      rw [List.getElem?_append_right (by simp; omega)]
      have := ih k (by simpa using h) (by simpa using hv)
      rw [← this]
      congr 1
      simp; omega
theorem cellsOf_flat (R : List Ac) : ∀ u ∈ cellsOf R, u.oneCell' = true := by
  intro u hu
  obtain ⟨x, _, hx⟩ := List.mem_flatMap.1 hu
  simp at hx
  rcases hx with rfl | rfl | rfl | rfl <;> rfl
/-- The value v is the law's own row R, in a block from B on. -/
def RowIs (B : Nat) (W : World) (v : Value) (R : List Ac) : Prop := W.ownsRow B 34 4 v R.length (cellsOf R)
section
variable {B m : Nat} {W W' : World} {v : Value} {R : List Ac}
theorem RowIs.nil (W : World) (B : Nat) : RowIs B W (.slice none 0 0) [] := World.ownsRow_nil _ _ _ _
theorem RowIs.acts (h : RowIs B W v R) : ∃ A c, v = .slice A R.length c ∧ R.length ≤ c ∧ ActsAt W A R := by
  rcases h.2 with ⟨e1, e2⟩ | ⟨g, cap, cur, e1, hB, hg, hc1, hc2, hc3, hc4⟩
  · have hR : R = [] := List.eq_nil_of_length_eq_zero e2
    subst hR
    exact ⟨none, 0, e1, Nat.le_refl _, fun k h => by cases h⟩
  · refine ⟨some ⟨g, 0, none⟩, cap, e1, hc1, fun k hk => ⟨_, rfl, fun j v hv => ?_⟩⟩
    have h1 := cellsOf_cell R k j hk v hv
    rw [← hc4, List.getElem?_take] at h1
    split at h1
    · have e2 : ((⟨g, 0, none⟩ : Addr).add (k * 4)).add j = ⟨g, k * 4 + j, none⟩ := by
        unfold Addr.add
        by_cases e : k * 4 = 0 <;> by_cases e' : j = 0 <;> simp [e, e']
      rw [e2]
      exact block_cell hg (by simpa using h1)
    · cases h1
theorem RowIs.keep (h : RowIs B W v R) (hk : Keep (fun k => k = m) W W') (hm : ∃ es clock, W.heap[m]? = some (.map es clock)) : RowIs B W' v R :=
  ownsRow_keep h hk (fun k hk' e => by
    subst e
    rcases h.2 with ⟨e1, _⟩ | ⟨g, cap, cur, e1, _, hg, _⟩
    · rw [e1] at hk'; simp [Value.ownBlock] at hk'
    · rw [e1] at hk'
      have : g = k := by simpa [Value.ownBlock] using hk'
      subst this
      obtain ⟨_, _, hm⟩ := hm
      rw [hg] at hm; cases hm)
theorem RowIs.below (h : RowIs B W v R) (hb : Below W.heap.size W W') : RowIs B W' v R :=
  ownsRow_keep h (Keep.of_below hb (fun _ => False)) (fun _ _ h => h)
end
end Go.Proofs.YtcffphojpnbcbaaDoor
