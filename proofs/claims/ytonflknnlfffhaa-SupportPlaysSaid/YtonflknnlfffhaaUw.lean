/- The plain law: tables stay right; a law's row beside a table's. -/
import Derived.Test.YtonflknnlfffhaaUv
namespace Go.Proofs.Ytonflknnlfffhaa
open Go.RowKit Go.Lib KP MR RW
theorem key_ne {P : Pl} (hn : (P.map (·.1)).Nodup) {i j : Nat} (hi : i < P.length) (hj : j < P.length) (e : P[i].1 = P[j].1) : i = j := by
  have h1 : ∀ i j (hi : i < P.length) (hj : j < P.length), i < j → P[i].1 ≠ P[j].1 := fun i j hi hj h => by
    have := List.pairwise_iff_getElem.1 hn i j (by rw [List.length_map]; exact hi) (by rw [List.length_map]; exact hj) h
    rwa [List.getElem_map, List.getElem_map] at this
  rcases Nat.lt_trichotomy i j with h | h | h
  · exact absurd e (h1 i j hi hj h)
  · exact h
  · exact absurd e.symm (h1 j i hj hi h)
theorem map_at {P : Pl} (hn : (P.map (·.1)).Nodup) {j : Nat} (hj : j < P.length) {id : Int} (e : P[j].1 = id) (q : Int × Bool × List Wy → Int × Bool × List Wy) : P.map (fun p => if p.1 = id then q p else p) = P.set j (q P[j]) := by
  refine List.ext_getElem (by simp) (fun k h1 h2 => ?_)
  rw [List.length_map] at h1
  rw [List.getElem_map, List.getElem_set]
  by_cases hk : j = k
  · subst hk; rw [if_pos e, if_pos rfl]
  · rw [if_neg (fun h => hk (key_ne hn hj h1 (e.trans h.symm))), if_neg hk]
theorem filter_at {P : Pl} (hn : (P.map (·.1)).Nodup) {j : Nat} (hj : j < P.length) {id : Int} (e : P[j].1 = id) : P.filter (fun p => decide (p.1 ≠ id)) = P.take j ++ P.drop (j + 1) := by
  have h0 : P = P.take j ++ P[j] :: P.drop (j + 1) := by rw [List.getElem_cons_drop, List.take_append_drop]
  have ht : ∀ p ∈ P.take j, p.1 ≠ id := fun p hp h => by
    obtain ⟨k, hk, rfl⟩ := List.getElem_of_mem hp
    rw [List.getElem_take] at h
    rw [List.length_take] at hk
    have := key_ne hn (by omega) hj (h.trans e.symm)
    omega
  have hd : ∀ p ∈ P.drop (j + 1), p.1 ≠ id := fun p hp h => by
    obtain ⟨k, hk, rfl⟩ := List.getElem_of_mem hp
    rw [List.getElem_drop] at h
    rw [List.length_drop] at hk
    have := key_ne hn (by omega) hj (h.trans e.symm)
    omega
  conv => lhs; rw [h0]
  rw [List.filter_append, List.filter_cons, if_neg (by simp [e]), List.filter_eq_self.2 (fun p hp => by simpa using ht p hp), List.filter_eq_self.2 (fun p hp => by simpa using hd p hp)]
theorem filter_none {P : Pl} {id : Int} (h : ∀ p ∈ P, p.1 ≠ id) : P.filter (fun p => decide (p.1 ≠ id)) = P := List.filter_eq_self.2 (fun p hp => by simpa using h p hp)
theorem ofP_yes {P : Pl} {id : Int} {p : Int × Bool × List Wy} (h : p ∈ P) (e : p.1 = id) : ofP P id = P := by
  unfold ofP
  rw [if_pos (List.any_eq_true.2 ⟨p, h, by simpa using e⟩)]
theorem ofP_no {P : Pl} {id : Int} (h : ∀ p ∈ P, p.1 ≠ id) : ofP P id = P ++ [(id, false, [])] := by
  unfold ofP
  rw [if_neg (fun h2 => by
    obtain ⟨p, hp, e⟩ := List.any_eq_true.1 h2
    exact h p hp (by simpa using e))]
theorem good_nil : Good [] [] := ⟨List.nodup_nil, List.nodup_nil, fun w => ⟨(fun h => by cases h), (fun ⟨p, h, _⟩ => by cases h)⟩, fun p h => by cases h⟩
theorem good_of {P : Pl} {C : List Wy} (h : Good P C) (id : Int) : Good (ofP P id) C := by
  by_cases hp : ∃ p ∈ P, p.1 = id
  · obtain ⟨p, hp, e⟩ := hp
    rw [ofP_yes hp e]; exact h
  · have hn : ∀ p ∈ P, p.1 ≠ id := fun p hm e => hp ⟨p, hm, e⟩
    rw [ofP_no hn]
    refine ⟨?_, h.once, fun w => ?_, fun p hm => ?_⟩
    · rw [List.map_append, List.map_cons, List.map_nil, List.nodup_append]
      refine ⟨h.keys, by simp, fun a ha b hb => ?_⟩
      obtain ⟨p, hm, rfl⟩ := List.mem_map.1 ha
      rw [List.mem_singleton.1 hb]
      exact hn p hm
    · rw [h.mem]
      constructor
      · rintro ⟨p, hm, hw⟩; exact ⟨p, List.mem_append.2 (.inl hm), hw⟩
      · rintro ⟨p, hm, hw⟩
        rcases List.mem_append.1 hm with hm | hm
        · exact ⟨p, hm, hw⟩
        · rw [List.mem_singleton.1 hm] at hw; cases hw
    · rcases List.mem_append.1 hm with hm | hm
      · exact h.each p hm
      · rw [List.mem_singleton.1 hm]; exact List.nodup_nil
theorem good_free {P : Pl} {C : List Wy} (h : Good P C) (id : Int) : Good (freeP P id) C := by
  have h1 := good_of h id
  unfold freeP
  generalize ofP P id = Q at *
  refine ⟨?_, h1.once, fun w => ?_, fun p hm => ?_⟩
  · have e : (Q.map fun p => if p.1 = id then (p.1, true, p.2.2) else p).map (·.1) = Q.map (·.1) := by
      rw [List.map_map]
      refine List.map_congr_left (fun p _ => ?_)
      simp only [Function.comp_apply]
      split <;> rfl
    rw [e]; exact h1.keys
  · rw [h1.mem]
    constructor
    · rintro ⟨p, hm, hw⟩
      refine ⟨_, List.mem_map.2 ⟨p, hm, rfl⟩, ?_⟩
      split <;> exact hw
    · rintro ⟨p, hm, hw⟩
      obtain ⟨q, hq, rfl⟩ := List.mem_map.1 hm
      refine ⟨q, hq, ?_⟩
      split at hw <;> exact hw
  · obtain ⟨q, hq, rfl⟩ := List.mem_map.1 hm
    have := h1.each q hq
    split <;> exact this
theorem ls_of {P : Pl} (hn : (P.map (·.1)).Nodup) {p : Int × Bool × List Wy} (h : p ∈ ofP P p.1) : lsP P p.1 = p.2.2 := by
  unfold lsP
  by_cases hp : ∃ q ∈ P, q.1 = p.1
  · obtain ⟨q, hq, e⟩ := hp
    rw [ofP_yes hq e] at h
    cases hf : P.find? (fun q => decide (q.1 = p.1)) with
    | none => exact absurd (List.find?_eq_none.1 hf p h) (by simp)
    | some r =>
      have h1 := List.mem_of_find?_eq_some hf
      have h2 : r.1 = p.1 := by simpa using List.find?_some hf
      obtain ⟨i, hi, rfl⟩ := List.getElem_of_mem h1
      obtain ⟨j, hj, rfl⟩ := List.getElem_of_mem h
      have := key_ne hn hi hj h2
      subst this
      rfl
  · have hno : ∀ q ∈ P, q.1 ≠ p.1 := fun q hq e => hp ⟨q, hq, e⟩
    rw [ofP_no hno] at h
    rcases List.mem_append.1 h with h | h
    · exact absurd rfl (hno p h)
    · have e := List.mem_singleton.1 h
      have hf : P.find? (fun q => decide (q.1 = p.1)) = none := List.find?_eq_none.2 (fun q hq => by simpa using hno q hq)
      rw [hf]
      rw [e]
      rfl
theorem of_has (P : Pl) (id : Int) : ∃ p ∈ ofP P id, p.1 = id := by
  by_cases hp : ∃ q ∈ P, q.1 = id
  · obtain ⟨q, hq, e⟩ := hp
    rw [ofP_yes hq e]; exact ⟨q, hq, e⟩
  · rw [ofP_no (fun q hq e => hp ⟨q, hq, e⟩)]
    exact ⟨_, List.mem_append.2 (.inr (List.mem_singleton.2 rfl)), rfl⟩
theorem good_sup {P : Pl} {C : List Wy} (h : Good P C) (id : Int) (w : Wy) : Good (supP P id w) (supC P C id w) := by
  have h1 := good_of h id
  have hL : ∀ p ∈ ofP P id, p.1 = id → lsP P id = p.2.2 := fun p hp e => by subst e; exact ls_of h.keys hp
  have hH := of_has P id
  unfold supP supC
  split
  · exact h1
  · rename_i hw
    generalize ofP P id = Q at *
    have hk : ((Q.map fun p => if p.1 = id then (p.1, p.2.1, p.2.2 ++ [w]) else p).map (·.1)).Nodup := by
      have e : (Q.map fun p => if p.1 = id then (p.1, p.2.1, p.2.2 ++ [w]) else p).map (·.1) = Q.map (·.1) := by
        rw [List.map_map]
        refine List.map_congr_left (fun p _ => ?_)
        simp only [Function.comp_apply]
        split <;> rfl
      rw [e]; exact h1.keys
    have he : ∀ p ∈ (Q.map fun p => if p.1 = id then (p.1, p.2.1, p.2.2 ++ [w]) else p), p.2.2.Nodup := fun p hm => by
      obtain ⟨q, hq, rfl⟩ := List.mem_map.1 hm
      have h2 := h1.each q hq
      split
      · rename_i e
        rw [hL q hq e] at hw
        dsimp only
        rw [List.nodup_append]
        exact ⟨h2, by simp, fun a ha b hb e2 => hw (by rw [← List.mem_singleton.1 hb, ← e2]; exact ha)⟩
      · exact h2
    have hm : ∀ y, (y ∈ C ∨ y = w) ↔ ∃ p ∈ (Q.map fun p => if p.1 = id then (p.1, p.2.1, p.2.2 ++ [w]) else p), y ∈ p.2.2 := fun y => by
      constructor
      · rintro (hy | rfl)
        · obtain ⟨p, hp, hy⟩ := (h1.mem y).1 hy
          refine ⟨_, List.mem_map.2 ⟨p, hp, rfl⟩, ?_⟩
          split
          · exact List.mem_append.2 (.inl hy)
          · exact hy
        · obtain ⟨p, hp, e⟩ := hH
          refine ⟨_, List.mem_map.2 ⟨p, hp, rfl⟩, ?_⟩
          rw [if_pos e]
          simp
      · rintro ⟨p, hp, hy⟩
        obtain ⟨q, hq, rfl⟩ := List.mem_map.1 hp
        split at hy
        · rcases List.mem_append.1 hy with hy | hy
          · exact .inl ((h1.mem y).2 ⟨q, hq, hy⟩)
          · exact .inr (List.mem_singleton.1 hy)
        · exact .inl ((h1.mem y).2 ⟨q, hq, hy⟩)
    split
    · rename_i hc
      exact ⟨hk, h1.once, fun y => by rw [← hm y]; exact ⟨.inl, fun h => h.elim _root_.id (fun e => e ▸ hc)⟩, he⟩
    · rename_i hc
      refine ⟨hk, ?_, fun y => by rw [← hm y, List.mem_append, List.mem_singleton], he⟩
      rw [List.nodup_append]
      exact ⟨h1.once, by simp, fun a ha b hb e2 => hc (by rw [← List.mem_singleton.1 hb, ← e2]; exact ha)⟩
theorem good_cut {P : Pl} {C : List Wy} (h : Good P C) {Q : Pl} (hk : (Q.map (·.1)).Nodup) (he : ∀ p ∈ Q, p.2.2.Nodup) (hs : ∀ p ∈ Q, ∀ y ∈ p.2.2, ∃ q ∈ P, y ∈ q.2.2) : Good Q (C.filter (usedP Q)) := by
  refine ⟨hk, h.once.filter _, fun y => ?_, he⟩
  rw [List.mem_filter]
  unfold usedP
  rw [List.any_eq_true]
  constructor
  · rintro ⟨_, p, hp, hy⟩; exact ⟨p, hp, by simpa using hy⟩
  · rintro ⟨p, hp, hy⟩; exact ⟨(h.mem y).2 (hs p hp y hy), p, hp, by simpa using hy⟩
theorem good_forget {P : Pl} {C : List Wy} (h : Good P C) (id : Int) : Good (P.filter fun p => decide (p.1 ≠ id)) (C.filter (usedP (P.filter fun p => decide (p.1 ≠ id)))) :=
  good_cut h ((List.Sublist.map _ List.filter_sublist).nodup h.keys) (fun p hp => h.each p (List.mem_filter.1 hp).1) (fun p hp _ hy => ⟨p, (List.mem_filter.1 hp).1, hy⟩)
theorem good_lose {P : Pl} {C : List Wy} (h : Good P C) (w : Wy) : Good (loseP P w) (C.filter (usedP (loseP P w))) := by
  refine good_cut h ?_ (fun p hp => ?_) (fun p hp y hy => ?_)
  · have e : (loseP P w).map (·.1) = P.map (·.1) := by unfold loseP; rw [List.map_map]; rfl
    rw [e]; exact h.keys
  · obtain ⟨q, hq, rfl⟩ := List.mem_map.1 hp
    exact (h.each q hq).filter _
  · obtain ⟨q, hq, rfl⟩ := List.mem_map.1 hp
    exact ⟨q, hq, (List.mem_filter.1 hy).1⟩
theorem noW_at {w : Wy} {pre post : List Wy} (hn : (pre ++ w :: post).Nodup) (h : w ∉ pre) : noW w (pre ++ w :: post) = pre ++ post := by
  unfold noW
  have h2 : w ∉ post := fun hm => by
    rw [List.nodup_append] at hn
    exact (List.nodup_cons.1 hn.2.1).1 hm
  rw [List.filter_append, List.filter_cons, if_neg (by simp)]
  congr 1
  · exact List.filter_eq_self.2 (fun x hx => by
      have : x ≠ w := fun e => h (e ▸ hx)
      simpa using this)
  · exact List.filter_eq_self.2 (fun x hx => by
      have : x ≠ w := fun e => h2 (e ▸ hx)
      simpa using this)
/-- Those that stand no more, in the row's order. -/
def goneR (P : Pl) (w : Wy) : List Int := (P.filter fun p => goneQ w (some p.2)).map (·.1)
theorem gone_lost {P : Pl} (hn : (P.map (·.1)).Nodup) (w : Wy) {r : List Int} (hp : r.Perm (goneR P w)) (hs : r.Pairwise (· ≤ ·)) : lost P w = r := by
  have e : goneR P w = (P.map (·.1)).filter (goneP P w) := by
    unfold goneR
    rw [List.filter_map]
    congr 1
    refine List.filter_congr (fun p hm => ?_)
    simp only [Function.comp_apply, goneP]
    rw [wh_of hn hm]
  have h1 : (lost P w).Perm r := by
    refine List.Perm.trans ?_ hp.symm
    rw [e]
    unfold lost rise
    exact (List.mergeSort_perm _ _).filter _
  have h2 : (lost P w).Pairwise (· ≤ ·) := by
    unfold lost rise
    have := List.pairwise_mergeSort (le := fun a b : Int => decide (a ≤ b)) (fun a b c h1 h2 => by simp at *; omega) (fun a b => by simp; omega) (P.map (·.1))
    exact (this.imp (fun h => by simpa using h)).filter _
  exact h1.eq_of_pairwise (fun a b _ _ h1 h2 => Int.le_antisymm h1 h2) h2 hs
theorem sup_few (P : Pl) (id : Int) (w : Wy) (C : List Wy) : (supC P C id w).length ≤ C.length + 1 := by
  unfold supC
  split
  · omega
  · split
    · omega
    · simp
end Go.Proofs.Ytonflknnlfffhaa
