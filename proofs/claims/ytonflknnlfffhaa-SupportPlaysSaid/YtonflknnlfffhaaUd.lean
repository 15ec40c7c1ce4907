/- slices.DeleteFunc at supports. -/
import Derived.Test.YtonflknnlfffhaaUc
namespace Go.Proofs.Ytonflknnlfffhaa
open Go.RowKit Go.Lib KP MR RW
theorem zW_flat : ∀ u ∈ zW.cells, u.oneCell' = true := by
  intro u hu
  have : u ∈ ([.int .i64 0, .int .i64 0, .slice none 0 0] : List Value) := by simpa [zW, Value.cells] using hu
  simp at this
  rcases this with rfl | rfl <;> rfl
/-- 'clear(s[n:n+k])' behind a row. -/
theorem run_clearN {α : Type} {f : α → List Value} {m : Nat} {P : Program} (w : World) (t ty : TypeId) (base : Nat) (e : TypeId) (z : Value) (ht : P.underlying t = some (.slice e)) (hz : ∀ w, (zeroValue e).run P w = .ok z w) (hzs : z.cells.size = m) (hz1 : ∀ u ∈ z.cells, u.oneCell' = true) (g cap n k : Nat) (l : List α) (A : Addr) (hA : A = ⟨g, n * m, none⟩)
    (hown : OwnW w base e m (.slice (some ⟨g, 0, none⟩) n cap) n (l.flatMap f)) (hn : n + k ≤ cap) (hm0 : 0 < m) (hk0 : 0 < k) :
    ∃ w', (∀ c, (Builtin.clear_ #[t] ty #[.slice (some A) k c]).run P w = .ok (.tuple #[]) w') ∧ OwnW w' base e m (.slice (some ⟨g, 0, none⟩) n cap) n (l.flatMap f) ∧ w.grownBy w' (some g) ∧ w'.heap.size = w.heap.size := by
  subst hA
  obtain ⟨k, rfl⟩ : ∃ q, k = q + 1 := ⟨k - 1, by omega⟩
  rcases hown.2 with ⟨e1, _⟩ | ⟨g', cap', cur, e1, hbg, hg, hnc, hcm, hcs, htake⟩
  · cases e1
  injection e1 with e1 _ e3
  injection e1 with e1
  injection e1 with e1
  subst e1 e3
  have hzl : (Builtin.zeroCells z.cells (k + 1)).toList.length = (k + 1) * m := by simp [Builtin.zeroCells, hzs]
  have hz2 : ∀ u ∈ (Builtin.zeroCells z.cells (k + 1)).toList, u.oneCell' = true := by
    intro u hu
    simp only [Builtin.zeroCells, Array.toList_map, List.mem_map] at hu
    obtain ⟨j, hj, rfl⟩ := hu
    have hlt : j % z.cells.size < z.cells.size := Nat.mod_lt _ (by rw [hzs]; exact hm0)
    rw [getElem!_pos z.cells _ hlt]
    exact hz1 _ (Array.getElem_mem hlt)
  have hfit : n * m + 0 + (Builtin.zeroCells z.cells (k + 1)).toList.length ≤ cur.size := by
    rw [hzl, Nat.add_zero, ← Nat.add_mul]
    exact Nat.le_trans (Nat.mul_le_mul_right _ hn) hcs
  have hst := run_storeCells_at (P := P) g (n * m) e (Builtin.zeroCells z.cells (k + 1)).toList 0 cur w hg hfit hz2
  obtain ⟨cs, hcse⟩ : ∃ cs, cs = (cur.toList.take (n * m + 0) ++ (Builtin.zeroCells z.cells (k + 1)).toList ++ cur.toList.drop (n * m + 0 + (Builtin.zeroCells z.cells (k + 1)).toList.length)).toArray := ⟨_, rfl⟩
  rw [← hcse] at hst
  refine ⟨w.setRow g cs, ?_, ⟨hown.1, .inr ⟨g, cap, cs, rfl, hbg, setRow_heap w g cur cs e _ hg, hnc, hcm, ?_, ?_⟩⟩, ⟨rfl, rfl, rfl, by simp, fun j _ hj => setRow_other w g j _ (fun e => hj (by rw [e]))⟩, by simp [World.setRow]⟩
  · intro c; simp [Builtin.clear_, run_underlying ht, hz, hst]
  · rw [hcse]
    simp only [List.size_toArray, List.length_append, List.length_take, List.length_drop, Array.length_toList]
    omega
  · rw [hcse, ← htake, Nat.add_zero, List.append_assoc]
    have e6 : n * m = (cur.toList.take (n * m)).length := by rw [List.length_take, Array.length_toList]; omega
    conv => lhs; arg 1; rw [e6]
    rw [List.take_left]
theorem OwnY.less {W : World} {B g cap : Nat} {F M : List Wf} (h : OwnY W B (.slice (some ⟨g, 0, none⟩) (F ++ M).length cap) (F ++ M)) : OwnY W B (.slice (some ⟨g, 0, none⟩) F.length cap) F ∧ F.length + M.length ≤ cap := by
  rcases h.2 with ⟨e, _⟩ | ⟨g', cap', cur, e, a2, a3, a4, a5, a6, a7⟩
  · cases e
  · injection e with e1 _ e3
    injection e1 with e1
    injection e1 with e1
    subst e1 e3
    rw [List.length_append] at a4 a7
    refine ⟨⟨flat_len whyc_len F, .inr ⟨g, cap, cur, rfl, a2, a3, by omega, a5, a6, ?_⟩⟩, a4⟩
    have := congrArg (List.take (F.length * 3)) a7
    rw [List.take_take, Nat.min_eq_left (Nat.mul_le_mul_right _ (by omega)), List.flatMap_append, ← flat_len whyc_len F, List.take_left] at this
    rw [← flat_len whyc_len F]
    exact this
/-- Three cells set: the row with another support. -/
theorem OwnY.setAt {W : World} {B g cap : Nat} {L : List Wf} (h : OwnY W B (.slice (some ⟨g, 0, none⟩) L.length cap) L) (i : Nat) (y : Wf) (hi : i < L.length) : OwnY (((W.setCell ⟨g, i * 3, none⟩ (.int .i64 y.1.1)).setCell ⟨g, i * 3 + 1, none⟩ (.int .i64 y.1.2.1)).setCell ⟨g, i * 3 + 2, none⟩ y.sl) B (.slice (some ⟨g, 0, none⟩) L.length cap) (L.set i y) := by
  rcases h.2 with ⟨e, _⟩ | ⟨g', cap', cur, e, a2, a3, a4, a5, a6, a7⟩
  · cases e
  · injection e with e1 _ e3
    injection e1 with e1
    injection e1 with e1
    subst e1 e3
    have h1 := block_set (block_set (block_set a3 (j := i * 3) (.int .i64 y.1.1)) (j := i * 3 + 1) (.int .i64 y.1.2.1)) (j := i * 3 + 2) y.sl
    refine ⟨by rw [flat_len whyc_len, List.length_set], .inr ⟨g, cap, _, by rw [List.length_set], a2, h1, by rw [List.length_set]; exact a4, a5, by simpa using a6, ?_⟩⟩
    rw [Array.toList_setIfInBounds, Array.toList_setIfInBounds, Array.toList_setIfInBounds, List.length_set, List.take_set, List.take_set, List.take_set, a7]
    refine List.ext_getElem? (fun q => ?_)
    have hfl := flat_len whyc_len L
    have hfl2 := flat_len whyc_len (L.set i y)
    rw [List.length_set] at hfl2
    by_cases hq : q < L.length * 3
    · obtain ⟨k, j, hj, rfl⟩ : ∃ k j, j < 3 ∧ q = k * 3 + j := ⟨q / 3, q % 3, Nat.mod_lt _ (by decide), by omega⟩
      have hk : k < L.length := by omega
      have e2 := flat_at whyc_len (L.set i y) k (by simpa using hk) j hj
      have hlen : ∀ q, q < 3 → k * 3 + q < (L.flatMap whyc).length := fun q hq => by rw [hfl]; omega
      have e1 := flat_at whyc_len L k hk j hj
      rw [e2]
      by_cases hki : k = i
      · subst hki
        rw [List.getElem_set_self]
        match j, hj with
        | 0, _ => rw [List.getElem?_set_ne (by omega), List.getElem?_set_ne (by omega), Nat.add_zero, List.getElem?_set_self (by have := hlen 0 (by omega); rwa [Nat.add_zero] at this)]; rfl
        | 1, _ => rw [List.getElem?_set_ne (by omega), List.getElem?_set_self (by rw [List.length_set]; exact hlen 1 (by omega))]; rfl
        | 2, _ => rw [List.getElem?_set_self (by rw [List.length_set, List.length_set]; exact hlen 2 (by omega))]; rfl
      · rw [List.getElem?_set_ne (by omega), List.getElem?_set_ne (by omega), List.getElem?_set_ne (by omega), e1, List.getElem_set_ne (fun e => hki e.symm)]
    · rw [List.getElem?_eq_none (by simp only [List.length_set]; omega), List.getElem?_eq_none (by omega)]
theorem keep3 (w : World) (g n c a b d : Nat) (x y z : Value) : Keep (fun k => (Value.slice (some ⟨g, 0, none⟩) n c).ownBlock = some k) w (((w.setCell ⟨g, a, none⟩ x).setCell ⟨g, b, none⟩ y).setCell ⟨g, d, none⟩ z) := by
  have h0 : Keep (fun k => (Value.slice (some ⟨g, 0, none⟩) n c).ownBlock = some k) w w := Keep.refl _ w
  have h1 := h0.setCell (p := ⟨g, a, none⟩) (.inl rfl) x
  have h2 := h1.setCell (p := ⟨g, b, none⟩) (.inl rfl) y
  exact h2.setCell (p := ⟨g, d, none⟩) (.inl rfl) z
/-- While supports are struck: i are kept of the first j. -/
def Ds (L : List Wf) (p : Wf → Bool) (g cap B : Nat) (W : World) (i j : Nat) (wr : World) : Prop :=
  ∃ mid : List Wf, mid ≠ [] ∧ i = ((L.take j).filter fun y => !p y).length ∧ i + mid.length = j ∧ j ≤ L.length ∧ OwnY wr B (.slice (some ⟨g, 0, none⟩) L.length cap) (((L.take j).filter fun y => !p y) ++ (mid ++ L.drop j)) ∧ Keep (fun k => k = g) W wr
section
variable {L : List Wf} {p : Wf → Bool} {g cap B i j : Nat} {W wr w' : World}
theorem own_len {X : List Wf} {n : Nat} (h : OwnY wr B (.slice (some ⟨g, 0, none⟩) n cap) X) : X.length = n := by
  rcases h.2 with ⟨e, _⟩ | ⟨g', cap', cur, e, _⟩
  · cases e
  · injection e with _ e2 _
    exact e2.symm
theorem Ds.below (h : Ds L p g cap B W i j wr) (hb : Below wr.heap.size wr w') : Ds L p g cap B W i j w' := by
  obtain ⟨mid, h1, h2, h3, h4, h5, h6⟩ := h
  exact ⟨mid, h1, h2, h3, h4, h5.below hb, h6.trans (Keep.of_below hb (fun _ => False)) (fun _ h => h.elim)⟩
theorem Ds.start (hO : OwnY W B (.slice (some ⟨g, 0, none⟩) L.length cap) L) (hi : i < L.length) (hp : p L[i] = true) (hb : ∀ j (hj : j < i), p (L[j]'(by omega)) = false) (b1 : Below W.heap.size W wr) : Ds L p g cap B W i (i + 1) wr := by
  have e0 : (L.take i).filter (fun y => !p y) = L.take i := by
    rw [List.filter_eq_self]
    intro y hy
    obtain ⟨k, hk, rfl⟩ := List.getElem_of_mem hy
    rw [List.length_take] at hk
    rw [List.getElem_take, hb k (by omega)]
    rfl
  have e1 : (L.take (i + 1)).filter (fun y => !p y) = L.take i := by
    rw [List.take_succ_eq_append_getElem hi, List.filter_append, List.filter_cons_of_neg (by simp [hp]), e0]
    simp
  refine ⟨[L[i]], by simp, by rw [e1, List.length_take]; omega, by simp, by omega, ?_, Keep.of_below b1 _⟩
  rw [e1]
  have e2 : L.take i ++ ([L[i]] ++ L.drop (i + 1)) = L := by
    rw [← List.append_assoc, ← List.take_succ_eq_append_getElem hi, List.take_append_drop]
  have := hO.below b1
  unfold OwnY at this ⊢
  rw [e2]
  exact this
theorem Ds.skip (h : Ds L p g cap B W i j wr) (hj : j < L.length) (hp : p L[j] = true) : Ds L p g cap B W i (j + 1) wr := by
  obtain ⟨mid, h1, h2, h3, h4, h5, h6⟩ := h
  have e1 : (L.take (j + 1)).filter (fun y => !p y) = (L.take j).filter fun y => !p y := by
    rw [List.take_succ_eq_append_getElem hj, List.filter_append, List.filter_cons_of_neg (by simp [hp])]
    simp
  refine ⟨mid ++ [L[j]], by simp, by rw [e1]; exact h2, by simp; omega, by omega, ?_, h6⟩
  rw [e1, List.append_assoc]
  have e2 : [L[j]] ++ L.drop (j + 1) = L.drop j := by rw [List.drop_eq_getElem_cons hj]; rfl
  rw [e2]
  exact h5
theorem Ds.at0 (h : Ds L p g cap B W i j wr) (hj : j < L.length) : ∀ q v, (whyc L[j])[q]? = some v → wr.cell? ⟨g, j * 3 + q, none⟩ = some v := by
  obtain ⟨mid, h1, h2, h3, h4, h5, h6⟩ := h
  have hlen : (((L.take j).filter fun y => !p y) ++ (mid ++ L.drop j)).length = L.length := own_len h5
  rcases h5.2 with ⟨e, _⟩ | ⟨g', cap', cur, e, a2, a3, a4, a5, a6, a7⟩
  · cases e
  injection e with e1 _ e3
  injection e1 with e1
  injection e1 with e1
  subst e1 e3
  have hr := rows_own (f := whyc) (m := 3) (N := fun _ => False) whyc_len a3 (n := (((L.take j).filter fun y => !p y) ++ (mid ++ L.drop j)).length) (by exact a7) (fun h => h)
  intro q v hq
  obtain ⟨ad, ea, _, hc⟩ := hr j (by omega)
  obtain rfl := Option.some.inj ea
  have e3 : (((L.take j).filter fun y => !p y) ++ (mid ++ L.drop j))[j]? = some L[j] := by
    rw [← List.append_assoc, List.getElem?_append_right (by simp; omega), List.getElem?_drop]
    have : j + (j - (((L.take j).filter fun y => !p y) ++ mid).length) = j := by simp; omega
    rw [this, List.getElem?_eq_getElem hj]
  have e2 : (((L.take j).filter fun y => !p y) ++ (mid ++ L.drop j))[j]'(by omega) = L[j] := by
    rw [List.getElem?_eq_getElem (by omega)] at e3
    exact Option.some.inj e3
  have h9 := hc q v (by rw [e2]; exact hq)
  rwa [addr_flat] at h9
theorem Ds.room (h : Ds L p g cap B W i j wr) (hj : j < L.length) (hij : i < j) : (∃ v, wr.cell? ⟨g, i * 3, none⟩ = some v) ∧ (∃ v, wr.cell? ⟨g, i * 3 + 1, none⟩ = some v) ∧ (∃ v, wr.cell? ⟨g, i * 3 + 2, none⟩ = some v) ∧ wr.frozen? ⟨g, i * 3, none⟩ = false ∧ wr.frozen? ⟨g, i * 3 + 1, none⟩ = false ∧ wr.frozen? ⟨g, i * 3 + 2, none⟩ = false := by
  obtain ⟨mid, h1, h2, h3, h4, h5, h6⟩ := h
  rcases h5.2 with ⟨e, _⟩ | ⟨g', cap', cur, e, a2, a3, a4, a5, a6, a7⟩
  · cases e
  injection e with e1 _ e3
  injection e1 with e1
  injection e1 with e1
  subst e1 e3
  have hc : ∀ q, q < 3 → ∃ v, wr.cell? ⟨g, i * 3 + q, none⟩ = some v := fun q hq => ⟨_, block_cell a3 (Array.getElem?_eq_getElem (by omega))⟩
  exact ⟨hc 0 (by omega), hc 1 (by omega), hc 2 (by omega), block_free a3, block_free a3, block_free a3⟩
theorem Ds.put (h : Ds L p g cap B W i j wr) (hj : j < L.length) (hij : i < j) (hp : p L[j] = false) : Ds L p g cap B W (i + 1) (j + 1) (((wr.setCell ⟨g, i * 3, none⟩ (.int .i64 L[j].1.1)).setCell ⟨g, i * 3 + 1, none⟩ (.int .i64 L[j].1.2.1)).setCell ⟨g, i * 3 + 2, none⟩ L[j].sl) := by
  obtain ⟨mid, h1, h2, h3, h4, h5, h6⟩ := h
  have hlen : (((L.take j).filter fun y => !p y) ++ (mid ++ L.drop j)).length = L.length := own_len h5
  have e1 : (L.take (j + 1)).filter (fun y => !p y) = ((L.take j).filter fun y => !p y) ++ [L[j]] := by
    rw [List.take_succ_eq_append_getElem hj, List.filter_append, List.filter_cons_of_pos (by simp [hp])]
    rfl
  obtain ⟨m0, mid', rfl⟩ := List.exists_cons_of_ne_nil h1
  rw [← hlen] at h5
  have h7 := OwnY.setAt h5 i L[j] (by rw [hlen]; omega)
  rw [hlen] at h7
  have e2 : (((L.take j).filter fun y => !p y) ++ (m0 :: mid' ++ L.drop j)).set i L[j] = (((L.take j).filter fun y => !p y) ++ [L[j]]) ++ ((mid' ++ [L[j]]) ++ L.drop (j + 1)) := by
    rw [h2, List.set_append_right _ _ (Nat.le_refl _), Nat.sub_self, List.drop_eq_getElem_cons hj]
    simp
  rw [e2] at h7
  refine ⟨mid' ++ [L[j]], by simp, by rw [e1, List.length_append, ← h2]; rfl, by simp at h3 ⊢; omega, by omega, by rw [e1]; exact h7, ?_⟩
  exact ((h6.setCell (.inl rfl) _).setCell (.inl rfl) _).setCell (.inl rfl) _
theorem Ds.finish (h : Ds L p g cap B W i j wr) (hj : j = L.length) (hij : i < j) : ∃ w4, (∀ c, (Builtin.clear_ #[46] 0 #[.slice (some ⟨g, i * 3, none⟩) (j - i) c]).run Try.prog wr = .ok (.tuple #[]) w4) ∧ DelR L p (.slice (some ⟨g, 0, none⟩) j cap) B W (.returned (.slice (some ⟨g, 0, none⟩) i cap)) w4 := by
  subst hj
  obtain ⟨mid, h1, h2, h3, h4, h5, h6⟩ := h
  rw [List.drop_length, List.append_nil, List.take_length] at h5
  rw [List.take_length] at h2
  have hlen : (L.filter (fun y => !p y) ++ mid).length = L.length := own_len h5
  rw [← hlen] at h5
  obtain ⟨h7, h8⟩ := OwnY.less h5
  obtain ⟨w4, r1, r2, r3, r4⟩ := run_clearN (P := Try.prog) wr (f := whyc) (m := 3) 46 0 B 50 zW Try.underlying46 zeroW rfl zW_flat g cap _ mid.length _ ⟨g, (L.filter fun y => !p y).length * 3, none⟩ rfl h7 h8 (by decide) (List.length_pos_iff.2 h1)
  refine ⟨w4, fun c => ?_, _, rfl, ?_, rfl, ?_⟩
  · have e1 : L.length - i = mid.length := by omega
    rw [e1, h2]
    exact r1 c
  · rw [h2]; exact r2
  · have hk : Keep (fun k => k = g) W w4 := h6.grown r3 (fun k hk => .inl (by injection hk with hk; exact hk.symm))
    exact hk.mono (fun k hk => by rw [hk]; rfl)
end
end Go.Proofs.Ytonflknnlfffhaa
