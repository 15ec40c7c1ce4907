/- Rows of the call's own, clipped ones too: append, delete, clear. Over any program. -/
import Derived.Test.YtonflknnlfffhaaRw
namespace Go.Proofs.Ytonflknnlfffhaa.RW
open Go.RowKit KP
/-- A slice value owns a row (it may have been clipped). -/
def OwnW (w : World) (base : Nat) (e : TypeId) (m : Nat) (v : Value) (n : Nat) (xs : List Value) : Prop :=
  xs.length = n * m ∧ ((v = .slice none 0 0 ∧ n = 0) ∨ ∃ g cap cur, v = .slice (some ⟨g, 0, none⟩) n cap ∧ base ≤ g ∧ w.heap[g]? = some (.cells cur e (0, 0)) ∧ n ≤ cap ∧ cap ≤ maxLen ∧ cap * m ≤ cur.size ∧ cur.toList.take (n * m) = xs)
section
variable {w w1 : World} {base e m n : Nat} {v : Value} {xs : List Value} {F : Nat → Prop}
theorem OwnW.of (h : w.ownsRow base e m v n xs) : OwnW w base e m v n xs := by
  obtain ⟨h1, h2⟩ := h
  refine ⟨h1, ?_⟩
  rcases h2 with h2 | ⟨g, cap, cur, a1, a2, a3, a4, a5, a6, a7⟩
  · exact .inl h2
  · exact .inr ⟨g, cap, cur, a1, a2, a3, a4, a5, by omega, a7⟩
theorem OwnW.nil (w : World) (base e m : Nat) : OwnW w base e m (.slice none 0 0) 0 [] := ⟨by simp, .inl ⟨rfl, rfl⟩⟩
theorem OwnW.lt (h : OwnW w base e m v n xs) {k : Nat} (hk : v.ownBlock = some k) : base ≤ k ∧ k < w.heap.size := by
  rcases h.2 with ⟨rfl, _⟩ | ⟨g, cap, cur, rfl, a2, a3, _⟩
  · cases hk
  · injection hk with hk; subst hk; exact ⟨a2, (Array.getElem?_eq_some_iff.1 a3).1⟩
theorem OwnW.keep (h : OwnW w base e m v n xs) (hk : Keep F w w1) (hd : ∀ k, v.ownBlock = some k → ¬ F k) : OwnW w1 base e m v n xs := by
  obtain ⟨h1, h2⟩ := h
  refine ⟨h1, ?_⟩
  rcases h2 with h2 | ⟨g, cap, cur, rfl, a2, a3, r⟩
  · exact .inl h2
  · exact .inr ⟨g, cap, cur, rfl, a2, (hk.block g (Array.getElem?_eq_some_iff.1 a3).1 (hd g rfl)).trans a3, r⟩
theorem OwnW.below (h : OwnW w base e m v n xs) (hb : Below w.heap.size w w1) : OwnW w1 base e m v n xs := h.keep (Keep.of_below hb (fun _ => False)) (fun _ _ h => h)
theorem OwnW.mono {B : Nat} (h : OwnW w base e m v n xs) (hB : B ≤ base) : OwnW w B e m v n xs := by
  obtain ⟨h1, h2⟩ := h
  refine ⟨h1, ?_⟩
  rcases h2 with h2 | ⟨g, cap, cur, a1, a2, r⟩
  · exact .inl h2
  · exact .inr ⟨g, cap, cur, a1, Nat.le_trans hB a2, r⟩
theorem OwnW.clip {A : Option Addr} {c : Nat} (h : OwnW w base e m (.slice A n c) n xs) : OwnW w base e m (.slice A n n) n xs := by
  obtain ⟨h1, h2⟩ := h
  refine ⟨h1, ?_⟩
  rcases h2 with ⟨a1, a2⟩ | ⟨g, cap, cur, a1, a2, a3, a4, a5, a6, a7⟩
  · injection a1 with a1 _ _
    subst a1 a2
    exact .inl ⟨rfl, rfl⟩
  · injection a1 with a1 _ _
    subst a1
    exact .inr ⟨g, n, cur, rfl, a2, a3, Nat.le_refl _, by omega, Nat.le_trans (Nat.mul_le_mul_right _ a4) a6, a7⟩
theorem OwnW.ne {b : Nat} {cs : Array Value} {T : TypeId} {fr : Nat × Nat} (h : OwnW w base e m v n xs) (hb : w.heap[b]? = some (.cells cs T fr)) (hT : T ≠ e) : v.ownBlock ≠ some b := by
  intro hk
  rcases h.2 with ⟨rfl, _⟩ | ⟨g, cap, cur, rfl, a2, a3, _⟩
  · cases hk
  · injection hk with hk
    subst hk
    rw [a3] at hb
    injection hb with hb
    injection hb with _ hb _
    exact hT hb.symm
theorem OwnW.neMap {b : Nat} {es : Array MapEntry} {cl : Nat} (h : OwnW w base e m v n xs) (hb : w.heap[b]? = some (.map es cl)) : v.ownBlock ≠ some b := by
  intro hk
  rcases h.2 with ⟨rfl, _⟩ | ⟨g, cap, cur, rfl, a2, a3, _⟩
  · cases hk
  · injection hk with hk
    subst hk
    rw [a3] at hb
    cases hb
end
section
variable {α : Type} {f : α → List Value} {m : Nat} {N : Nat → Prop} {W : World} {l : List α}
theorem OwnW.rows (hm : ∀ x, (f x).length = m) (hm0 : 0 < m) {B n : Nat} {v : Value} {T : TypeId} (h : OwnW W B T m v n (l.flatMap f)) (hN : ∀ k, v.ownBlock = some k → ¬ N k) : ∃ A c, v = .slice A l.length c ∧ RowsAt f m N W A l ∧ l.length = n ∧ l.length ≤ c ∧ (A = none → c = 0) := by
  have hn : l.length = n := by have := h.1; rw [flat_len hm] at this; exact Nat.eq_of_mul_eq_mul_right hm0 this
  rcases h.2 with ⟨e1, e2⟩ | ⟨g1, cap, cur, e1, hB, hg1, hc1, hc2, hc3, hc4⟩
  · have : l = [] := List.eq_nil_of_length_eq_zero (by omega)
    subst this
    exact ⟨none, 0, e1, RowsAt.nil _ _ _, hn, Nat.le_refl _, fun _ => rfl⟩
  · exact ⟨_, cap, by rw [hn]; exact e1, rows_own hm hg1 hc4 (hN _ (by rw [e1]; rfl)), hn, by omega, fun h => by cases h⟩
theorem OwnW.made (hm : ∀ x, (f x).length = m) (W : World) (x : α) (T : TypeId) {B : Nat} (hB : B ≤ W.heap.size) : OwnW (W.alloc (.cells (f x).toArray T)) B T m (.slice (some ⟨W.heap.size, 0, none⟩) 1 1) 1 ([x].flatMap f) :=
  ⟨by rw [flat_len hm]; simp, .inr ⟨_, 1, _, rfl, hB, heap_alloc_new W _, Nat.le_refl _, by unfold maxLen; omega, by simp [hm], by simp [← hm x]⟩⟩
theorem run_append_ownW {P : Program} (w : World) (hm : ∀ x, (f x).length = m) (h1 : ∀ x, ∀ u ∈ f x, u.oneCell' = true) (hm0 : 0 < m) (t ty : TypeId) (base : Nat) (e : TypeId) (i : TypeInfo) (z : Value) (bytes : Nat) (ht : P.underlying t = some (.slice e)) (hi : P.info? e = some i) (hz : i.zero = some z)
    (hsize : i.size = m) (hby : i.bytes = bytes) (hzs : z.cells.size = m) (v : Value) (n : Nat) (l : List α) (hown : OwnW w base e m v n (l.flatMap f))
    (A : Option Addr) (c : Nat) (p : List α) (hA : A = none → c = 0) (hI : RowsAt f m (fun _ => False) w A p) (h63 : n + p.length ≤ maxLen) (hbytes : (n + p.length) * bytes ≤ 140737488355328) (hbase : base ≤ w.heap.size) :
    ∃ v' w', (Builtin.append_ #[t, t] ty #[v, .slice A p.length c]).run P w = .ok v' w' ∧ OwnW w' base e m v' (n + p.length) ((l ++ p).flatMap f) ∧ w.grownBy w' v.ownBlock ∧ (v'.ownBlock = v.ownBlock ∨ ∀ k, v'.ownBlock = some k → w.heap.size ≤ k) := by
  have hlen : ((l ++ p).flatMap f).length = (n + p.length) * m := by
    have := hown.1
    rw [flat_len hm] at this ⊢
    have hn := Nat.eq_of_mul_eq_mul_right hm0 this
    rw [List.length_append, hn]
  have hr0 : w.grownBy w v.ownBlock := ⟨rfl, rfl, rfl, Nat.le_refl _, fun _ _ _ => rfl⟩
  rcases hown.2 with ⟨rfl, rfl⟩ | ⟨g, cap, cur, rfl, hbg, hg, hnc, hcm, hcs, htake⟩
  · have hx : l = [] := by
      have := hown.1
      rw [flat_len hm] at this
      exact List.eq_nil_of_length_eq_zero (Nat.eq_of_mul_eq_mul_right hm0 (by simpa using this))
    subst hx
    have hO := World.ownsRow_nil w base e m
    cases A with
    | none =>
      have hp0 := hI.isNil
      subst hp0
      obtain rfl : c = 0 := hA rfl
      exact ⟨_, w, run_append_owned_none (P := P) (w := w) base t ty e i m ht hi _ 0 _ hO, by simpa using hown, hr0, .inl rfl⟩
    | some ad =>
      cases hp : p with
      | nil =>
        refine ⟨.slice none 0 0, w, ?_, by simpa using hown, hr0, .inl rfl⟩
        simp [Builtin.append_, run_underlying ht, sizeOf, typeInfo, hi, Builtin.lenOf, Builtin.firstCells, loadCells, loadCellsFrom]
      | cons y q =>
        rw [← hp]
        have hp0 : 0 < p.length := by rw [hp]; simp
        have hr := run_append_nil (P := P) w t ty e i z ht hi hz ad p.length c (p.flatMap f) (by rw [hsize]; exact flat_len hm p) (rows_news hm hI) hp0 (by simp only [maxLen] at h63; omega) (by rw [hby]; simp only [Nat.zero_add] at hbytes; omega)
        have hge := grownCap_ge w p.length 0 e
        have hcm2 : grownCap w p.length 0 e ≤ maxLen := grownCap_le_maxLen w p.length 0 e (by omega)
        refine ⟨_, _, hr, ⟨hlen, .inr ⟨w.heap.size, _, _, by rw [Nat.zero_add], hbase, heap_alloc_new w.drew _, by omega, hcm2, ?_, ?_⟩⟩, ⟨rfl, rfl, rfl, by simp, fun k hk _ => heap_alloc_old w.drew _ hk⟩, .inr (fun k hk => by injection hk with hk; subst hk; exact Nat.le_refl _)⟩
        · simp only [Array.size_append, List.size_toArray, size_zeroCells, hzs, flat_len hm p, ← Nat.add_mul]
          exact Nat.mul_le_mul_right _ (by omega)
        · simp only [Array.toList_append, List.nil_append]
          rw [Nat.zero_add, ← flat_len hm p]
          exact List.take_left
  · cases A with
    | none =>
      have hp0 := hI.isNil
      subst hp0
      obtain rfl : c = 0 := hA rfl
      have hO : w.ownsRow base e m (.slice (some ⟨g, 0, none⟩) n n) n (l.flatMap f) → True := fun _ => trivial
      refine ⟨.slice (some ⟨g, 0, none⟩) n cap, w, ?_, by simpa using hown, hr0, .inl rfl⟩
      simp [Builtin.append_, run_underlying ht, sizeOf, typeInfo, hi, Builtin.lenOf, hnc, Builtin.firstCells, storeCells, loadCells]
    | some ad =>
      by_cases hroom : n + p.length ≤ cap
      · have hfit : n * i.size + (p.flatMap f).length ≤ cur.size := by rw [flat_len hm, hsize, ← Nat.add_mul]; exact Nat.le_trans (Nat.mul_le_mul_right _ hroom) hcs
        have hr := run_append_room (P := P) w t ty e i ht hi g n cap cur hg ad p.length c (p.flatMap f) (by rw [hsize]; exact flat_len hm p) (rows_news hm hI) (flat_flat h1 p) hroom hfit
        refine ⟨_, _, hr, ⟨hlen, .inr ⟨g, cap, _, rfl, hbg, setRow_heap w g cur _ e _ hg, hroom, hcm, ?_, ?_⟩⟩, ⟨rfl, rfl, rfl, by simp, fun k _ hk => setRow_other w g k _ (fun e => hk (by simp [Value.ownBlock, e]))⟩, .inl rfl⟩
        · simp only [List.size_toArray, List.length_append, List.length_take, List.length_drop, Array.length_toList]
          omega
        · rw [hsize, htake, ← hlen, List.flatMap_append]
          exact List.take_left
      · have holds : ∀ j u, (l.flatMap f)[j]? = some u → w.cell? ((⟨g, 0, none⟩ : Addr).add j) = some u := by
          have := rows_own (N := fun _ => False) hm hg htake (fun h => h)
          exact rows_news hm this
        have hr := run_append_grow (P := P) w t ty e i z ht hi hz ⟨g, 0, none⟩ n cap (l.flatMap f) (by rw [hsize]; exact hown.1) holds ad p.length c (p.flatMap f) (by rw [hsize]; exact flat_len hm p) (rows_news hm hI) (by omega) (by simp only [maxLen] at h63; omega) (growslice_fits (by omega) (by rw [hby]; exact hbytes))
        have hge := grownCap_ge w (n + p.length) cap e
        have hcm2 : grownCap w (n + p.length) cap e ≤ maxLen := grownCap_le_maxLen w (n + p.length) cap e h63
        refine ⟨_, _, hr, ⟨hlen, .inr ⟨w.heap.size, _, _, rfl, hbase, heap_alloc_new w.drew _, hge, hcm2, ?_, ?_⟩⟩, ⟨rfl, rfl, rfl, by simp, fun k hk _ => heap_alloc_old w.drew _ hk⟩, .inr (fun k hk => by injection hk with hk; subst hk; exact Nat.le_refl _)⟩
        · simp only [Array.size_append, List.size_toArray, size_zeroCells, hzs, hown.1, flat_len hm p, ← Nat.add_mul]
          exact Nat.mul_le_mul_right _ (by omega)
        · simp only [Array.toList_append, List.append_assoc]
          rw [← List.append_assoc, ← List.flatMap_append, ← hlen]
          exact List.take_left
/-- 'append(buf, xs...)', buf a row of the call's own, xs any row, nil too. -/
theorem wpList_append_ownW {P : Program} {ops : Array Oper} {rest : List Oper} {o : Oper} {a : Act} {Q : Exit → Act → World → Prop} {w : World} (hm : ∀ x, (f x).length = m) (h1 : ∀ x, ∀ u ∈ f x, u.oneCell' = true) (hm0 : 0 < m) (hgd : o.guard = none) (s x : Operand) (t : TypeId)
    (ho : o.op = .call { callee := .builtin .append, args := #[s, x], argTypes := #[t, t] }) (base : Nat) (e : TypeId) (i : TypeInfo) (z : Value) (bytes : Nat) (ht : P.underlying t = some (.slice e)) (hi : P.info? e = some i) (hz : i.zero = some z)
    (hsize : i.size = m) (hby : i.bytes = bytes) (hzs : z.cells.size = m) (v : Value) (n : Nat) (l : List α) (hs : a.eval s = v) (hown : OwnW w base e m v n (l.flatMap f))
    (A : Option Addr) (c : Nat) (p : List α) (hA : A = none → c = 0) (hI : RowsAt f m (fun _ => False) w A p) (hx : a.eval x = .slice A p.length c) (h63 : n + p.length ≤ maxLen) (hbytes : (n + p.length) * bytes ≤ 140737488355328) (hbase : base ≤ w.heap.size)
    (h : ∀ v' w', OwnW w' base e m v' (n + p.length) ((l ++ p).flatMap f) → w.grownBy w' v.ownBlock → (v'.ownBlock = v.ownBlock ∨ ∀ k, v'.ownBlock = some k → w.heap.size ≤ k) → wpList P ops Q rest (a.put o.dst v') w') : wpList P ops Q (o :: rest) a w := by
  refine wpList_plain hgd fun K hK => ?_
  obtain ⟨v', w', hr, h2, h3, h4⟩ := run_append_ownW (P := P) w hm h1 hm0 t o.type base e i z bytes ht hi hz hsize hby hzs v n l hown A c p hA hI h63 hbytes hbase
  unfold Oper.wp execOp
  simp only [ho, resolve, invoke, builtin, Sem.run_bind, Sem.run_pure, Result.andThen_ok, List.map_toArray, List.map_cons, List.map_nil, hs, hx, hr]
  exact hK _ _ (h v' w' h2 h3 h4)
/-- .. as one step of a drawn region. -/
theorem step_append_ownW {P : Program} {ops : Array Oper} {o : Oper} {a : Act} {K : Act → World → Prop} {Q : Exit → Act → World → Prop} {E : Prop} {w : World} (hm : ∀ x, (f x).length = m) (h1 : ∀ x, ∀ u ∈ f x, u.oneCell' = true) (hm0 : 0 < m) (hgd : o.guard = none) (s x : Operand) (t : TypeId)
    (ho : o.op = .call { callee := .builtin .append, args := #[s, x], argTypes := #[t, t] }) (base : Nat) (e : TypeId) (i : TypeInfo) (z : Value) (bytes : Nat) (ht : P.underlying t = some (.slice e)) (hi : P.info? e = some i) (hz : i.zero = some z)
    (hsize : i.size = m) (hby : i.bytes = bytes) (hzs : z.cells.size = m) (v : Value) (n : Nat) (l : List α) (hs : a.eval s = v) (hown : OwnW w base e m v n (l.flatMap f))
    (A : Option Addr) (c : Nat) (p : List α) (hA : A = none → c = 0) (hI : RowsAt f m (fun _ => False) w A p) (hx : a.eval x = .slice A p.length c) (h63 : n + p.length ≤ maxLen) (hbytes : (n + p.length) * bytes ≤ 140737488355328) (hbase : base ≤ w.heap.size)
    (h : ∀ v' w', OwnW w' base e m v' (n + p.length) ((l ++ p).flatMap f) → w.grownBy w' v.ownBlock → (v'.ownBlock = v.ownBlock ∨ ∀ k, v'.ownBlock = some k → w.heap.size ≤ k) → K (a.put o.dst v') w') : if Region.wanted o (yielded ops a.tmps) = true then Oper.wp P o a w K Q else E := by
  have hw : Region.wanted o (yielded ops a.tmps) = true := by simp [Region.wanted, hgd]
  rw [if_pos hw]
  obtain ⟨v', w', hr, h2, h3, h4⟩ := run_append_ownW (P := P) w hm h1 hm0 t o.type base e i z bytes ht hi hz hsize hby hzs v n l hown A c p hA hI h63 hbytes hbase
  unfold Oper.wp execOp
  simp only [ho, resolve, invoke, builtin, Sem.run_bind, Sem.run_pure, Result.andThen_ok, List.map_toArray, List.map_cons, List.map_nil, hs, hx, hr]
  exact h v' w' h2 h3 h4
/-- 'append(s[:i], s[i+1:]...)': the i-th goes. -/
theorem run_delW {P : Program} (w : World) (hm : ∀ x, (f x).length = m) (h1 : ∀ x, ∀ u ∈ f x, u.oneCell' = true) (hm0 : 0 < m) (t ty : TypeId) (base : Nat) (e : TypeId) (i : TypeInfo) (ht : P.underlying t = some (.slice e)) (hi : P.info? e = some i) (hsize : i.size = m) (g cap n : Nat) (l : List α)
    (hown : OwnW w base e m (.slice (some ⟨g, 0, none⟩) n cap) n (l.flatMap f)) (k : Nat) (hk : k < n) (ad : Addr) (c : Nat) (had : ad = ⟨g, (k + 1) * m, none⟩ ∨ k + 1 = n) :
    ∃ w', (Builtin.append_ #[t, t] ty #[.slice (some ⟨g, 0, none⟩) k cap, .slice (some ad) (n - (k + 1)) c]).run P w = .ok (.slice (some ⟨g, 0, none⟩) (n - 1) cap) w' ∧ OwnW w' base e m (.slice (some ⟨g, 0, none⟩) (n - 1) cap) (n - 1) ((l.eraseIdx k).flatMap f) ∧ w.grownBy w' (some g) ∧ w'.heap.size = w.heap.size := by
  have hl : l.length = n := by have := hown.1; rw [flat_len hm] at this; exact Nat.eq_of_mul_eq_mul_right hm0 this
  rcases hown.2 with ⟨e1, _⟩ | ⟨g', cap', cur, e1, hbg, hg, hnc, hcm, hcs, htake⟩
  · cases e1
  injection e1 with e1 _ e3
  injection e1 with e1
  injection e1 with e1
  subst e1 e3
  have hrow := rows_own (N := fun _ => False) hm hg htake (fun h => h)
  have hnl : ((l.drop (k + 1)).flatMap f).length = (n - (k + 1)) * m := by rw [flat_len hm, List.length_drop, hl]
  have hnews : ∀ j u, ((l.drop (k + 1)).flatMap f)[j]? = some u → w.cell? (ad.add j) = some u := by
    intro j u hu
    rcases had with rfl | had
    · rw [flat_drop hm, List.getElem?_drop] at hu
      have := rows_news hm hrow _ u hu
      have e2 : (⟨g, 0, none⟩ : Addr).add ((k + 1) * m + j) = (⟨g, (k + 1) * m, none⟩ : Addr).add j := by
        simp [Addr.add]
        split <;> split <;> simp_all
      rwa [e2] at this
    · have := (List.getElem?_eq_some_iff.1 hu).1
      rw [hnl, had] at this
      simp at this
  have hfit : k * i.size + ((l.drop (k + 1)).flatMap f).length ≤ cur.size := by
    rw [hnl, hsize, ← Nat.add_mul]
    exact Nat.le_trans (Nat.mul_le_mul_right _ (by omega)) hcs
  have hr := run_append_room (P := P) w t ty e i ht hi g k cap cur hg ad (n - (k + 1)) c ((l.drop (k + 1)).flatMap f) (by rw [hsize]; exact hnl) hnews (flat_flat h1 _) (by omega) hfit
  have hkn : k + (n - (k + 1)) = n - 1 := by omega
  rw [hkn] at hr
  refine ⟨_, hr, ⟨by rw [flat_len hm, List.length_eraseIdx_of_lt (by omega), hl], .inr ⟨g, cap, _, rfl, hbg, setRow_heap w g cur _ e _ hg, by omega, hcm, ?_, ?_⟩⟩, ⟨rfl, rfl, rfl, by simp, fun j _ hj => setRow_other w g j _ (fun e => hj (by rw [e]))⟩, by simp [World.setRow]⟩
  · simp only [List.size_toArray, List.length_append, List.length_take, List.length_drop, Array.length_toList]
    omega
  · have e4 : cur.toList.take (k * i.size) = (l.take k).flatMap f := by
      rw [flat_take hm, hsize, ← htake, List.take_take, Nat.min_eq_left (Nat.mul_le_mul_right _ (by omega))]
    have e5 : (l.eraseIdx k).flatMap f = (l.take k).flatMap f ++ (l.drop (k + 1)).flatMap f := by rw [List.eraseIdx_eq_take_drop_succ, List.flatMap_append]
    have e6 : (n - 1) * m = ((l.take k).flatMap f ++ (l.drop (k + 1)).flatMap f).length := by
      rw [List.length_append, hnl, flat_len hm, List.length_take, hl, Nat.min_eq_left (by omega), ← Nat.add_mul, hkn]
    rw [e4, e5, e6]
    exact List.take_left
/-- 'clear(s[n:n+1])' of a row's room. -/
theorem run_clearW {P : Program} (w : World) (t ty : TypeId) (base : Nat) (e : TypeId) (z : Value) (ht : P.underlying t = some (.slice e)) (hz : ∀ w, (zeroValue e).run P w = .ok z w) (hzs : z.cells.size = m) (hz1 : ∀ u ∈ z.cells, u.oneCell' = true) (g cap n : Nat) (l : List α) (A : Addr) (hA : A = ⟨g, n * m, none⟩)
    (hown : OwnW w base e m (.slice (some ⟨g, 0, none⟩) n cap) n (l.flatMap f)) (hn : n < cap) :
    ∃ w', (∀ c, (Builtin.clear_ #[t] ty #[.slice (some A) 1 c]).run P w = .ok (.tuple #[]) w') ∧ OwnW w' base e m (.slice (some ⟨g, 0, none⟩) n cap) n (l.flatMap f) ∧ w.grownBy w' (some g) ∧ w'.heap.size = w.heap.size := by
  subst hA
  rcases hown.2 with ⟨e1, _⟩ | ⟨g', cap', cur, e1, hbg, hg, hnc, hcm, hcs, htake⟩
  · cases e1
  injection e1 with e1 _ e3
  injection e1 with e1
  injection e1 with e1
  subst e1 e3
  have hzl : (Builtin.zeroCells z.cells 1).toList.length = m := by simp [Builtin.zeroCells, hzs]
  have hz2 : ∀ u ∈ (Builtin.zeroCells z.cells 1).toList, u.oneCell' = true := by
    intro u hu
    simp only [Builtin.zeroCells, Nat.one_mul, Array.toList_map, List.mem_map] at hu
    obtain ⟨j, hj, rfl⟩ := hu
    have hj' : j < z.cells.size := by simpa using hj
    rw [Nat.mod_eq_of_lt hj', getElem!_pos z.cells j hj']
    exact hz1 _ (Array.getElem_mem hj')
  have hfit : n * m + 0 + (Builtin.zeroCells z.cells 1).toList.length ≤ cur.size := by
    rw [hzl, Nat.add_zero, ← Nat.succ_mul]
    exact Nat.le_trans (Nat.mul_le_mul_right _ (by omega)) hcs
  have hst := run_storeCells_at (P := P) g (n * m) e (Builtin.zeroCells z.cells 1).toList 0 cur w hg hfit hz2
  obtain ⟨cs, hcse⟩ : ∃ cs, cs = (cur.toList.take (n * m + 0) ++ (Builtin.zeroCells z.cells 1).toList ++ cur.toList.drop (n * m + 0 + (Builtin.zeroCells z.cells 1).toList.length)).toArray := ⟨_, rfl⟩
  rw [← hcse] at hst
  refine ⟨w.setRow g cs, ?_, ⟨hown.1, .inr ⟨g, cap, cs, rfl, hbg, setRow_heap w g cur cs e _ hg, hnc, hcm, ?_, ?_⟩⟩, ⟨rfl, rfl, rfl, by simp, fun j _ hj => setRow_other w g j _ (fun e => hj (by rw [e]))⟩, by simp [World.setRow]⟩
  · intro c; simp [Builtin.clear_, run_underlying ht, hz, hst]
  · rw [hcse]
    simp only [List.size_toArray, List.length_append, List.length_take, List.length_drop, Array.length_toList]
    omega
  · rw [hcse, ← htake, Nat.add_zero, List.append_assoc]
    have e6 : n * m = (cur.toList.take (n * m)).length := by rw [List.length_take, Array.length_toList]; omega
    conv => lhs; arg 1; rw [e6]
    rw [List.take_left]
/-- 'append' by its run. -/
theorem step_append_run {P : Program} {ops : Array Oper} {o : Oper} {a : Act} {K : Act → World → Prop} {Q : Exit → Act → World → Prop} {E : Prop} {w w' : World} {vs vx v' : Value} (hgd : o.guard = none) (s x : Operand) (t : TypeId)
    (ho : o.op = .call { callee := .builtin .append, args := #[s, x], argTypes := #[t, t] }) (hs : a.eval s = vs) (hx : a.eval x = vx) (hr : (Builtin.append_ #[t, t] o.type #[vs, vx]).run P w = .ok v' w')
    (h : K (a.put o.dst v') w') : if Region.wanted o (yielded ops a.tmps) = true then Oper.wp P o a w K Q else E := by
  have hw : Region.wanted o (yielded ops a.tmps) = true := by simp [Region.wanted, hgd]
  rw [if_pos hw]
  unfold Oper.wp execOp
  simp only [ho, resolve, invoke, builtin, Sem.run_bind, Sem.run_pure, Result.andThen_ok, List.map_toArray, List.map_cons, List.map_nil, hs, hx, hr]
  exact h
theorem wpList_clear_run {P : Program} {ops : Array Oper} {rest : List Oper} {o : Oper} {a : Act} {Q : Exit → Act → World → Prop} {w w' : World} {vx : Value} (hgd : o.guard = none) (x : Operand) (t : TypeId)
    (ho : o.op = .call { callee := .builtin .clear, args := #[x], argTypes := #[t] }) (hx : a.eval x = vx) (hr : (Builtin.clear_ #[t] o.type #[vx]).run P w = .ok (.tuple #[]) w')
    (h : wpList P ops Q rest (a.put o.dst (.tuple #[])) w') : wpList P ops Q (o :: rest) a w := by
  refine wpList_plain hgd fun K hK => ?_
  unfold Oper.wp execOp
  simp only [ho, resolve, invoke, builtin, Sem.run_bind, Sem.run_pure, Result.andThen_ok, List.map_toArray, List.map_cons, List.map_nil, hx, hr]
  exact hK _ _ h
end
end Go.Proofs.Ytonflknnlfffhaa.RW
