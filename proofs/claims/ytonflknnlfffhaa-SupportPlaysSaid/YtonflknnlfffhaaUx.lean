/- The law's acts, opened; the law's row in memory. -/
import Derived.Test.YtonflknnlfffhaaUw
import Derived.Test.YtonflknnlfffhaaLw
namespace Go.Proofs.Ytonflknnlfffhaa
open Go.ChangeShapes Go.WideShapes Go.RowKit Go.Deep RW KP MR
abbrev Af := (Int × Int) × Wf
abbrev actc (a : Af) : List Value := [.int .i64 a.1.1, .int .i64 a.1.2, .int .i64 a.2.1.1, .int .i64 a.2.1.2.1, a.2.sl]
theorem actc_len (a : Af) : (actc a).length = 5 := rfl
theorem cA : Try.prog.cellsOf 62 = 5 := by kernel_rfl
structure ActsIn (W : World) (A : Option Addr) (l : List Af) : Prop where
  row : RowsAt actc 5 (fun _ => False) W A l
  each : ∀ x ∈ l, WyIn W x.2 ∧ (Lit.int .i64 x.1.2).wf = true
section
variable {H : Type} {enc : TypeId × Value → H} {w : World}
set_option maxRecDepth 100000 in
theorem open_acells {n : Nat} {cs : List Value} {x : DataW H × List MemPlace} (h : DataW.trod enc Try.prog w 0 (fun _ => true) true n 62 cs = some x) :
    ∃ a : Af, cs = actc a ∧ WyIn w a.2 ∧ (Lit.int .i64 a.1.2).wf = true := by
  obtain ⟨xs, n', _, _, hlen, hxl, hfs⟩ := DataW.trod_struct Try.underlying62 h
  have hx : ∀ i (h : i < 3), ∃ x, xs[i]? = some x := fun i h => ⟨xs[i]'(by rw [hxl]; exact h), List.getElem?_eq_getElem _⟩
  obtain ⟨x0, e0⟩ := hx 0 (by omega)
  obtain ⟨x1, e1⟩ := hx 1 (by omega)
  obtain ⟨x2, e2⟩ := hx 2 (by omega)
  have h0 : DataW.trod enc Try.prog w 0 (fun _ => true) true n' 3 ((cs.drop 0).take (Try.prog.cellsOf 3)) = xs[0]? := hfs 0 _ rfl
  have h1 : DataW.trod enc Try.prog w 0 (fun _ => true) true n' 3 ((cs.drop 1).take (Try.prog.cellsOf 3)) = xs[1]? := hfs 1 _ rfl
  have h2 : DataW.trod enc Try.prog w 0 (fun _ => true) true n' 50 ((cs.drop 2).take (Try.prog.cellsOf 50)) = xs[2]? := hfs 2 _ rfl
  rw [e0, cI] at h0
  rw [e1, cI] at h1
  rw [e2, cW] at h2
  obtain ⟨k, hk, _, _⟩ := DataW.trod_int Try.underlying3 h0
  obtain ⟨m, hm, _, hw⟩ := DataW.trod_int Try.underlying3 h1
  obtain ⟨y, hy, hin⟩ := open_wcells h2
  rw [cA] at hlen
  refine ⟨((k, m), y), ?_, hin, hw⟩
  have q0 := take_one hk
  have q1 := take_one hm
  match cs, hlen with
  | [a0, a1, a2, a3, a4], _ =>
    simp at q0 q1 hy
    obtain ⟨rfl, rfl, rfl⟩ := hy
    subst q0 q1
    rfl
set_option maxRecDepth 100000 in
theorem open_acts {v : Value} {d : DataW H} {p : List MemPlace} (hv : ∃ a len cap, v = .slice a len cap) (h : DataW.Trod enc Try.prog w 0 (fun _ => true) true 59 v d p) :
    ∃ A ls c, v = .slice A ls.length c ∧ ActsIn w A ls := by
  obtain ⟨a0, len0, cap0, rfl⟩ := hv
  obtain ⟨fuel, hf⟩ := h
  rcases open_slice Try.underlying59 hf with ⟨hcs, _⟩ | ⟨a, len, cap, m, n, D, Pl, hcs, _, hl, hm, hmm, _, hel⟩
  · have : (Value.slice a0 len0 cap0) = .slice none 0 0 := by simpa [Value.cells] using hcs
    exact ⟨none, [], 0, this, ⟨fun k h => absurd h (by simp), fun _ h => by cases h⟩⟩
  · have hv : (Value.slice a0 len0 cap0) = .slice (some a) len cap := by simpa [Value.cells] using hcs
    rw [cA] at hel
    have hone : ∀ i, i < len → ∃ x : Af, (∀ j v, (actc x)[j]? = some v → w.cell? ((a.add (i * 5)).add j) = some v) ∧ WyIn w x.2 ∧ (Lit.int .i64 x.1.2).wf = true := by
      intro i hi
      obtain ⟨cs, h1, h2⟩ := hel i (by rw [hmm]; split <;> omega)
      obtain ⟨hlen, hcell⟩ := cells_at h1
      obtain ⟨x, e, hx⟩ := open_acells h2
      subst e
      exact ⟨x, hcell, hx⟩
    obtain ⟨ls, hlen, has⟩ := exists_list len hone
    exact ⟨some a, ls, cap, by rw [hv, hlen], ⟨fun k hk => ⟨a, rfl, fun h => h, (has k hk).1⟩, fun x hx => by
      obtain ⟨k, hk, rfl⟩ := List.getElem_of_mem hx
      exact (has k hk).2⟩⟩
end
theorem acts_at {N : Nat → Prop} {W : World} {A : Option Addr} {l : List Af} (h : RowsAt actc 5 N W A l) {k : Nat} (hk : k < l.length) : ∃ ad, A = some ad ∧ W.cell? (ad.add (k * 5)) = some (.int .i64 l[k].1.1) ∧ W.cell? ⟨(ad.add (k * 5)).block, (ad.add (k * 5)).off + 1, none⟩ = some (.int .i64 l[k].1.2) ∧ W.cell? ⟨(ad.add (k * 5)).block, (ad.add (k * 5)).off + 2, none⟩ = some (.int .i64 l[k].2.1.1) ∧ W.cell? ⟨(ad.add (k * 5)).block, (ad.add (k * 5)).off + 3, none⟩ = some (.int .i64 l[k].2.1.2.1) ∧ W.cell? ⟨(ad.add (k * 5)).block, (ad.add (k * 5)).off + 4, none⟩ = some l[k].2.sl := by
  obtain ⟨ad, e, hn, h0, hc⟩ := h.cell hk
  refine ⟨ad, e, h0 _ rfl, ?_, ?_, ?_, ?_⟩
  · exact (hc 1 _ rfl).resolve_right (by omega)
  · exact (hc 2 _ rfl).resolve_right (by omega)
  · exact (hc 3 _ rfl).resolve_right (by omega)
  · exact (hc 4 _ rfl).resolve_right (by omega)
/-- A support that some act bears. -/
def okY (l : List Af) (x : Wf) : Prop := x.1.2.2.length ≤ 20 ∧ ∃ a ∈ l, a.2 = x
theorem ActsIn.at {w W : World} {A : Option Addr} {l : List Af} (h : ActsIn w A l) (hb : Below w.heap.size w W) : RowsAt actc 5 (fun _ => False) W A l ∧ ∀ x, okY l x → ArgY W x ∧ IntsAt (fun q => w.heap.size ≤ q) W x.2.1 x.1.2.2 := by
  refine ⟨h.row.below hb, fun x hx => ?_⟩
  obtain ⟨hf, a, ha, rfl⟩ := hx
  have hw := (h.each a ha).1
  exact ⟨⟨hw.row.below hb, hw.nil, by omega⟩, (RowsAt.keep (N := fun q => False ∨ w.heap.size ≤ q) (RowsAt.old intc_len (by decide) hw.row) (Keep.of_below hb (fun _ => False)) (fun _ h => h.elim)).mono (fun k hk => .inr hk)⟩
section
variable {α : Type} {f : α → List Value} {m : Nat}
theorem flat_set (hm : ∀ x, (f x).length = m) (j : Nat) (hj : j < m) (v : Value) : ∀ (l : List α) (k : Nat) (h : k < l.length) (x : α), f x = (f l[k]).set j v → (l.flatMap f).set (k * m + j) v = (l.set k x).flatMap f
  | [], _, h, _, _ => by simp at h
  | y :: l, 0, _, x, e => by
    rw [List.set_cons_zero, List.flatMap_cons, List.flatMap_cons, Nat.zero_mul, Nat.zero_add, List.set_append_left _ _ (by rw [hm]; exact hj), e]
    rfl
  | y :: l, k + 1, h, x, e => by
    rw [List.set_cons_succ, List.flatMap_cons, List.flatMap_cons, List.set_append_right _ _ (by rw [hm, Nat.succ_mul]; omega), hm]
    have : (k + 1) * m + j - m = k * m + j := by rw [Nat.succ_mul]; omega
    rw [this, flat_set hm j hj v l k (by simpa using h) x (by simpa using e)]
theorem own_set (hm : ∀ x, (f x).length = m) {w : World} {B n : Nat} {T : TypeId} {ad : Addr} {c : Nat} {l : List α} (h : OwnW w B T m (.slice (some ad) n c) n (l.flatMap f)) {k : Nat} (hk : k < l.length) {j : Nat} (hj : j < m) (v : Value) (x : α) (e : f x = (f l[k]).set j v) :
    OwnW (w.setCell ⟨(ad.add (k * m)).block, (ad.add (k * m)).off + j, none⟩ v) B T m (.slice (some ad) n c) n ((l.set k x).flatMap f) ∧ (Value.slice (some ad) n c).ownBlock = some (ad.add (k * m)).block ∧ ∃ cs, w.heap[(ad.add (k * m)).block]? = some (.cells cs T (0, 0)) ∧ (ad.add (k * m)).off + j < cs.size := by
  obtain ⟨h1, h2⟩ := h
  rw [flat_len hm] at h1
  rcases h2 with ⟨e1, _⟩ | ⟨g, cap, cur, e1, a2, a3, a4, a5, a6, a7⟩
  · cases e1
  · injection e1 with e1 _ e3
    injection e1 with e1
    subst e1 e3
    have hkm : k * m + j < n * m := by
      have h3 : (k + 1) * m ≤ l.length * m := Nat.mul_le_mul_right _ hk
      rw [Nat.succ_mul] at h3
      omega
    have hadd : ((⟨g, 0, none⟩ : Addr).add (k * m)) = ⟨g, k * m, none⟩ := by
      unfold Addr.add
      split
      · rename_i h0; rw [h0]
      · simp
    rw [hadd]
    have hsz : k * m + j < cur.size := by
      have := Nat.mul_le_mul_right m a4
      omega
    refine ⟨⟨by rw [flat_len hm, List.length_set]; exact h1, .inr ⟨g, c, cur.setIfInBounds (k * m + j) v, rfl, a2, block_set a3 v, a4, a5, by simpa using a6, ?_⟩⟩, rfl, cur, a3, hsz⟩
    rw [Array.toList_setIfInBounds, List.take_set, a7, flat_set hm j hj v l k hk x e]
end
/-- The law's row, its supports in memory. -/
structure RowS (B : Nat) (F : Nat → Prop) (ok : Wf → Prop) (i : Nat) (vo : Value) (R : List Sf) (W : World) : Prop where
  own : OwnW W B 65 3 vo R.length (R.flatMap standc)
  nf : ∀ q, vo.ownBlock = some q → ¬ F q
  each : ∀ s ∈ R, RowsAt whyc 3 (fun q => F q ∨ vo.ownBlock = some q) W s.2.1 s.1.2.2
  nil : ∀ s ∈ R, (s.2.1 = none → s.2.2 = 0) ∧ s.1.2.2.length ≤ s.2.2
  of : ∀ s ∈ R, ∀ x ∈ s.1.2.2, ok x
  len : R.length ≤ i
  few : ∀ s ∈ R, s.1.2.2.length ≤ i
section
variable {B i i' : Nat} {F F' : Nat → Prop} {ok : Wf → Prop} {vo v' : Value} {R R' : List Sf} {W W' : World}
theorem RowS.table (h : RowS B F ok i vo R W) (hk : Keep F W W') (hF : ∀ q, F' q → F q ∨ W.heap.size ≤ q) : RowS B F' ok i vo R W' :=
  ⟨h.own.keep hk h.nf, fun q hq hF' => (hF q hF').elim (h.nf q hq) (fun h2 => by have := (h.own.lt hq).2; omega), fun s hs => ((RowsAt.old whyc_len (by decide) (h.each s hs)).keep hk (fun q hq => .inl (.inl hq))).mono (fun q hq => by
    rcases hq with hq | hq
    · rcases hF q hq with hq | hq
      · exact .inl (.inl hq)
      · exact .inr hq
    · exact .inl (.inr hq)), h.nil, h.of, h.len, h.few⟩
theorem RowS.below (h : RowS B F ok i vo R W) (hb : Below W.heap.size W W') : RowS B F ok i vo R W' := h.table (Keep.of_below hb F) (fun _ h => .inl h)
theorem RowS.more (h : RowS B F ok i vo R W) (hi : i ≤ i') : RowS B F ok i' vo R W := ⟨h.own, h.nf, h.each, h.nil, h.of, Nat.le_trans h.len hi, fun s hs => Nat.le_trans (h.few s hs) hi⟩
theorem RowS.row (h : RowS B F ok i vo R W) : ∃ A c, vo = .slice A R.length c ∧ RowsAt standc 3 (fun _ => False) W A R ∧ (A = none → c = 0) ∧ R.length ≤ c := by
  obtain ⟨A, c, e, hr, _, hc, hA⟩ := OwnW.rows (N := fun _ => False) standc_len (by decide) h.own (fun _ _ h => h)
  exact ⟨A, c, e, hr, hA, hc⟩
/-- A new row, of the elder one's stands or empty ones. -/
theorem RowS.fresh {b : Nat} (h : RowS B F ok i vo R W) (hb : Below W.heap.size W W') (ho : OwnW W' b 65 3 v' R'.length (R'.flatMap standc)) (hB : B ≤ W.heap.size) (hbW : W.heap.size ≤ b) (hF : ∀ q, F q → q < W.heap.size) (hsub : ∀ s ∈ R', s ∈ R ∨ (s.1.2.2 = [] ∧ s.2.2 = 0)) (hl : R'.length ≤ i') (hi : i ≤ i') : RowS B F ok i' v' R' W' :=
  ⟨ho.mono (Nat.le_trans hB hbW), (fun q hq hF' => by have h1 := (ho.lt hq).1; have h2 := hF q hF'; omega), (fun s hs => by
    rcases hsub s hs with h1 | ⟨h1, _⟩
    · exact ((RowsAt.old whyc_len (by decide) (h.each s h1)).keep (Keep.of_below hb (fun _ => False)) (fun _ h => h.elim)).mono (fun q hq => by
        rcases hq with hq | hq
        · exact .inl (.inl hq)
        · exact .inr (Nat.le_trans hbW (ho.lt hq).1))
    · rw [h1]; exact RowsAt.nil _ _ _), (fun s hs => (hsub s hs).elim (h.nil s) (fun h1 => ⟨fun _ => h1.2, by rw [h1.1]; exact Nat.zero_le _⟩)), (fun s hs x hx => by
    rcases hsub s hs with h1 | ⟨h1, _⟩
    · exact h.of s h1 x hx
    · rw [h1] at hx; cases hx), hl, (fun s hs => by
    rcases hsub s hs with h1 | ⟨h1, _⟩
    · exact Nat.le_trans (h.few s h1) hi
    · rw [h1]; exact Nat.zero_le _)⟩
/-- One cell of the row is another. -/
theorem RowS.put {ad : Addr} {c : Nat} (h : RowS B F ok i (.slice (some ad) R.length c) R W) {k : Nat} (hk : k < R.length) {j : Nat} (hj : j < 3) (v : Value) (x : Sf) (e : standc x = (standc R[k]).set j v)
    (hx : RowsAt whyc 3 (fun q => F q ∨ (Value.slice (some ad) R.length c).ownBlock = some q) W x.2.1 x.1.2.2) (hn : (x.2.1 = none → x.2.2 = 0) ∧ x.1.2.2.length ≤ x.2.2) (hok : ∀ y ∈ x.1.2.2, ok y) (hi : i ≤ i') (hf : x.1.2.2.length ≤ i') :
    RowS B F ok i' (.slice (some ad) (R.set k x).length c) (R.set k x) (W.setCell ⟨(ad.add (k * 3)).block, (ad.add (k * 3)).off + j, none⟩ v) ∧ Keep (fun q => (Value.slice (some ad) R.length c).ownBlock = some q) W (W.setCell ⟨(ad.add (k * 3)).block, (ad.add (k * 3)).off + j, none⟩ v) ∧ ∃ cs, W.heap[(ad.add (k * 3)).block]? = some (.cells cs 65 (0, 0)) ∧ (ad.add (k * 3)).off + j < cs.size := by
  obtain ⟨o1, o2, o3⟩ := own_set standc_len h.own hk hj v x e
  have hk9 : Keep (fun q => (Value.slice (some ad) R.length c).ownBlock = some q) W (W.setCell ⟨(ad.add (k * 3)).block, (ad.add (k * 3)).off + j, none⟩ v) := (Keep.refl _ W).setCell (.inl o2) v
  refine ⟨?_, hk9, o3⟩
  have hmem : ∀ s ∈ R.set k x, s = x ∨ s ∈ R := fun s hs => by
    rcases List.mem_or_eq_of_mem_set hs with h1 | h1
    · exact .inr h1
    · exact .inl h1
  rw [List.length_set]
  exact ⟨by rw [List.length_set]; exact o1, h.nf, fun s hs => by
    rcases hmem s hs with rfl | h1
    · exact hx.keep hk9 (fun q hq => .inr hq)
    · exact (h.each s h1).keep hk9 (fun q hq => .inr hq), fun s hs => by
    rcases hmem s hs with rfl | h1
    · exact hn
    · exact h.nil s h1, fun s hs => by
    rcases hmem s hs with rfl | h1
    · exact hok
    · exact h.of s h1, by rw [List.length_set]; exact Nat.le_trans h.len hi, fun s hs => by
    rcases hmem s hs with rfl | h1
    · exact hf
    · exact Nat.le_trans (h.few s h1) hi⟩
end
end Go.Proofs.Ytonflknnlfffhaa
