/- tms.Table, told plainly. -/
import Derived.Test.YtonflknnlfffhaaUn
namespace Go.Proofs.Ytonflknnlfffhaa
open Go.RowKit Go.Lib KP MR RW
/-- A table in the blocks F: its rows P, all that came C; w0 is as it was below B. -/
def Tab (B : Nat) (w0 : World) (F : Nat → Prop) (g : Nat) (P : Pl) (C : List Wy) (W : World) : Prop := (∃ m cv cs N, TS B F g m cv cs N W ∧ pl N = P ∧ cs.map (·.1) = C) ∧ Below B w0 W ∧ B ≤ W.heap.size
def standQ : Option (Bool × List Wy) → Bool
  | none => false
  | some q => q.1 || decide (0 < q.2.length)
def wh (P : Pl) (id : Int) : Bool × List Wy := (lk P id).getD (false, [])
theorem lk_pl (N : Tb) (id : Int) : lk (pl N) id = (lk N id).map fun nd => (nd.free, nd.ls.map (·.1)) := by
  unfold lk pl
  rw [List.find?_map, Option.map_map, Option.map_map]
  rfl
theorem stands_pl (N : Tb) (id : Int) : stands (lk N id) = standQ (lk (pl N) id) := by
  rw [lk_pl]
  cases lk N id with
  | none => rfl
  | some nd => simp [stands, standQ]
section
variable {B : Nat} {F F' : Nat → Prop} {g : Nat} {P : Pl} {C : List Wy} {w0 W W' : World}
theorem Tab.lt (h : Tab B w0 F g P C W) : ∀ k, F k → B ≤ k ∧ k < W.heap.size := by
  obtain ⟨⟨m, cv, cs, N, t, _, _⟩, _⟩ := h
  exact t.lt
theorem Tab.grow (h : Tab B w0 F g P C W) (hb : Below W.heap.size W W') : Tab B w0 F g P C W' := by
  obtain ⟨⟨m, cv, cs, N, t, h1, h2⟩, h3, h4⟩ := h
  exact ⟨⟨m, cv, cs, N, t.grow hb, h1, h2⟩, h3.trans (hb.mono h4), Nat.le_trans h4 hb.size⟩
theorem Tab.below (h : Tab B w0 F g P C W) : Below B w0 W := h.2.1
theorem Tab.kept (h : Tab B w0 F g P C W) (hk : Keep F W W') : Below B w0 W' ∧ B ≤ W'.heap.size := ⟨h.2.1.trans (hk.below h.2.2 (fun k hF => (h.lt k hF).1)), Nat.le_trans h.2.2 hk.size⟩
/-- A table is as it was where none of its blocks is touched. -/
theorem Tab.keep {G : Nat → Prop} (h : Tab B w0 F g P C W) (hk : Keep G W W') (hd : ∀ k, F k → ¬ G k) (hG : ∀ k, G k → B ≤ k) : Tab B w0 F g P C W' := by
  obtain ⟨⟨m, cv, cs, N, t, h1, h2⟩, h3, h4⟩ := h
  exact ⟨⟨m, cv, cs, N, t.keep hk hd, h1, h2⟩, h3.trans (hk.below h4 hG), Nat.le_trans h4 hk.size⟩
/-- Numbers that lie in none of the table's blocks. -/
theorem ints_next {A : Option Addr} {l : List Int} (h : IntsAt F W A l) (hk : Keep F W W') (hF : ∀ k, F' k → F k ∨ W.heap.size ≤ k) : IntsAt F' W' A l :=
  ((RowsAt.old intc_len (by decide) h).keep hk (fun k hk => .inl hk)).mono hF
theorem new_t (w : World) : Calls Try.prog 20 #[] w fun e w' => ∃ g F, e = .returned (.pointer (some ⟨g, 0, none⟩)) ∧ Tab w.heap.size w F g [] [] w' ∧ Below w.heap.size w w' := by
  refine (new_c w).mono ?_
  rintro e w' ⟨g, m, F, rfl, t, hb⟩
  exact ⟨g, F, rfl, ⟨⟨m, _, [], [], t, rfl, rfl⟩, hb, hb.size⟩, hb⟩
/-- What a call leaves that may add to the table. -/
def TabR (B : Nat) (w0 : World) (F : Nat → Prop) (g : Nat) (P : Pl) (C : List Wy) (W w' : World) : Prop := ∃ F', Tab B w0 F' g P C w' ∧ (∀ k, F k → F' k) ∧ (∀ k, F' k → F k ∨ W.heap.size ≤ k) ∧ Keep F W w'
theorem support_t (h : Tab B w0 F g P C W) (id : Int) (y : Wf) (hy : ArgY W y) (hyn : IntsAt F W y.2.1 y.1.2.2) (hid : (Lit.int .i64 id).wf = true) (hf : P.length ≤ 900) (hlf : ∀ p ∈ P, p.2.2.length ≤ 9000) (hcf : C.length ≤ 9000) :
    Calls Try.prog 21 #[.pointer (some ⟨g, 0, none⟩), .int .i64 id, y.val] W fun e w' => e = .returned (.tuple #[]) ∧ TabR B w0 F g (supP P id y.1) (supC P C id y.1) W w' := by
  obtain ⟨⟨m, cv, cs, N, t, rfl, rfl⟩, h3, h4⟩ := _root_.id h
  refine (support_c y t hy hyn hid (by unfold pl at hf; simpa using hf) (fun p hp => by
    have := hlf _ (List.mem_map.2 ⟨p, hp, rfl⟩)
    simpa using this) (by simpa using hcf)).mono ?_
  rintro e w' ⟨rfl, F', cv', cs', N', t', h1, h2, f1, f2, k⟩
  obtain ⟨b1, b2⟩ := h.kept k
  exact ⟨rfl, F', ⟨⟨m, cv', cs', N', t', h1, h2⟩, b1, b2⟩, f1, f2, k⟩
theorem free_t (h : Tab B w0 F g P C W) (id : Int) (hid : (Lit.int .i64 id).wf = true) (hf : P.length ≤ 900) :
    Calls Try.prog 28 #[.pointer (some ⟨g, 0, none⟩), .int .i64 id] W fun e w' => e = .returned (.tuple #[]) ∧ TabR B w0 F g (freeP P id) C W w' := by
  obtain ⟨⟨m, cv, cs, N, t, rfl, rfl⟩, h3, h4⟩ := _root_.id h
  refine (free_c t hid (by unfold pl at hf; simpa using hf)).mono ?_
  rintro e w' ⟨rfl, F', N', nd, t', hl, hn, f1, f2, k⟩
  obtain ⟨b1, b2⟩ := h.kept k
  refine ⟨rfl, F', ⟨⟨m, cv, cs, _, t', ?_, rfl⟩, b1, b2⟩, f1, f2, k⟩
  obtain ⟨e1, e2⟩ := pl_of hl hn
  rw [pl_setR, e1]
  unfold freeP
  refine List.map_congr_left (fun p hp => ?_)
  by_cases e : p.1 = id
  · rw [if_pos e, if_pos e]
    rw [← e1] at hp
    obtain ⟨q, hq, rfl⟩ := List.mem_map.1 hp
    have hnd : (N'.map (·.1)).Nodup := by have := t'.nodup; rwa [setR_keys] at this
    have h5 : lk N' q.1 = some q.2 := mem_lk hnd hq
    dsimp only at e
    rw [e, hl] at h5
    injection h5 with h5
    rw [← h5]
  · rw [if_neg e, if_neg e]
theorem forget_t (h : Tab B w0 F g P C W) (id : Int) :
    Calls Try.prog 29 #[.pointer (some ⟨g, 0, none⟩), .int .i64 id] W fun e w' => e = .returned (.tuple #[]) ∧ Tab B w0 F g (P.filter fun p => decide (p.1 ≠ id)) (C.filter (usedP (P.filter fun p => decide (p.1 ≠ id)))) w' ∧ Keep F W w' := by
  obtain ⟨⟨m, cv, cs, N, t, rfl, rfl⟩, h3, h4⟩ := _root_.id h
  refine (forget_c t id).mono ?_
  rintro e w' ⟨rfl, cv', cs', N', t', h1, h2, k⟩
  obtain ⟨b1, b2⟩ := h.kept k
  rw [h1] at h2
  exact ⟨rfl, ⟨⟨m, cv', cs', N', t', h1, h2⟩, b1, b2⟩, k⟩
theorem lose_t (h : Tab B w0 F g P C W) (y : Wf) (hy : ArgY W y) (hyn : IntsAt F W y.2.1 y.1.2.2) :
    Calls Try.prog 30 #[.pointer (some ⟨g, 0, none⟩), y.val] W fun e w' => ∃ v, e = .returned v ∧ OwnI w' W.heap.size v (lost P y.1) ∧ Tab B w0 F g (loseP P y.1) (C.filter (usedP (loseP P y.1))) w' ∧ Keep F W w' := by
  obtain ⟨⟨m, cv, cs, N, t, rfl, rfl⟩, h3, h4⟩ := _root_.id h
  refine (lose_c y t hy hyn).mono ?_
  rintro e w' ⟨v, rfl, ho, cv', cs', N', t', h1, h2, k⟩
  obtain ⟨b1, b2⟩ := h.kept k
  rw [h1] at h2
  exact ⟨v, rfl, ho, ⟨⟨m, cv', cs', N', t', h1, h2⟩, b1, b2⟩, k⟩
theorem why_t (h : Tab B w0 F g P C W) (id : Int) : Calls Try.prog 23 #[.pointer (some ⟨g, 0, none⟩), .int .i64 id] W (ToldW W (wh P id).2 (wh P id).1) := by
  obtain ⟨⟨m, cv, cs, N, t, rfl, rfl⟩, h3, h4⟩ := _root_.id h
  unfold wh
  rw [lk_pl]
  cases hl : lk N id with
  | none =>
    refine (why_no t hl).mono ?_
    rintro e w' ⟨rfl, rfl⟩
    exact ⟨_, rfl, told_nil W⟩
  | some nd =>
    obtain ⟨nb, nf, nv, L⟩ := nd
    exact why_yes t hl
theorem stands_t (h : Tab B w0 F g P C W) (id : Int) : Calls Try.prog 26 #[.pointer (some ⟨g, 0, none⟩), .int .i64 id] W fun e w' => e = .returned (.bool (standQ (lk P id))) ∧ W = w' := by
  obtain ⟨⟨m, cv, cs, N, t, rfl, rfl⟩, h3, h4⟩ := _root_.id h
  rw [← stands_pl]
  exact stands_c t id
theorem all_t (h : Tab B w0 F g P C W) : Calls Try.prog 25 #[.pointer (some ⟨g, 0, none⟩)] W (ToldY W C) := by
  obtain ⟨⟨m, cv, cs, N, t, rfl, rfl⟩, h3, h4⟩ := _root_.id h
  exact all_c t
theorem len_t (h : Tab B w0 F g P C W) : Calls Try.prog 43 #[.pointer (some ⟨g, 0, none⟩)] W fun e w' => e = .returned (.int .i64 ((P.filter standP).length : Int)) ∧ Below W.heap.size W w' := by
  obtain ⟨⟨m, cv, cs, N, t, rfl, rfl⟩, h3, h4⟩ := _root_.id h
  rw [← stand_pl]
  exact len_c t
end
end Go.Proofs.Ytonflknnlfffhaa
