/- tms.Table: New, of, Free, Stands. -/
import Derived.Test.YtonflknnlfffhaaUg
namespace Go.Proofs.Ytonflknnlfffhaa
open Go.RowKit Go.Lib KP MR RW
set_option maxRecDepth 100000 in
set_option maxHeartbeats 2000000 in
theorem new_c (w : World) : Calls Try.prog 20 #[] w fun e w' => ∃ g m F, e = .returned (.pointer (some ⟨g, 0, none⟩)) ∧ TS w.heap.size F g m (.slice none 0 0) [] [] w' ∧ Below w.heap.size w w' := by
  have hmm := @run_makeMap Try.prog
  have hb1 : Below w.heap.size w (w.alloc (Obj.map #[] 0)) := (Below.refl _ _).alloc (Nat.le_refl _) _
  have HE := Lib.hid (show ∃ g m F, Ending.returned (.pointer (some ⟨w.heap.size + 1, 0, none⟩)) = .returned (.pointer (some ⟨g, 0, none⟩)) ∧ TS w.heap.size F g m (.slice none 0 0) [] [] ((w.alloc (Obj.map #[] 0)).alloc (Obj.cells #[.map (some w.heap.size), .slice none 0 0] 87)) ∧ Below w.heap.size w ((w.alloc (Obj.map #[] 0)).alloc (Obj.cells #[.map (some w.heap.size), .slice none 0 0] 87)) from
    ⟨w.heap.size + 1, w.heap.size, fun k => w.heap.size ≤ k ∧ k ≤ w.heap.size + 1, rfl, ⟨by have := heap_alloc_new (w.alloc (Obj.map #[] 0)) (Obj.cells #[.map (some w.heap.size), .slice none 0 0] 87); simpa using this, (IsMap.made w _ _).move (Below.heap_alloc _ _ _ (by simp)), (fun p hp => by cases hp), (fun p hp => by cases hp), OwnW.nil _ _ _ _, (fun y hy => by rcases hy with hy | ⟨p, hp, _⟩; cases hy; cases hp), List.Pairwise.nil, List.Pairwise.nil, (fun p hp => by cases hp), ⟨by omega, by omega⟩, ⟨Nat.le_refl _, by omega⟩, (fun p hp => by cases hp), (fun p hp => by cases hp), (fun k hk => by cases hk), (fun k hk => ⟨hk.1, by simp; omega⟩), by simp, (fun p hp => by cases hp), by simp, (fun p hp => by cases hp)⟩, hb1.alloc hb1.size _⟩)
  clear hb1
  go_enter Try.func20, Try.ntmps20
  go_wp2
  go_ret
  exact HE.out
/-- What 'of' leaves: the fact's row, new or not. -/
def ofN (N : Tb) (id : Int) (b : Nat) : Tb := if (lk N id).isSome then N else N ++ [(id, ⟨b, false, .slice none 0 0, []⟩)]
section
variable {B : Nat} {F : Nat → Prop} {g m : Nat} {cv : Value} {cs : List Wf} {N : Tb} {W : World} {id : Int} {nd : Rd}
theorem lk_snoc_self {A : Tb} {x : Int} {nd : Rd} (h : lk A x = none) : lk (A ++ [(x, nd)]) x = some nd := by
  unfold lk at *
  rw [Option.map_eq_none_iff] at h
  rw [List.find?_append, h, List.find?_cons_of_pos (by simp)]
  rfl
theorem lk_snoc {A : Tb} {x : Int} {nd : Rd} {y : Int} (h : y ≠ x) : lk (A ++ [(x, nd)]) y = lk A y := by
  unfold lk
  rw [List.find?_append]
  cases h1 : A.find? (fun p => decide (p.1 = y)) with
  | some p => rfl
  | none => rw [List.find?_cons_of_neg (by simp [Ne.symm h])]; rfl
set_option maxRecDepth 100000 in
set_option maxHeartbeats 2000000 in
theorem of_old (h : TS B F g m cv cs N W) (hl : lk N id = some nd) : Calls Try.prog 44 #[.pointer (some ⟨g, 0, none⟩), .int .i64 id] W fun e w' => e = .returned nd.val ∧ W = w' := by
  have hc0 := block_cell (j := 0) h.blk rfl
  have hlk := h.look_yes hl
  clear h hl
  go_enter Try.func44, Try.ntmps44
  go_wp2_with fail
  go_ret
  exact ⟨rfl, rfl⟩
set_option maxRecDepth 100000 in
set_option maxHeartbeats 2000000 in
theorem of_new (h : TS B F g m cv cs N W) (hl : lk N id = none) (hid : (Lit.int .i64 id).wf = true) (hf : N.length ≤ 900) : Calls Try.prog 44 #[.pointer (some ⟨g, 0, none⟩), .int .i64 id] W fun e w' =>
    ∃ F' b, e = .returned (.pointer (some ⟨b, 0, none⟩)) ∧ TS B F' g m cv cs (N ++ [(id, ⟨b, false, .slice none 0 0, []⟩)]) w' ∧ (∀ k, F k → F' k) ∧ (∀ k, F' k → F k ∨ W.heap.size ≤ k) ∧ Keep F W w' := by
  have hc0 := block_cell (j := 0) h.blk rfl
  have hlk := h.look_no hl
  obtain ⟨w9, hr9, t9, k9⟩ := h.put hl hid hf
  have HR := Lib.hid hr9
  have c9 := block_cell (j := 0) t9.blk rfl
  have hlk9 := t9.look_yes (lk_snoc_self hl)
  have HE := Lib.hid (show ∃ F' b, Ending.returned (.pointer (some ⟨W.heap.size, 0, none⟩)) = .returned (.pointer (some ⟨b, 0, none⟩)) ∧ TS B F' g m cv cs (N ++ [(id, ⟨b, false, .slice none 0 0, []⟩)]) w9 ∧ (∀ k, F k → F' k) ∧ (∀ k, F' k → F k ∨ W.heap.size ≤ k) ∧ Keep F W w9 from ⟨_, W.heap.size, rfl, t9, fun k hF => .inl hF, fun k hF => hF.imp (fun h => h) (fun e => by omega), k9⟩)
  clear h hl hr9 t9 k9
  go_enter Try.func44, Try.ntmps44
  go_wp2_with fail
  rw [HR.out]
  simp only [Result.andThen]
  rw [Oper.upon_skip]
  go_wp2_with fail
  go_ret
  exact HE.out
/-- The fact's row, as 'of' leaves it. -/
def OfR (B : Nat) (F : Nat → Prop) (g m : Nat) (cv : Value) (cs : List Wf) (N : Tb) (id : Int) (W : World) (e : Ending) (w' : World) : Prop :=
  ∃ F' N' nd, e = .returned nd.val ∧ TS B F' g m cv cs N' w' ∧ lk N' id = some nd ∧ (N' = N ∨ (lk N id = none ∧ ∃ b, nd = ⟨b, false, .slice none 0 0, []⟩ ∧ N' = N ++ [(id, nd)])) ∧ (∀ k, F k → F' k) ∧ (∀ k, F' k → F k ∨ W.heap.size ≤ k) ∧ Keep F W w'
theorem of_c (h : TS B F g m cv cs N W) (hid : (Lit.int .i64 id).wf = true) (hf : N.length ≤ 900) : Calls Try.prog 44 #[.pointer (some ⟨g, 0, none⟩), .int .i64 id] W (OfR B F g m cv cs N id W) := by
  cases hl : lk N id with
  | some nd =>
    refine (of_old h hl).mono ?_
    rintro e w' ⟨rfl, rfl⟩
    exact ⟨F, N, nd, rfl, h, hl, .inl rfl, fun _ h => h, fun _ h => .inl h, Keep.refl _ _⟩
  | none =>
    refine (of_new h hl hid hf).mono ?_
    rintro e w' ⟨F', b, rfl, ht, h1, h2, h3⟩
    exact ⟨F', _, _, rfl, ht, lk_snoc_self hl, .inr ⟨hl, b, rfl, rfl⟩, h1, h2, h3⟩
/-- What Free leaves. -/
def FreeR (B : Nat) (F : Nat → Prop) (g m : Nat) (cv : Value) (cs : List Wf) (N : Tb) (id : Int) (W w' : World) : Prop := ∃ F' N' nd, TS B F' g m cv cs (setR N' id true nd.lv nd.ls) w' ∧ lk N' id = some nd ∧ (N' = N ∨ (lk N id = none ∧ ∃ b, nd = ⟨b, false, .slice none 0 0, []⟩ ∧ N' = N ++ [(id, nd)])) ∧ (∀ k, F k → F' k) ∧ (∀ k, F' k → F k ∨ W.heap.size ≤ k) ∧ Keep F W w'
set_option maxRecDepth 100000 in
set_option maxHeartbeats 2000000 in
theorem free_c (h : TS B F g m cv cs N W) (hid : (Lit.int .i64 id).wf = true) (hf : N.length ≤ 900) : Calls Try.prog 28 #[.pointer (some ⟨g, 0, none⟩), .int .i64 id] W fun e w' =>
    e = .returned (.tuple #[]) ∧ FreeR B F g m cv cs N id W w' := by
  have HO := Lib.hid (of_c h hid hf)
  have HB : Hid (B ≤ W.heap.size) := Lib.hid (by have := h.lt g h.Fg; omega)
  clear h
  go_enter Try.func28, Try.ntmps28
  go_wp2_with fail
  refine HO.out.mono ?_
  rintro e w1 ⟨F1, N1, nd, rfl, t1, l1, n1, f1, f2, k1⟩
  have hmem := lk_some l1
  have hn := t1.node _ hmem
  dsimp only at hn
  have c0 := block_cell (j := 0) hn rfl
  have f0 := block_free (j := 0) hn
  have k0 : Keep (fun k => k = nd.b) w1 (w1.setCell ⟨nd.b, 0, none⟩ (.bool true)) := (Keep.refl (fun k => k = nd.b) w1).setCell (p := ⟨nd.b, 0, none⟩) (.inl rfl) _
  have kF : Keep F W (w1.setCell ⟨nd.b, 0, none⟩ (.bool true)) := k1.trans k0 (fun k e => by rw [e]; exact f2 _ (t1.Fb _ hmem))
  have t2 := t1.setR (f := true) (v := nd.lv) (ls := nd.ls) l1 (k0.mono (fun k e => .inl e)) (by have := block_set hn (j := 0) (.bool true); simpa using this) ((t1.own _ hmem).keep k0 (fun k hk e => by
    subst e; exact t1.vb hmem hmem hk)) (fun k hk => .inl hk) (fun _ h => h) (fun k hk => t1.Fl _ hmem k hk) (fun k hk => .inl hk) (t1.lf _ hmem) (by have := k1.size; have := HB.out; omega) (fun y hy => .inl hy)
  have HE := Lib.hid (show FreeR B F g m cv cs N id W (w1.setCell ⟨nd.b, 0, none⟩ (.bool true)) from ⟨F1, N1, nd, t2, l1, n1, f1, f2, kF⟩)
  clear t2 kF k0 hn hmem t1 l1 n1 f1 f2 k1
  go_wp2_with fail
  go_end0
  exact ⟨rfl, HE.out⟩
/-- Whether there is a reason for a fact. -/
def stands (r : Option Rd) : Bool := match r with | none => false | some r => r.free || decide (0 < r.ls.length)
set_option maxRecDepth 100000 in
set_option maxHeartbeats 2000000 in
theorem stands_c (h : TS B F g m cv cs N W) (id : Int) : Calls Try.prog 26 #[.pointer (some ⟨g, 0, none⟩), .int .i64 id] W fun e w' => e = .returned (.bool (stands (lk N id))) ∧ W = w' := by
  have hc0 := block_cell (j := 0) h.blk rfl
  cases hl : lk N id with
  | none =>
    have hlk := h.look_no hl
    clear h hl
    go_enter Try.func26, Try.ntmps26
    go_wp2_with fail
    go_ret
    exact ⟨rfl, rfl⟩
  | some nd =>
    have hlk := h.look_yes hl
    have hmem := lk_some hl
    have hn := h.node _ hmem
    dsimp only at hn
    have d0 := block_cell (j := 0) hn rfl
    have d1 := block_cell (j := 1) hn rfl
    obtain ⟨A, c, ev, -, -, -⟩ := OwnY.row (h.own _ hmem)
    have hlf := h.lf _ hmem
    dsimp only at ev hlf
    rw [ev] at d1
    have hlI : (nd.ls.length : Int) ≤ 10000 := by omega
    clear h hl hmem hn
    cases hf : nd.free with
    | true =>
      have HD := Lib.hid (show true = stands (some nd) by simp [stands, hf])
      rw [hf] at d0
      clear hf
      go_enter Try.func26, Try.ntmps26
      go_wp2_with fail
      go_ret
      exact ⟨ret_bool HD.out, rfl⟩
    | false =>
      rw [hf] at d0
      have HD := Lib.hid (show decide (0 < nd.ls.length) = stands (some nd) by simp [stands, hf])
      clear hf
      go_enter Try.func26, Try.ntmps26
      go_wp2_with fail
      go_ret
      exact ⟨ret_bool HD.out, rfl⟩
end
end Go.Proofs.Ytonflknnlfffhaa
