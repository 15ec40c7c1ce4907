/- token.Tree: Cut. -/
import Derived.Test.YtonflknnlfffhaaTu
namespace Go.Proofs.Ytonflknnlfffhaa
open Go.RowKit Go.Lib KP MR RW
theorem step_delete {P : Program} {ops : Array Oper} {o : Oper} {a : Act} {K : Act → World → Prop} {Q : Exit → Act → World → Prop} {E : Prop} {w w' : World} {t kt : TypeId} {vx vy : Value} (hg : o.guard = none) (x y : Operand) (ho : o.op = .call { callee := .builtin .delete, args := #[x, y], argTypes := #[t, kt] }) (hx : a.eval x = vx) (hy : a.eval y = vy)
    (hr : (Builtin.delete_ #[t, kt] o.type #[vx, vy]).run P w = .ok (.tuple #[]) w') (h : K (a.put o.dst (.tuple #[])) w') : if Region.wanted o (yielded ops a.tmps) = true then Oper.wp P o a w K Q else E := by
  have hw : Region.wanted o (yielded ops a.tmps) = true := by simp [Region.wanted, hg]
  rw [if_pos hw]
  unfold Oper.wp
  simp [execOp, ho, resolve, invoke, builtin, hx, hy, hr, Result.andThen]
  exact h
theorem del_setK_other (N : Tab) (id par : Int) (v : Value) (ks : List Int) : del (setK N par v ks) id = setK (del N id) par v ks := by
  unfold del setK
  induction N with
  | nil => rfl
  | cons p N ih =>
    rw [List.map_cons]
    by_cases e2 : p.1 = par
    · rw [if_pos e2]
      by_cases e : p.1 = id
      · rw [List.filter_cons_of_neg (by simp [e]), List.filter_cons_of_neg (by simp [e])]
        exact ih
      · rw [List.filter_cons_of_pos (by simp [e]), List.filter_cons_of_pos (by simp [e]), List.map_cons, if_pos e2, ih]
    · rw [if_neg e2]
      by_cases e : p.1 = id
      · rw [List.filter_cons_of_neg (by simp [e]), List.filter_cons_of_neg (by simp [e])]
        exact ih
      · rw [List.filter_cons_of_pos (by simp [e]), List.filter_cons_of_pos (by simp [e]), List.map_cons, if_neg e2, ih]
theorem gone_one (N : Tab) (out : List Int) (id : Int) : del (gone N out) id = gone N (out ++ [id]) := by
  unfold del gone
  rw [List.filter_filter]
  refine List.filter_congr (fun p _ => ?_)
  by_cases h1 : p.1 = id <;> by_cases h2 : p.1 ∈ out <;> simp [h1, h2]
section
variable {B : Nat} {F : Nat → Prop} {g m : Nat} {N : Tab} {last : Int} {W : World} {id : Int}
theorem TM.look_no (h : TM B F g m N last W) (hl : lk N id = none) : (Instr.lookup 75 (.map (some m)) (.int .i64 id) true).run Try.prog W = .ok (.tuple #[.pointer none, .bool false]) W := by
  have := h.look id true
  rw [hl] at this
  exact this
theorem TM.look_yes {nd : Nd} (h : TM B F g m N last W) (hl : lk N id = some nd) : (Instr.lookup 75 (.map (some m)) (.int .i64 id) true).run Try.prog W = .ok (.tuple #[nd.val, .bool true]) W := by
  have := h.look id true
  rw [hl] at this
  exact this
theorem TM.look_v {nd : Nd} (h : TM B F g m N last W) (hl : lk N id = some nd) : (Instr.lookup 75 (.map (some m)) (.int .i64 id) false).run Try.prog W = .ok (nd.val) W := by
  have := h.look id false
  rw [hl] at this
  exact this
set_option maxRecDepth 100000 in
set_option maxHeartbeats 4000000 in
theorem cut_no (h : TM B F g m N last W) (hl : lk N id = none) : Calls Try.prog 14 #[.pointer (some ⟨g, 0, none⟩), .int .i64 id] W fun e w' => e = .returned (.slice none 0 0) ∧ Below W.heap.size W w' := by
  have D1 : Hid (Below W.heap.size W (W.alloc (.cells #[.int .i64 id] 3)).drew) := Lib.hid ((Below.refl W.heap.size W).alloc (Nat.le_refl _) (.cells #[.int .i64 id] 3)).drew
  have T1 := h.grow D1.out
  have HS1 : Hid ((fun w' => w'.cell? ⟨g, 0, none⟩ = some (.map (some m)) ∧ w'.cell? ⟨W.heap.size, 0, none⟩ = some (.int .i64 id) ∧ (Instr.lookup 75 (.map (some m)) (.int .i64 id) true).run Try.prog w' = .ok (.tuple #[.pointer none, .bool false]) w') (W.alloc (.cells #[.int .i64 id] 3)).drew) := Lib.hid ⟨block_cell (j := 0) T1.blk rfl, block_cell (j := 0) (heap_alloc_new W _) rfl, T1.look_no hl⟩
  clear T1 h hl
  go_enter Try.func14, Try.ntmps14
  go_wp2_with fail
  refine wp_region_held_drew (S := (fun w' => w'.cell? ⟨g, 0, none⟩ = some (.map (some m)) ∧ w'.cell? ⟨W.heap.size, 0, none⟩ = some (.int .i64 id) ∧ (Instr.lookup 75 (.map (some m)) (.int .i64 id) true).run Try.prog w' = .ok (.tuple #[.pointer none, .bool false]) w')) (by kernel_rfl) HS1.out (fun hHeld => ?_)
  refine wpAnyH_take (i := 0) (oi := ⟨_, _, _, _, _, _⟩) (v := ?_) rfl (by kernel_rfl) (by kernel_rfl) (by kernel_rfl) (fun _ _ _ h => h) (Or.inl ⟨by rfl, ?_⟩) (by assumption) ?_
  rotate_left
  · intro w' hSw; (try dsimp only at hSw); go_simp; (try with_reducible rfl)
  try simp only [Act.put, List.setIfInBounds_toArray, List.set_cons_zero, List.set_cons_succ]
  refine wpAnyH_take (i := 1) (oi := ⟨_, _, _, _, _, _⟩) (v := ?_) rfl (by kernel_rfl) (by kernel_rfl) (by kernel_rfl) (fun _ _ _ h => h) (Or.inl ⟨by rfl, ?_⟩) (by assumption) ?_
  rotate_left
  · intro w' hSw; (try dsimp only at hSw); go_simp; (try with_reducible rfl)
  try simp only [Act.put, List.setIfInBounds_toArray, List.set_cons_zero, List.set_cons_succ]
  refine wpAnyH_take (i := 2) (oi := ⟨_, _, _, _, _, _⟩) (v := ?_) rfl (by kernel_rfl) (by kernel_rfl) (by kernel_rfl) (fun _ _ _ h => h) (Or.inl ⟨by rfl, ?_⟩) (by assumption) ?_
  rotate_left
  · intro w' hSw; (try dsimp only at hSw); go_simp; (try with_reducible rfl)
  try simp only [Act.put, List.setIfInBounds_toArray, List.set_cons_zero, List.set_cons_succ]
  refine wpAnyH_take (i := 3) (oi := ⟨_, _, _, _, _, _⟩) (v := ?_) rfl (by kernel_rfl) (by kernel_rfl) (by kernel_rfl) (fun _ _ _ h => h) (Or.inl ⟨by rfl, ?_⟩) (by assumption) ?_
  rotate_left
  · intro w' hSw; (try dsimp only at hSw); go_simp; (try with_reducible rfl)
  try simp only [Act.put, List.setIfInBounds_toArray, List.set_cons_zero, List.set_cons_succ]
  refine wpAnyH_take (i := 4) (oi := ⟨_, _, _, _, _, _⟩) (v := ?_) rfl (by kernel_rfl) (by kernel_rfl) (by kernel_rfl) (fun _ _ _ h => h) (Or.inl ⟨by rfl, ?_⟩) (by assumption) ?_
  rotate_left
  · intro w' hSw; (try dsimp only at hSw); go_simp; (try with_reducible rfl)
  try simp only [Act.put, List.setIfInBounds_toArray, List.set_cons_zero, List.set_cons_succ]
  refine wpAnyH_take (i := 5) (oi := ⟨_, _, _, _, _, _⟩) (v := ?_) rfl (by kernel_rfl) (by kernel_rfl) (by kernel_rfl) (fun _ _ _ h => h) (Or.inl ⟨by rfl, ?_⟩) (by assumption) ?_
  rotate_left
  · intro w' hSw; (try dsimp only at hSw); go_simp; (try with_reducible rfl)
  try simp only [Act.put, List.setIfInBounds_toArray, List.set_cons_zero, List.set_cons_succ]
  refine wpAnyH_take (i := 6) (oi := ⟨_, _, _, _, _, _⟩) (v := ?_) rfl (by kernel_rfl) (by kernel_rfl) (by kernel_rfl) (fun _ _ _ h => h) (Or.inl ⟨by rfl, ?_⟩) (by assumption) ?_
  rotate_left
  · intro w' hSw; (try dsimp only at hSw); go_simp; (try with_reducible rfl)
  try simp only [Act.put, List.setIfInBounds_toArray, List.set_cons_zero, List.set_cons_succ]
  refine wpAnyH_take (i := 7) (oi := ⟨_, _, _, _, _, _⟩) (v := ?_) rfl (by kernel_rfl) (by kernel_rfl) (by kernel_rfl) (fun _ _ _ h => h) (Or.inl ⟨by rfl, ?_⟩) (by assumption) ?_
  rotate_left
  · intro w' hSw; (try dsimp only at hSw); go_simp; (try with_reducible rfl)
  try simp only [Act.put, List.setIfInBounds_toArray, List.set_cons_zero, List.set_cons_succ]
  refine wpAnyH_take (i := 8) (oi := ⟨_, _, _, _, _, _⟩) (v := ?_) rfl (by kernel_rfl) (by kernel_rfl) (by kernel_rfl) (fun _ _ _ h => h) (Or.inl ⟨by rfl, ?_⟩) (by assumption) ?_
  rotate_left
  · intro w' hSw; (try dsimp only at hSw); go_simp; (try with_reducible rfl)
  try simp only [Act.put, List.setIfInBounds_toArray, List.set_cons_zero, List.set_cons_succ]
  refine wpAnyH_take (i := 9) (oi := ⟨_, _, _, _, _, _⟩) (v := ?_) rfl (by kernel_rfl) (by kernel_rfl) (by kernel_rfl) (fun _ _ _ h => h) (Or.inl ⟨by rfl, ?_⟩) (by assumption) ?_
  rotate_left
  · intro w' hSw; (try dsimp only at hSw); go_simp; (try with_reducible rfl)
  try simp only [Act.put, List.setIfInBounds_toArray, List.set_cons_zero, List.set_cons_succ]
  refine wpAnyH_take (i := 10) (oi := ⟨_, _, _, _, _, _⟩) (v := ?_) rfl (by kernel_rfl) (by kernel_rfl) (by kernel_rfl) (fun _ _ _ h => h) (Or.inl ⟨by rfl, ?_⟩) (by assumption) ?_
  rotate_left
  · intro w' hSw; (try dsimp only at hSw); go_simp; (try with_reducible rfl)
  try simp only [Act.put, List.setIfInBounds_toArray, List.set_cons_zero, List.set_cons_succ]
  refine wpAnyH_done (by kernel_rfl) ?_ _
  go_wp2_with fail
  go_ret
  exact ⟨rfl, D1.out⟩
set_option maxRecDepth 100000 in
set_option maxHeartbeats 4000000 in
theorem cut_root {nd : Nd} {out : List Int} (h : TM B F g m N last W) (hl : lk N 0 = some nd) (hf : For N nd.kids out) (hn : (0 :: out).Nodup) (ho : out.length ≤ 900) : Calls Try.prog 14 #[.pointer (some ⟨g, 0, none⟩), .int .i64 0] W fun e w' => ∃ v, e = .returned v ∧ OwnI w' W.heap.size v (rise out) ∧ TM B F g m (setK (gone N out) 0 (.slice none 0 0) []) last w' ∧ Keep F W w' := by
  obtain ⟨id, hid⟩ : ∃ id : Int, Hid (id = 0) := ⟨0, Lib.hid rfl⟩
  have HZ := Lib.hid (show (id != 0) = false by rw [hid.out]; rfl)
  rw [← hid.out] at hl hn ⊢
  have D1 : Hid (Below W.heap.size W (W.alloc (.cells #[.int .i64 id] 3)).drew) := Lib.hid ((Below.refl W.heap.size W).alloc (Nat.le_refl _) (.cells #[.int .i64 id] 3)).drew
  have T1 := Lib.hid (h.grow D1.out)
  have HS1 : Hid ((fun w' => w'.cell? ⟨g, 0, none⟩ = some (.map (some m)) ∧ w'.cell? ⟨W.heap.size, 0, none⟩ = some (.int .i64 id) ∧ (Instr.lookup 75 (.map (some m)) (.int .i64 id) true).run Try.prog w' = .ok (.tuple #[nd.val, .bool true]) w') (W.alloc (.cells #[.int .i64 id] 3)).drew) := Lib.hid ⟨block_cell (j := 0) T1.out.blk rfl, block_cell (j := 0) (heap_alloc_new W _) rfl, T1.out.look_yes hl⟩
  have HU := Lib.hid (under_c (out.length + 1) B F g m N last _ id nd out (by omega) T1.out hl hf hn (by omega))
  have HC1 : Hid ((W.alloc (.cells #[.int .i64 id] 3)).drew.cell? ⟨W.heap.size, 0, none⟩ = some (.int .i64 id)) := Lib.hid HS1.out.2.1
  have HNF : Hid (¬ F W.heap.size) := Lib.hid (fun hF => by have := (h.lt _ hF).2; omega)
  have HS : Hid (W.heap.size ≤ (W.alloc (.cells #[.int .i64 id] 3)).drew.heap.size) := Lib.hid D1.out.size
  clear h hl hf hn
  go_enter Try.func14, Try.ntmps14
  go_wp2_with fail
  refine wp_region_held_drew (S := (fun w' => w'.cell? ⟨g, 0, none⟩ = some (.map (some m)) ∧ w'.cell? ⟨W.heap.size, 0, none⟩ = some (.int .i64 id) ∧ (Instr.lookup 75 (.map (some m)) (.int .i64 id) true).run Try.prog w' = .ok (.tuple #[nd.val, .bool true]) w')) (by kernel_rfl) HS1.out (fun hHeld => ?_)
  refine wpAnyH_take (i := 0) (oi := ⟨_, _, _, _, _, _⟩) (v := ?_) rfl (by kernel_rfl) (by kernel_rfl) (by kernel_rfl) (fun _ _ _ h => h) (Or.inl ⟨by rfl, ?_⟩) (by assumption) ?_
  rotate_left
  · intro w' hSw; (try dsimp only at hSw); go_simp; (try with_reducible rfl)
  try simp only [Act.put, List.setIfInBounds_toArray, List.set_cons_zero, List.set_cons_succ]
  refine wpAnyH_take (i := 1) (oi := ⟨_, _, _, _, _, _⟩) (v := ?_) rfl (by kernel_rfl) (by kernel_rfl) (by kernel_rfl) (fun _ _ _ h => h) (Or.inl ⟨by rfl, ?_⟩) (by assumption) ?_
  rotate_left
  · intro w' hSw; (try dsimp only at hSw); go_simp; (try with_reducible rfl)
  try simp only [Act.put, List.setIfInBounds_toArray, List.set_cons_zero, List.set_cons_succ]
  refine wpAnyH_take (i := 2) (oi := ⟨_, _, _, _, _, _⟩) (v := ?_) rfl (by kernel_rfl) (by kernel_rfl) (by kernel_rfl) (fun _ _ _ h => h) (Or.inl ⟨by rfl, ?_⟩) (by assumption) ?_
  rotate_left
  · intro w' hSw; (try dsimp only at hSw); go_simp; (try with_reducible rfl)
  try simp only [Act.put, List.setIfInBounds_toArray, List.set_cons_zero, List.set_cons_succ]
  refine wpAnyH_take (i := 3) (oi := ⟨_, _, _, _, _, _⟩) (v := ?_) rfl (by kernel_rfl) (by kernel_rfl) (by kernel_rfl) (fun _ _ _ h => h) (Or.inl ⟨by rfl, ?_⟩) (by assumption) ?_
  rotate_left
  · intro w' hSw; (try dsimp only at hSw); go_simp; (try with_reducible rfl)
  try simp only [Act.put, List.setIfInBounds_toArray, List.set_cons_zero, List.set_cons_succ]
  refine wpAnyH_take (i := 4) (oi := ⟨_, _, _, _, _, _⟩) (v := ?_) rfl (by kernel_rfl) (by kernel_rfl) (by kernel_rfl) (fun _ _ _ h => h) (Or.inl ⟨by rfl, ?_⟩) (by assumption) ?_
  rotate_left
  · intro w' hSw; (try dsimp only at hSw); go_simp; (try with_reducible rfl)
  try simp only [Act.put, List.setIfInBounds_toArray, List.set_cons_zero, List.set_cons_succ]
  refine wpAnyH_take (i := 5) (oi := ⟨_, _, _, _, _, _⟩) (v := ?_) rfl (by kernel_rfl) (by kernel_rfl) (by kernel_rfl) (fun _ _ _ h => h) (Or.inl ⟨by rfl, ?_⟩) (by assumption) ?_
  rotate_left
  · intro w' hSw; (try dsimp only at hSw); go_simp; (try with_reducible rfl)
  try simp only [Act.put, List.setIfInBounds_toArray, List.set_cons_zero, List.set_cons_succ]
  refine wpAnyH_take (i := 6) (oi := ⟨_, _, _, _, _, _⟩) (v := ?_) rfl (by kernel_rfl) (by kernel_rfl) (by kernel_rfl) (fun _ _ _ h => h) (Or.inl ⟨by rfl, ?_⟩) (by assumption) ?_
  rotate_left
  · intro w' hSw; (try dsimp only at hSw); go_simp; (try with_reducible rfl)
  try simp only [Act.put, List.setIfInBounds_toArray, List.set_cons_zero, List.set_cons_succ]
  refine wpAnyH_take (i := 7) (oi := ⟨_, _, _, _, _, _⟩) (v := ?_) rfl (by kernel_rfl) (by kernel_rfl) (by kernel_rfl) (fun _ _ _ h => h) (Or.inl ⟨by rfl, ?_⟩) (by assumption) ?_
  rotate_left
  · intro w' hSw; (try dsimp only at hSw); go_simp; (try with_reducible rfl)
  try simp only [Act.put, List.setIfInBounds_toArray, List.set_cons_zero, List.set_cons_succ]
  refine wpAnyH_take (i := 8) (oi := ⟨_, _, _, _, _, _⟩) (v := ?_) rfl (by kernel_rfl) (by kernel_rfl) (by kernel_rfl) (fun _ _ _ h => h) (Or.inl ⟨by rfl, ?_⟩) (by assumption) ?_
  rotate_left
  · intro w' hSw; (try dsimp only at hSw); go_simp; (try with_reducible rfl)
  try simp only [Act.put, List.setIfInBounds_toArray, List.set_cons_zero, List.set_cons_succ]
  refine wpAnyH_take (i := 9) (oi := ⟨_, _, _, _, _, _⟩) (v := ?_) rfl (by kernel_rfl) (by kernel_rfl) (by kernel_rfl) (fun _ _ _ h => h) (Or.inl ⟨by rfl, ?_⟩) (by assumption) ?_
  rotate_left
  · intro w' hSw; (try dsimp only at hSw); go_simp; (try with_reducible rfl)
  try simp only [Act.put, List.setIfInBounds_toArray, List.set_cons_zero, List.set_cons_succ]
  refine wpAnyH_take (i := 10) (oi := ⟨_, _, _, _, _, _⟩) (v := ?_) rfl (by kernel_rfl) (by kernel_rfl) (by kernel_rfl) (fun _ _ _ h => h) (Or.inl ⟨by rfl, ?_⟩) (by assumption) ?_
  rotate_left
  · intro w' hSw; (try dsimp only at hSw); go_simp; (try with_reducible rfl)
  try simp only [Act.put, List.setIfInBounds_toArray, List.set_cons_zero, List.set_cons_succ]
  refine wpAnyH_done (by kernel_rfl) ?_ _
  go_wp2_with fail
  refine HU.out.mono ?_
  rintro e w7 ⟨v7, rfl, ho7, ht7, hk7⟩
  have hc7 := hk7.cell HC1.out HNF.out
  have O7 := Lib.hid ho7; have T7 := Lib.hid ht7
  have K7 : Hid (Keep F W w7) := Lib.hid ((Keep.of_below D1.out F).trans hk7 (fun q hq => .inl hq))
  have hz := HZ.out
  clear ho7 ht7 hk7 HU HC1 HS1
  go_wp2_with fail
  refine (sort_c O7.out (by omega)).mono ?_
  rintro e w8 ⟨rfl, ho8, hk8⟩
  have O8 := Lib.hid ho8
  have AP : ∀ q, F q → ¬ v7.ownBlock = some q := fun q hF hq => by
    have h1 := (O7.out.lt hq).1
    have h2 := (T1.out.lt q hF).2
    omega
  have T8 := Lib.hid (T7.out.keep hk8 AP)
  have K8 := Lib.hid (K7.out.trans hk8 (fun q hq => .inr (Nat.le_trans HS.out (O7.out.lt hq).1)))
  clear ho8 hk8 AP
  go_wp2_with fail
  refine (clip_c O8.out).mono ?_
  rintro e w9 ⟨v9, rfl, ho9, hv9, rfl⟩
  go_wp2_with fail
  go_ret
  exact ⟨v9, rfl, ho9.mono HS.out, T8.out, K8.out⟩
end
end Go.Proofs.Ytonflknnlfffhaa
