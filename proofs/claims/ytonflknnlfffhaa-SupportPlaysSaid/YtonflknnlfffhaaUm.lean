/- tms.Table: Forget, Len. -/
import Derived.Test.YtonflknnlfffhaaUl
namespace Go.Proofs.Ytonflknnlfffhaa
open Go.RowKit Go.Lib KP MR RW
def usedP (P : Pl) (y : Wy) : Bool := P.any fun p => decide (y ∈ p.2.2)
theorem usedB_pl (N : Tb) (y : Wy) : usedB N y = usedP (pl N) y := by
  unfold usedB usedP pl
  rw [List.any_map]
  rfl
theorem pl_del (N : Tb) (id : Int) : pl (del N id) = (pl N).filter fun p => decide (p.1 ≠ id) := by
  unfold pl del
  rw [List.filter_map]
  rfl
theorem came_filter (cs : List Wf) (N : Tb) : (cs.filter fun y => usedB N y.1).map (·.1) = (cs.map (·.1)).filter (usedP (pl N)) := by
  rw [List.filter_map]
  congr 1
  refine List.filter_congr (fun y _ => ?_)
  exact usedB_pl N y.1
theorem perm_but : ∀ (t : Tb) (p : Int × Rd), (t.map (·.1)).Nodup → p ∈ t → t.Perm (p :: but t p.1)
  | [], p, _, h => by cases h
  | q :: t, p, hn, h => by
    rw [List.map_cons, List.nodup_cons] at hn
    by_cases e : q = p
    · subst e
      have : but (q :: t) q.1 = t := by
        unfold but
        rw [List.filter_cons_of_neg (by simp)]
        refine List.filter_eq_self.2 (fun x hx => ?_)
        have : x.1 ≠ q.1 := fun e => hn.1 (e ▸ List.mem_map.2 ⟨x, hx, rfl⟩)
        simpa using this
      rw [this]
    · have hp : p ∈ t := (List.mem_cons.1 h).resolve_left (fun e2 => e e2.symm)
      have hk : q.1 ≠ p.1 := fun e2 => hn.1 (e2 ▸ List.mem_map.2 ⟨p, hp, rfl⟩)
      have : but (q :: t) p.1 = q :: but t p.1 := by
        unfold but
        rw [List.filter_cons_of_pos (by simpa using hk)]
      rw [this]
      exact ((perm_but t p hn.2 hp).cons q).trans (List.Perm.swap p q _)
def standB (p : Int × Rd) : Bool := p.2.free || decide (0 < p.2.ls.length)
def standP (p : Int × Bool × List Wy) : Bool := p.2.1 || decide (0 < p.2.2.length)
theorem stand_pl (N : Tb) : (N.filter standB).length = ((pl N).filter standP).length := by
  unfold pl
  rw [List.filter_map, List.length_map]
  congr 1
  refine List.filter_congr (fun p _ => ?_)
  simp [standB, standP]
theorem perm_step {N done todo : Tb} {p : Int × Rd} (hn : (N.map (·.1)).Nodup) (h : N.Perm (done ++ todo)) (hp : p ∈ todo) : N.Perm ((done ++ [p]) ++ but todo p.1) := by
  have h1 : ((done ++ todo).map (·.1)).Nodup := ((h.map (·.1)).nodup_iff).1 hn
  rw [List.map_append, List.nodup_append] at h1
  have h2 := (perm_but todo p h1.2.1 hp).append_left done
  rw [List.append_assoc]
  exact h.trans h2
section
variable {B : Nat} {F : Nat → Prop} {g m : Nat} {cv : Value} {cs : List Wf} {N : Tb} {W : World}
def FgR (B : Nat) (F : Nat → Prop) (g m : Nat) (cs : List Wf) (N : Tb) (id : Int) (W w' : World) : Prop := ∃ cv' cs' N', TS B F g m cv' cs' N' w' ∧ pl N' = (pl N).filter (fun p => decide (p.1 ≠ id)) ∧ cs'.map (·.1) = (cs.map (·.1)).filter (usedP (pl N')) ∧ Keep F W w'
set_option maxRecDepth 100000 in
set_option maxHeartbeats 2000000 in
theorem forget_c (h : TS B F g m cv cs N W) (id : Int) : Calls Try.prog 29 #[.pointer (some ⟨g, 0, none⟩), .int .i64 id] W fun e w' => e = .returned (.tuple #[]) ∧ FgR B F g m cs N id W w' := by
  obtain ⟨w9, hr9, t9, k9⟩ := h.delete id 0 3
  have HSW := Lib.hid (sweep_c t9)
  have hc0 := block_cell (j := 0) h.blk rfl
  have K9 := Lib.hid k9
  clear h t9 k9
  go_enter Try.func29, Try.ntmps29
  go_wp2_with fail
  refine HSW.out.mono ?_
  rintro e w2 ⟨rfl, cv2, t2, k2⟩
  have HE : Hid (FgR B F g m cs N id W w2) := Lib.hid ⟨cv2, _, _, t2, pl_del N id, came_filter cs _, K9.out.trans k2 (fun k hk => .inl hk)⟩
  clear t2 k2 HSW
  go_wp2_with fail
  go_end0
  exact ⟨rfl, HE.out⟩
set_option maxRecDepth 100000 in
set_option maxHeartbeats 4000000 in
theorem len_c (h : TS B F g m cv cs N W) : Calls Try.prog 43 #[.pointer (some ⟨g, 0, none⟩)] W fun e w' => e = .returned (.int .i64 ((N.filter standB).length : Int)) ∧ Below W.heap.size W w' := by
  have HT : Hid (∀ w', Below W.heap.size W w' → TS B F g m cv cs N w') := Lib.hid (fun w' hb => h.grow hb)
  have hgc := block_cell (j := 0) h.blk rfl
  have hI := h.map
  have HND := Lib.hid h.nodup
  have hfew := h.few
  clear h
  go_enter Try.func43, Try.ntmps43
  go_wp2_with (at_range; refine wp_range rfl (.tmp 8) 85 rfl Try.underlying85 hI rfl ?_; intro w0 hi0 hg0 hs0)
  (try go_frame)
  have hw0 : Below W.heap.size W w0 := (Below.refl _ _).grown hg0 (Nat.le_refl _) (fun k hk => by cases hk)
  clear hI hgc hg0 hs0
  go_loopw [3] (fun v wr => ∃ (done todo : Tb) (n : Nat), v = .int .i64 n ∧ n ≤ 1000 ∧ Hid (n = (done.filter standB).length) ∧ Hid (Iter wr W.heap.size m (Value.int .i64) Rd.val N todo) ∧ Hid (N.Perm (done ++ todo)) ∧ Hid (Below W.heap.size W wr)) (fun _ wr => leftN wr W.heap.size m)
  case atStart => exact ⟨[], N, 0, rfl, by omega, Lib.hid rfl, Lib.hid hi0, Lib.hid (List.Perm.refl _), Lib.hid hw0⟩
  case round =>
    obtain ⟨done, todo, n, rfl, hn1, hn, hi, hp, hbe⟩ := hrel
    have hm0 := Lib.hid (hi.out.left)
    clear hi0 hw0
    go_wp2_with (at_next; refine tms_next rfl (.tmp 9) rfl hi.out rfl ?_ ?_)
    · intro ht
      have HD : Hid ((n : Int) = ((N.filter standB).length : Int)) := Lib.hid (by
        have h1 := hp.out
        rw [ht, List.append_nil] at h1
        rw [(h1.filter standB).length_eq, hn.out])
      clear ht
      go_wp2
      go_ret
      exact ⟨by rw [← HD.out]; rfl, hbe.out⟩
    · intro k nd w1 hpt hi1 hg1 hs1 hen
      have hb1 : Below W.heap.size W w1 := hbe.out.grown hg1 hbe.out.size (fun k hk => by injection hk with hk; omega)
      have T1 := Lib.hid (HT.out _ hb1)
      have hpN : (k, nd) ∈ N := hp.out.mem_iff.2 (List.mem_append.2 (.inr hpt))
      have hlk : lk N k = some nd := mem_lk HND.out hpN
      have HST := Lib.hid (stands_c T1.out k)
      rw [hlk] at HST
      obtain ⟨r, HR⟩ : ∃ r, Hid (r = stands (some nd)) := ⟨_, Lib.hid rfl⟩
      rw [← HR.out] at HST
      have HP2 := Lib.hid (perm_step HND.out hp.out hpt)
      have HL := Lib.hid (todo_less hpt)
      have HI1 := Lib.hid hi1
      have HBE := Lib.hid hb1
      have HN2 : Hid (n + (if r then 1 else 0) = ((done ++ [(k, nd)]).filter standB).length) := Lib.hid (by
        rw [List.filter_append, List.length_append, ← hn.out, HR.out]
        congr 1
        rw [List.filter_cons, List.filter_nil]
        show _ = (if standB (k, nd) = true then [(k, nd)] else []).length
        unfold stands standB
        dsimp only
        split <;> rfl)
      have HN3 : Hid (((done ++ [(k, nd)]).filter standB).length ≤ 1000) := Lib.hid (by
        have h1 := (HP2.out.filter standB).length_eq
        rw [List.filter_append, List.length_append] at h1
        have h2 : (N.filter standB).length ≤ N.length := List.length_filter_le _ _
        omega)
      clear hpt hi1 hg1 hs1 hb1 hpN hlk hi hp hbe hn
      go_wp2_with fail
      refine HST.out.mono ?_
      rintro e w2 ⟨rfl, rfl⟩
      cases r with
      | true =>
        have HN4 := Lib.hid (show n + 1 = _ from HN2.out)
        have hn9 : n + 1 ≤ 1000 := by rw [HN4.out]; exact HN3.out
        clear HN2 HN3 HST
        go_wp2_with fail
        go_roundw
        case rel => exact ⟨_, _, n + 1, by go_num, hn9, HN4, HI1, HP2, HBE⟩
        case measure => rw [HI1.out.left, hm0.out]; exact HL.out
      | false =>
        have HN4 := Lib.hid (show n = _ from HN2.out)
        clear HN2 HN3 HST
        go_wp2_with fail
        go_roundw
        case rel => exact ⟨_, _, n, rfl, hn1, HN4, HI1, HP2, HBE⟩
        case measure => rw [HI1.out.left, hm0.out]; exact HL.out
end
end Go.Proofs.Ytonflknnlfffhaa
