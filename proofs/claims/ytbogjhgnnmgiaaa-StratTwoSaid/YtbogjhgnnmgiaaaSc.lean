/- strat.rank. -/
import Derived.Test.YtbogjhgnnmgiaaaSb
import Derived.Deep.QuietTactic
import Derived.BigQuiet
import Derived.Deep.RegionWith
namespace Go.Proofs.Ytbogjhgnnmgiaaa
open Go.Shelf Go.RowKit Go.Lib

abbrev cI := Lib.compareInt
def rank5 (l1 : List Int) (sp1 bo1 : Int) (l2 : List Int) (sp2 bo2 : Int) : Int :=
  if cmpList (falls l2) (falls l1) ≠ 0 then cmpList (falls l2) (falls l1) else orI (cI sp2 sp1) (cI bo2 bo1)
def rankF (s sa1 : Int) (l1 : List Int) (sp1 bo1 k1 sa2 : Int) (l2 : List Int) (sp2 bo2 k2 : Int) : Int :=
  if cI sa2 sa1 ≠ 0 then cI sa2 sa1 else
  if s = 2 then cI bo1 bo2 else
  if s = 3 then orI (cI sp1 sp2) (cI bo2 bo1) else
  if s = 7 then orI (cI k1 k2) (cI bo2 bo1) else
  if s = 6 then (if cI (firstI l2) (firstI l1) ≠ 0 then cI (firstI l2) (firstI l1) else rank5 l1 sp1 bo1 l2 sp2 bo2) else
  if s = 5 then rank5 l1 sp1 bo1 l2 sp2 bo2 else
  if s = 4 then orI (cI sp2 sp1) (cI bo2 bo1) else orI 0 (cI bo2 bo1)

theorem or_at (g : Nat) (x y : Int) (t : TypeId) (w : World) (h : w.heap[g]? = some (.cells #[.int .i64 x, .int .i64 y] t (0, 0))) :
    Calls Try.prog 33 #[.slice (some ⟨g, 0, none⟩) 2 2] w fun e w'' => e = .returned (.int .i64 (orI x y)) ∧ w = w'' := by
  refine or_any g x y w (fun k hk => ⟨_, rfl, ?_⟩)
  have h2 : (⟨g, 0, none⟩ : Addr).add k = ⟨g, k, none⟩ := by simp [Addr.add]; omega
  rw [h2]
  refine ⟨(Array.getElem?_eq_some_iff.1 h).1, ?_⟩
  match k, hk with
  | 0, _ => exact KP.block_cell h rfl
  | 1, _ => exact KP.block_cell h rfl
theorem heap3 (w : World) (o1 o2 o3 : Obj) : (((w.alloc o1).alloc o2).alloc o3).heap[w.heap.size + 1 + 1]? = some o3 := by
  have h : ((w.heap.push o1).push o2).size = w.heap.size + 1 + 1 := by simp
  show (((w.heap.push o1).push o2).push o3)[w.heap.size + 1 + 1]? = _
  rw [← h]
  exact Array.getElem?_push_size
section
variable (s r1 al1 sa1 sp1 bo1 k1 r2 al2 sa2 sp2 bo2 k2 : Int) (A1 A2 : Option Addr) (n1 c1 n2 c2 : Nat) (w : World)
theorem bel2 (w : World) (o1 o2 : Obj) : Below w.heap.size w ((w.alloc o1).alloc o2) := ((Below.refl _ w).alloc (Nat.le_refl _) o1).alloc (by simp) o2
theorem bel3 (w : World) (o1 o2 o3 : Obj) : Below w.heap.size w (((w.alloc o1).alloc o2).alloc o3) := (bel2 w o1 o2).alloc (by simp; omega) o3

set_option maxHeartbeats 1000000 in
theorem rank_sal (hs : (Lib.compareInt sa2 sa1 == 0) = false) :
    Calls Try.prog 20 #[.int .i64 s, .agg #[.int .i64 r1, .int .i64 al1, .slice A1 n1 c1, .int .i64 sa1, .int .i64 sp1, .int .i64 bo1, .int .i64 k1], .agg #[.int .i64 r2, .int .i64 al2, .slice A2 n2 c2, .int .i64 sa2, .int .i64 sp2, .int .i64 bo2, .int .i64 k2]] w fun e w' => e = .returned (.int .i64 (Lib.compareInt sa2 sa1)) ∧ Below w.heap.size w w' := by
  go_enter Try.func20, Try.ntmps20
  go_wp2_with (first | (go_at_call 29; refine (cmp_c _ _ _).mono ?_; rintro e w' ⟨rfl, rfl⟩) | (go_at_call 30; refine (cmp64_c _ _ _).mono ?_; rintro e w' ⟨rfl, rfl⟩) | (go_at_call 33; refine (or_at _ _ _ _ _ (heap3 _ _ _ _)).mono ?_; rintro e w' ⟨rfl, rfl⟩))
  go_ret
  exact ⟨rfl, bel2 _ _ _⟩

set_option maxHeartbeats 1000000 in
theorem rank2 (hs : (Lib.compareInt sa2 sa1 == 0) = true) :
    Calls Try.prog 20 #[.int .i64 2, .agg #[.int .i64 r1, .int .i64 al1, .slice A1 n1 c1, .int .i64 sa1, .int .i64 sp1, .int .i64 bo1, .int .i64 k1], .agg #[.int .i64 r2, .int .i64 al2, .slice A2 n2 c2, .int .i64 sa2, .int .i64 sp2, .int .i64 bo2, .int .i64 k2]] w fun e w' => e = .returned (.int .i64 (Lib.compareInt bo1 bo2)) ∧ Below w.heap.size w w' := by
  go_enter Try.func20, Try.ntmps20
  go_wp2_with (first | (go_at_call 29; refine (cmp_c _ _ _).mono ?_; rintro e w' ⟨rfl, rfl⟩) | (go_at_call 30; refine (cmp64_c _ _ _).mono ?_; rintro e w' ⟨rfl, rfl⟩) | (go_at_call 33; refine (or_at _ _ _ _ _ (heap3 _ _ _ _)).mono ?_; rintro e w' ⟨rfl, rfl⟩))
  go_ret
  exact ⟨rfl, bel2 _ _ _⟩

set_option maxHeartbeats 1000000 in
theorem rank3 (hs : (Lib.compareInt sa2 sa1 == 0) = true) :
    Calls Try.prog 20 #[.int .i64 3, .agg #[.int .i64 r1, .int .i64 al1, .slice A1 n1 c1, .int .i64 sa1, .int .i64 sp1, .int .i64 bo1, .int .i64 k1], .agg #[.int .i64 r2, .int .i64 al2, .slice A2 n2 c2, .int .i64 sa2, .int .i64 sp2, .int .i64 bo2, .int .i64 k2]] w fun e w' => e = .returned (.int .i64 (orI (Lib.compareInt sp1 sp2) (Lib.compareInt bo2 bo1))) ∧ Below w.heap.size w w' := by
  go_enter Try.func20, Try.ntmps20
  go_wp2_with (first | (go_at_call 29; refine (cmp_c _ _ _).mono ?_; rintro e w' ⟨rfl, rfl⟩) | (go_at_call 30; refine (cmp64_c _ _ _).mono ?_; rintro e w' ⟨rfl, rfl⟩) | (go_at_call 33; refine (or_at _ (Lib.compareInt sp1 sp2) (Lib.compareInt bo2 bo1) _ _ (heap3 _ _ _ _)).mono ?_; rintro e w' ⟨rfl, rfl⟩))
  go_ret
  exact ⟨rfl, bel3 _ _ _ _⟩

set_option maxHeartbeats 1000000 in
theorem rank7 (hs : (Lib.compareInt sa2 sa1 == 0) = true) :
    Calls Try.prog 20 #[.int .i64 7, .agg #[.int .i64 r1, .int .i64 al1, .slice A1 n1 c1, .int .i64 sa1, .int .i64 sp1, .int .i64 bo1, .int .i64 k1], .agg #[.int .i64 r2, .int .i64 al2, .slice A2 n2 c2, .int .i64 sa2, .int .i64 sp2, .int .i64 bo2, .int .i64 k2]] w fun e w' => e = .returned (.int .i64 (orI (Lib.compareInt k1 k2) (Lib.compareInt bo2 bo1))) ∧ Below w.heap.size w w' := by
  go_enter Try.func20, Try.ntmps20
  go_wp2_with (first | (go_at_call 29; refine (cmp_c _ _ _).mono ?_; rintro e w' ⟨rfl, rfl⟩) | (go_at_call 30; refine (cmp64_c _ _ _).mono ?_; rintro e w' ⟨rfl, rfl⟩) | (go_at_call 33; refine (or_at _ (Lib.compareInt k1 k2) (Lib.compareInt bo2 bo1) _ _ (heap3 _ _ _ _)).mono ?_; rintro e w' ⟨rfl, rfl⟩))
  go_ret
  exact ⟨rfl, bel3 _ _ _ _⟩

set_option maxHeartbeats 1000000 in
theorem rank4 (hs : (Lib.compareInt sa2 sa1 == 0) = true) :
    Calls Try.prog 20 #[.int .i64 4, .agg #[.int .i64 r1, .int .i64 al1, .slice A1 n1 c1, .int .i64 sa1, .int .i64 sp1, .int .i64 bo1, .int .i64 k1], .agg #[.int .i64 r2, .int .i64 al2, .slice A2 n2 c2, .int .i64 sa2, .int .i64 sp2, .int .i64 bo2, .int .i64 k2]] w fun e w' => e = .returned (.int .i64 (orI (Lib.compareInt sp2 sp1) (Lib.compareInt bo2 bo1))) ∧ Below w.heap.size w w' := by
  go_enter Try.func20, Try.ntmps20
  go_wp2_with (first | (go_at_call 29; refine (cmp_c _ _ _).mono ?_; rintro e w' ⟨rfl, rfl⟩) | (go_at_call 30; refine (cmp64_c _ _ _).mono ?_; rintro e w' ⟨rfl, rfl⟩) | (go_at_call 33; refine (or_at _ (Lib.compareInt sp2 sp1) (Lib.compareInt bo2 bo1) _ _ (heap3 _ _ _ _)).mono ?_; rintro e w' ⟨rfl, rfl⟩))
  go_ret
  exact ⟨rfl, bel3 _ _ _ _⟩

set_option maxHeartbeats 1000000 in
theorem rank0 (hs : (Lib.compareInt sa2 sa1 == 0) = true) (e2 : (s == 2) = false) (e3 : (s == 3) = false) (e7 : (s == 7) = false) (e6 : (s == 6) = false) (e5 : (s == 5) = false) (e4 : (s == 4) = false) :
    Calls Try.prog 20 #[.int .i64 s, .agg #[.int .i64 r1, .int .i64 al1, .slice A1 n1 c1, .int .i64 sa1, .int .i64 sp1, .int .i64 bo1, .int .i64 k1], .agg #[.int .i64 r2, .int .i64 al2, .slice A2 n2 c2, .int .i64 sa2, .int .i64 sp2, .int .i64 bo2, .int .i64 k2]] w fun e w' => e = .returned (.int .i64 (orI 0 (Lib.compareInt bo2 bo1))) ∧ Below w.heap.size w w' := by
  go_enter Try.func20, Try.ntmps20
  go_wp2_with (first | (go_at_call 29; refine (cmp_c _ _ _).mono ?_; rintro e w' ⟨rfl, rfl⟩) | (go_at_call 30; refine (cmp64_c _ _ _).mono ?_; rintro e w' ⟨rfl, rfl⟩) | (go_at_call 33; refine (or_at _ 0 (Lib.compareInt bo2 bo1) _ _ (heap3 _ _ _ _)).mono ?_; rintro e w' ⟨rfl, rfl⟩))
  go_ret
  exact ⟨rfl, bel3 _ _ _ _⟩
end
end Go.Proofs.Ytbogjhgnnmgiaaa
