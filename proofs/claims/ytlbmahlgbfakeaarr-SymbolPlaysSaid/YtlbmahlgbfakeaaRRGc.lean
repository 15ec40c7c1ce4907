/- The table of names: New, Find, Name, Len, Intern. -/
import Derived.Test.YtlbmahlgbfakeaaRRGb
import Derived.Test.YtlbmahlgbfakeaaRRMr
import Derived.Test.YtlbmahlgbfakeaaRRKp
import Derived.RegionTactic
import Derived.ChangeAlike
import Derived.Deep.QuietTactic
import Derived.BigQuiet
namespace Go.Proofs.YtlbmahlgbfakeaaRR
open Go.RowKit MR KP

def eV (n : Int) : Value := .int .i64 n
/-- Names with their numbers, from k + 1 on. -/
def pairsFrom : Nat → List ByteArray → List (ByteArray × Int)
  | _, [] => []
  | k, s :: l => (s, ((k + 1 : Nat) : Int)) :: pairsFrom (k + 1) l
def pairs (l : List ByteArray) : List (ByteArray × Int) := pairsFrom 0 l

/-- Block g is a table with the names l; its blocks are in F. -/
structure IsTable (w : World) (F : Nat → Prop) (B g : Nat) (l : List ByteArray) : Prop where
  ex : ∃ m v, F g ∧ F m ∧ (∀ k, v.ownBlock = some k → F k) ∧ w.heap[g]? = some (.cells #[.map (some m), v] 40 (0, 0)) ∧ IsMap w m Value.string eV (pairs l) ∧ w.ownsRow B 9 1 v l.length (l.map Value.string)

theorem ret2_bool {a a' : Value} {b b' : Bool} (h : a = a') (h2 : b = b') : Ending.returned (.tuple #[a, .bool b]) = .returned (.tuple #[a', .bool b']) := by rw [h, h2]
theorem zero3 (w : World) : (zeroValue 3).run Try.prog w = .ok (.int .i64 0) w := by kernel_rfl

set_option maxHeartbeats 400000 in
theorem new_any (w : World) : Calls Try.prog 7 #[] w fun e w' => ∃ g F, e = .returned (.pointer (some ⟨g, 0, none⟩)) ∧ IsTable w' F w.heap.size g [] ∧ (∀ k, F k → w.heap.size ≤ k) ∧ Keep (fun _ => False) w w' := by
  have hmm := @run_makeMap Try.prog
  go_enter Try.func7, Try.ntmps7
  go_wp2
  go_ret
  refine ⟨w.heap.size + 1, fun k => w.heap.size ≤ k, rfl, ⟨w.heap.size, .slice none 0 0, by omega, Nat.le_refl _, by simp [Value.ownBlock], ?_, ?_, World.ownsRow_nil _ _ _ _⟩, fun k hk => hk, ((Keep.refl _ w).alloc _).alloc _⟩
  · have h := (MapKept.heap_alloc (w.alloc (.map #[] 0)) (.cells #[.map (some w.heap.size), .slice none 0 0] 40)).1
    simpa using h
  · exact (IsMap.made w Value.string eV).move ((MapKept.heap_alloc (w.alloc (.map #[] 0)) _).2 _ (by simp))

set_option maxHeartbeats 400000 in
theorem find_any (F : Nat → Prop) (B g : Nat) (l : List ByteArray) (s : ByteArray) (w : World) (h : IsTable w F B g l) :
    Calls Try.prog 11 #[.pointer (some ⟨g, 0, none⟩), .string s] w fun e w' => e = .returned (.tuple #[.int .i64 ((lk (pairs l) s).getD 0), .bool (lk (pairs l) s).isSome]) ∧ w' = w := by
  obtain ⟨m, v, _, _, _, hb, hm, _⟩ := h.ex
  have c0 := block_cell (j := 0) hb rfl
  have hrun := hm.lookup inj_str (fun k => key_str k) Try.underlying38 Try.underlying9 (zero3 w) s true
  clear hb hm
  go_enter Try.func11, Try.ntmps11
  go_wp2
  go_ret2
  exact ⟨ret2_bool (by cases lk (pairs l) s <;> rfl) rfl, rfl⟩

set_option maxHeartbeats 400000 in
theorem len_any (F : Nat → Prop) (B g : Nat) (l : List ByteArray) (w : World) (h : IsTable w F B g l) :
    Calls Try.prog 13 #[.pointer (some ⟨g, 0, none⟩)] w fun e w' => e = .returned (.int .i64 l.length) ∧ w' = w := by
  obtain ⟨m, v, _, _, _, hb, hm, ho⟩ := h.ex
  have c1 := block_cell (j := 1) hb rfl
  have hv : ∃ A c, v = .slice A l.length c := by
    rcases ho.2 with ⟨h1, h2⟩ | ⟨g', cap, _, h1, _⟩
    · exact ⟨none, 0, by rw [h2]; exact h1⟩
    · exact ⟨_, _, h1⟩
  obtain ⟨A, c, rfl⟩ := hv
  clear hb hm ho
  go_enter Try.func13, Try.ntmps13
  go_wp2
  go_ret
  exact ⟨rfl, rfl⟩

theorem table_slice {w : World} {B : Nat} {v : Value} {l : List ByteArray} (ho : w.ownsRow B 9 1 v l.length (l.map Value.string)) : ∃ A c, v = .slice A l.length c := by
  rcases ho.2 with ⟨h1, h2⟩ | ⟨g', cap, _, h1, _⟩
  · exact ⟨none, 0, by rw [h2]; exact h1⟩
  · exact ⟨_, _, h1⟩

set_option maxHeartbeats 400000 in
theorem name_no (F : Nat → Prop) (B g : Nat) (l : List ByteArray) (n : Int) (w : World) (h : IsTable w F B g l) (hn : n < 1 ∨ (l.length : Int) < n) :
    Calls Try.prog 12 #[.pointer (some ⟨g, 0, none⟩), .int .i64 n] w fun e w' => e = .returned (.tuple #[.string ⟨#[]⟩, .bool false]) ∧ ∃ q, w' = w.drewN q := by
  obtain ⟨m, v, _, _, _, hb, hm, ho⟩ := h.ex
  have c1 := block_cell (j := 1) hb rfl
  obtain ⟨A, c, rfl⟩ := table_slice ho
  clear hb hm ho
  by_cases h1 : n < 1
  · go_enter Try.func12, Try.ntmps12
    go_wp2
    go_ret2
    exact ⟨rfl, 0, rfl⟩
  · have h2 : (l.length : Int) < n := by omega
    go_enter Try.func12, Try.ntmps12
    go_wp2
    go_ret2
    exact ⟨rfl, 0, rfl⟩

set_option maxHeartbeats 400000 in
theorem intern_bad (F : Nat → Prop) (B g : Nat) (l : List ByteArray) (s : ByteArray) (w : World) (h : IsTable w F B g l) (hg : goodB s = false) :
    Calls Try.prog 8 #[.pointer (some ⟨g, 0, none⟩), .string s] w fun e w' => e = .returned (.tuple #[.int .i64 0, .int .i64 2]) ∧ w' = w := by
  go_enter Try.func8, Try.ntmps8
  go_wp2_with (go_at_call 10; refine (good_any _ _).mono ?_; rintro e w' ⟨rfl, rfl⟩)
  go_ret2
  exact ⟨rfl, rfl⟩

set_option maxHeartbeats 400000 in
theorem intern_old (F : Nat → Prop) (B g : Nat) (l : List ByteArray) (s : ByteArray) (n : Int) (w : World) (h : IsTable w F B g l) (hg : goodB s = true) (hl : lk (pairs l) s = some n) :
    Calls Try.prog 8 #[.pointer (some ⟨g, 0, none⟩), .string s] w fun e w' => e = .returned (.tuple #[.int .i64 n, .int .i64 0]) ∧ w' = w := by
  obtain ⟨m, v, _, _, _, hb, hm, _⟩ := h.ex
  have c0 := block_cell (j := 0) hb rfl
  have hrun := hm.lookup inj_str (fun k => key_str k) Try.underlying38 Try.underlying9 (zero3 w) s true
  rw [hl] at hrun
  clear hb hm hl h
  go_enter Try.func8, Try.ntmps8
  go_wp2_with (go_at_call 10; refine (good_any _ _).mono ?_; rintro e w' ⟨rfl, rfl⟩)
  go_ret2
  exact ⟨rfl, rfl⟩

set_option maxRecDepth 100000 in
set_option maxHeartbeats 400000 in
theorem intern_full (F : Nat → Prop) (B g : Nat) (l : List ByteArray) (s : ByteArray) (w : World) (h : IsTable w F B g l) (hg : goodB s = true) (hl : lk (pairs l) s = none) (hf : 4096 ≤ l.length) :
    Calls Try.prog 8 #[.pointer (some ⟨g, 0, none⟩), .string s] w fun e w' => e = .returned (.tuple #[.int .i64 0, .int .i64 10]) ∧ w' = w := by
  obtain ⟨m, v, _, _, _, hb, hm, ho⟩ := h.ex
  have c0 := block_cell (j := 0) hb rfl
  have c1 := block_cell (j := 1) hb rfl
  have hrun := hm.lookup inj_str (fun k => key_str k) Try.underlying38 Try.underlying9 (zero3 w) s true
  rw [hl] at hrun
  obtain ⟨A, c, rfl⟩ := table_slice ho
  clear hb hm hl h ho
  go_enter Try.func8, Try.ntmps8
  go_wp2_with (go_at_call 10; refine (good_any _ _).mono ?_; rintro e w' ⟨rfl, rfl⟩)
  go_ret2
  exact ⟨rfl, rfl⟩
end Go.Proofs.YtlbmahlgbfakeaaRR
