/- The law's stands: their places; numbers rising. -/
import Derived.Test.YtonflknnlfffhaaUr
import Derived.Deep.Slices
namespace Go.Proofs.Ytonflknnlfffhaa
open Go.RowKit Go.Lib KP MR RW
/-- A stand: its fact, whether it is free, its supports; the slice of them. -/
abbrev Sd := Int × Bool × List Wf
abbrev Sf := Sd × Option Addr × Nat
abbrev Sf.sl (s : Sf) : Value := .slice s.2.1 s.1.2.2.length s.2.2
abbrev standc (s : Sf) : List Value := [.int .i64 s.1.1, .bool s.1.2.1, s.sl]
abbrev Sf.val (s : Sf) : Value := .agg #[.int .i64 s.1.1, .bool s.1.2.1, s.sl]
theorem standc_len (y : Sf) : (standc y).length = 3 := rfl
theorem standc_flat (y : Sf) : ∀ u ∈ standc y, u.oneCell' = true := by
  intro u hu
  simp at hu
  rcases hu with rfl | rfl | rfl <;> rfl
def zS : Value := .agg #[.int .i64 0, .bool false, .slice none 0 0]
theorem infoS : (Try.prog.info? 65).map (fun i => (i.zero, i.size, i.bytes)) = some (some zS, 3, 40) := by kernel_rfl
theorem fillS (y : Sf) : Instr.fill (fun i => some (i * 3, 3)) ((Array.range (1 * 3)).map (zS.cells[· % zS.cells.size]!)) [(0, y.val)] = some (standc y).toArray := by kernel_rfl
theorem sts_at {N : Nat → Prop} {W : World} {A : Option Addr} {l : List Sf} (h : RowsAt standc 3 N W A l) {k : Nat} (hk : k < l.length) : ∃ ad, A = some ad ∧ ¬ N ad.block ∧ W.cell? (ad.add (k * 3)) = some (.int .i64 l[k].1.1) ∧ W.cell? ⟨(ad.add (k * 3)).block, (ad.add (k * 3)).off + 1, none⟩ = some (.bool l[k].1.2.1) ∧ W.cell? ⟨(ad.add (k * 3)).block, (ad.add (k * 3)).off + 2, none⟩ = some l[k].sl := by
  obtain ⟨ad, e, hn, h0, hc⟩ := h.cell hk
  refine ⟨ad, e, hn, h0 _ rfl, ?_, ?_⟩
  · exact (hc 1 _ rfl).resolve_right (by omega)
  · exact (hc 2 _ rfl).resolve_right (by omega)
/-- What is behind k of a row. -/
theorem cut_from {α : Type} {f : α → List Value} {m : Nat} (A : Option Addr) (c k n : Nat) (hA : A = none → c = 0) : ∃ B c2, sliced A k n c m = .slice B (n - k) c2 ∧ (B = none → c2 = 0) ∧ ∀ (N : Nat → Prop) (W : World) (l : List α), RowsAt f m N W A l → l.length ≤ c → k ≤ l.length → RowsAt f m N W B (l.drop k) := by
  refine ⟨_, _, rfl, fun h => ?_, fun N W l h hc hk => ?_⟩
  · split at h
    · omega
    · cases A with
      | none => have := hA rfl; omega
      | some a => cases h
  · split
    · have e : l.drop k = [] := List.drop_eq_nil_of_le (by omega)
      rw [e]; exact RowsAt.nil _ _ _
    · intro j hj
      have hj2 : k + j < l.length := by rw [List.length_drop] at hj; omega
      obtain ⟨ad, e, hn, hcell⟩ := h (k + j) hj2
      subst e
      refine ⟨ad.add (k * m), rfl, by rw [add_block]; exact hn, fun i v hv => ?_⟩
      rw [List.getElem_drop] at hv
      have := hcell i v hv
      rwa [Nat.add_mul, ← Go.Deep.add_add ad] at this
theorem run_sizeOf' {P : Program} {e : TypeId} {i : TypeInfo} (hi : P.info? e = some i) (w : World) : (sizeOf e).run P w = .ok i.size w := by
  simp [sizeOf, typeInfo, hi]
theorem run_from {P : Program} {w : World} (t : TypeId) (i : TypeInfo) (size : Nat) (ht : P.underlying t = some (.slice (P.elem t))) (hi : P.info? (P.elem t) = some i) (hs : i.size = size)
    (A : Option Addr) (n c k : Nat) (kI : Int) (hk : kI = k) (h1 : k ≤ n) (S : Value) (hS : sliced A k n c size = S) : (Instr.sliceAt t (.slice A n c) (some (.int .i64 kI)) none none).run P w = .ok S w := by
  subst hk
  rw [run_sliceAt_slice _ _ _ _ _ _ ht, run_slice_l _ _ _ _ _ ht _ _ (by omega) (by omega), run_sizeOf' hi]
  subst hs
  simp only [Result.andThen]
  rw [Int.toNat_natCast, hS]
theorem exec_from {P : Program} {w : World} {o : Oper} {a : Act} (x l : Operand) (t : TypeId) (ho : o.op = .slice t x (some l) none none) (i : TypeInfo) (size : Nat) (ht : P.underlying t = some (.slice (P.elem t))) (hi : P.info? (P.elem t) = some i) (hs : i.size = size)
    (A : Option Addr) (n c k : Nat) (kI : Int) (hk : kI = k) (hx : a.eval x = .slice A n c) (hl : a.eval l = .int .i64 kI) (h1 : k ≤ n) (S : Value) (hS : sliced A k n c size = S) : (execOp a.eval o).run P w = .ok (.value S) w := by
  unfold execOp
  simp only [ho, Option.map, Sem.run_bind, Sem.run_pure, hx, hl, run_from (w := w) t i size ht hi hs A n c k kI hk h1 S hS, Result.andThen_ok]
theorem wpList_from {P : Program} {w : World} {ops : Array Oper} {rest : List Oper} {o : Oper} {a : Act} {Q : Exit → Act → World → Prop} (hgd : o.guard = none) (x l : Operand) (t : TypeId) (ho : o.op = .slice t x (some l) none none) (i : TypeInfo) (size : Nat) (ht : P.underlying t = some (.slice (P.elem t))) (hi : P.info? (P.elem t) = some i) (hs : i.size = size)
    (A : Option Addr) (n c k : Nat) (kI : Int) (hk : kI = k) (hx : a.eval x = .slice A n c) (hl : a.eval l = .int .i64 kI) (h1 : k ≤ n) (S : Value) (hS : sliced A k n c size = S) (h : wpList P ops Q rest (a.put o.dst S) w) : wpList P ops Q (o :: rest) a w := by
  refine wpList_plain hgd fun K hK => ?_
  unfold Oper.wp
  rw [exec_from x l t ho i size ht hi hs A n c k kI hk hx hl h1 S hS]
  exact hK _ _ h
/-- A stand's place, from the start; -1: none. -/
def AtS (l : List Sf) (id : Int) (a : Int) : Prop := (a = -1 ∧ ∀ s ∈ l, s.1.1 ≠ id) ∨ ∃ j, ∃ h : j < l.length, a = (j : Int) ∧ l[j].1.1 = id
def AtR (l : List Sf) (id : Int) (W : World) (e : Ending) (w' : World) : Prop := ∃ a, e = .returned (.int .i64 a) ∧ AtS l id a ∧ W = w'
set_option maxRecDepth 100000 in
set_option maxHeartbeats 4000000 in
theorem at_c (A : Option Addr) (c : Nat) (l : List Sf) (id : Int) (W : World) (hI : RowsAt standc 3 (fun _ => False) W A l) (hl : l.length ≤ 1000000) : Calls Try.prog 27 #[.slice A l.length c, .int .i64 id] W (AtR l id W) := by
  have HI := Lib.hid hI
  have hlI : (l.length : Int) ≤ 1000000 := by omega
  clear hI
  go_enter Try.func27, Try.ntmps27
  go_wp2_with fail
  go_loopw [5] (fun i wr => ∃ k : Nat, k ≤ l.length ∧ i = .int .i64 k ∧ Hid (∀ j (h : j < l.length), j < k → l[j].1.1 ≠ id) ∧ Hid (W = wr)) (fun i _ => l.length - (RowKit.intOf i).toNat)
  case atStart => exact ⟨0, by omega, rfl, Lib.hid (fun j h1 h2 => by omega), Lib.hid rfl⟩
  case round =>
    obtain ⟨k, hk, rfl, hE, hW⟩ := hrel
    obtain rfl := hW.out
    clear hW
    by_cases hlt : k < l.length
    · have hkI : (k : Int) < (l.length : Int) := by omega
      obtain ⟨ad, rfl, _, c0, -, -⟩ := sts_at HI.out hlt
      by_cases he : l[k].1.1 = id
      · have HD : Hid (AtR l id W (.returned (.int .i64 k)) W) := Lib.hid ⟨k, rfl, .inr ⟨k, hlt, rfl, he⟩, rfl⟩
        have e1 : (l[k].1.1 == id) = true := by simp [he]
        clear he hE
        generalize l[k].1.1 = x at *
        go_wp2_with fail
        go_ret
        exact HD.out
      · have HD : Hid (∀ j (h : j < l.length), j < k + 1 → l[j].1.1 ≠ id) := Lib.hid (fun j h1 h2 => by
          by_cases e : j = k
          · subst e; exact he
          · exact hE.out j h1 (by omega))
        have e1 : (l[k].1.1 == id) = false := by simp [he]
        clear he hE
        generalize l[k].1.1 = x at *
        go_wp2_with fail
        go_roundw
        case rel => exact ⟨k + 1, by omega, by go_num, HD, Lib.hid trivial⟩
        case measure => first | (simp [RowKit.intOf]; done) | (simp [RowKit.intOf]; omega)
    · obtain rfl : k = l.length := by omega
      have HD : Hid (AtR l id W (.returned (.int .i64 (-1))) W) := Lib.hid ⟨-1, rfl, .inl ⟨rfl, fun t ht => by
        obtain ⟨j, hj, rfl⟩ := List.getElem_of_mem ht
        exact hE.out j hj hj⟩, rfl⟩
      clear hE
      go_wp2_with fail
      go_ret
      exact HD.out
end Go.Proofs.Ytonflknnlfffhaa
