/- Steps of a drawn region over any program's rows: slice literals, append. The law's row of tokens: its type's facts. -/
import Derived.Test.YtonflknnlfffhaaLb
import Derived.Great.BuildSlice
namespace Go.Proofs.Ytonflknnlfffhaa
open Go.RowKit Go.Lib KP MR RW
theorem step_build0 {P : Program} {ops : Array Oper} {o : Oper} {a : Act} {K : Act → World → Prop} {Q : Exit → Act → World → Prop} {E : Prop} {w : World} (hgd : o.guard = none) (t : TypeId) (ho : o.op = .buildSlice t 0 #[]) (e : TypeId) (i : TypeInfo) (m base : Nat) (ht : P.underlying t = some (.slice e)) (hi : P.info? e = some i) (hb : base ≤ w.heap.size)
    (h : ∀ v w', OwnW w' base e m v 0 [] → Below w.heap.size w w' → K (a.put o.dst v) w') : if Region.wanted o (yielded ops a.tmps) = true then Oper.wp P o a w K Q else E := by
  have hw : Region.wanted o (yielded ops a.tmps) = true := by simp [Region.wanted, hgd]
  rw [if_pos hw]
  have hr : (Instr.buildSlice t 0 #[]).run P w = .ok (.slice (some ⟨w.heap.size, 0, none⟩) 0 0) (w.alloc (.cells #[] e)) := by
    simp [Instr.buildSlice, run_underlying ht, sizeOf, typeInfo, hi, newRow, Instr.fill]
    rw [Array.eq_empty_of_size_eq_zero (by simp : (Array.map (fun _ => (default : Value)) (Array.range 0)).size = 0)]
  unfold Oper.wp execOp
  simp only [ho, List.map_toArray, List.map_nil, Sem.run_bind, hr, Result.andThen_ok]
  exact h _ _ (OwnW.of (World.ownsRow_made w #[] (e := e) (size := m) (base := base) 0 hb (by unfold maxLen; omega) (by simp))) ((Below.refl _ _).alloc (Nat.le_refl _) _)
theorem step_build1 {α : Type} {f : α → List Value} {m : Nat} {P : Program} {ops : Array Oper} {o : Oper} {a : Act} {K : Act → World → Prop} {Q : Exit → Act → World → Prop} {E : Prop} {w : World} (hgd : o.guard = none) (t : TypeId) (y : Operand) (ho : o.op = .buildSlice t 1 #[(0, y)]) (e : TypeId) (i : TypeInfo) (z : Value) (ht : P.underlying t = some (.slice e)) (hi : P.info? e = some i) (hz : i.zero = some z)
    (hsize : i.size = m) (hm0 : 0 < m) (hm1 : m ≤ 100) (x : α) (v : Value) (hy : a.eval y = v) (hfill : Instr.fill (fun i => some (i * m, m)) ((Array.range (1 * m)).map (z.cells[· % z.cells.size]!)) [(0, v)] = some (f x).toArray)
    (h : ∀ g w', RowsAt f m (fun k => k ≠ g) w' (some ⟨g, 0, none⟩) [x] → Below w.heap.size w w' → w.heap.size ≤ g → g < w'.heap.size → K (a.put o.dst (.slice (some ⟨g, 0, none⟩) 1 1)) w') : if Region.wanted o (yielded ops a.tmps) = true then Oper.wp P o a w K Q else E := by
  have hw : Region.wanted o (yielded ops a.tmps) = true := by simp [Region.wanted, hgd]
  rw [if_pos hw]
  subst hsize
  refine wp_buildSlice t e 1 _ ho (f x).toArray i z ht hi hz (by omega) (by omega) (by simpa [hy] using hfill) ?_
  exact h _ _ (new_one (f := f) (m := i.size) (N := fun k => k ≠ w.heap.size) w x e (fun h => h rfl)) ((Below.refl _ _).alloc (Nat.le_refl _) _) (Nat.le_refl _) (by simp)
theorem step_append_ownN {α : Type} {f : α → List Value} {m : Nat} {P : Program} {ops : Array Oper} {o : Oper} {a : Act} {K : Act → World → Prop} {Q : Exit → Act → World → Prop} {E : Prop} {w : World} (hm : ∀ x, (f x).length = m) (h1 : ∀ x, ∀ u ∈ f x, u.oneCell' = true) (hm0 : 0 < m) (hgd : o.guard = none) (s x : Operand) (t : TypeId)
    (ho : o.op = .call { callee := .builtin .append, args := #[s, x], argTypes := #[t, t] }) (base : Nat) (e : TypeId) (i : TypeInfo) (z : Value) (bytes : Nat) (ht : P.underlying t = some (.slice e)) (hi : P.info? e = some i) (hz : i.zero = some z)
    (hsize : i.size = m) (hby : i.bytes = bytes) (hzs : z.cells.size = m) (v : Value) (n : Nat) (l : List α) (hs : a.eval s = v) (hown : OwnW w base e m v n (l.flatMap f))
    (A : Option Addr) (c : Nat) (p : List α) (q : Nat) (hq : p.length = q) (hA : A = none → c = 0) (hI : RowsAt f m (fun _ => False) w A p) (hx : a.eval x = .slice A q c) (h63 : n + q ≤ maxLen) (hbytes : (n + q) * bytes ≤ 140737488355328) (hbase : base ≤ w.heap.size)
    (h : ∀ v' w', OwnW w' base e m v' (n + q) ((l ++ p).flatMap f) → w.grownBy w' v.ownBlock → (v'.ownBlock = v.ownBlock ∨ ∀ k, v'.ownBlock = some k → w.heap.size ≤ k) → K (a.put o.dst v') w') : if Region.wanted o (yielded ops a.tmps) = true then Oper.wp P o a w K Q else E := by
  subst hq
  exact step_append_ownW hm h1 hm0 hgd s x t ho base e i z bytes ht hi hz hsize hby hzs v n l hs hown A c p hA hI hx h63 hbytes hbase h
def zK : Value := .agg #[.int .i64 0, .int .i64 0, .int .i64 0]
theorem infoK : (Try.prog.info? 34).map (fun i => (i.zero, i.size, i.bytes)) = some (some zK, 3, 24) := by kernel_rfl
theorem fillI (x : Int) : Instr.fill (fun i => some (i * 1, 1)) ((Array.range (1 * 1)).map (zI.cells[· % zI.cells.size]!)) [(0, .int .i64 x)] = some (intc x).toArray := by kernel_rfl
theorem fillK (t : Tk) : Instr.fill (fun i => some (i * 3, 3)) ((Array.range (1 * 3)).map (zK.cells[· % zK.cells.size]!)) [(0, .agg #[.int .i64 t.1, .int .i64 t.2.1, .int .i64 t.2.2])] = some (tokc t).toArray := by kernel_rfl
end Go.Proofs.Ytonflknnlfffhaa
