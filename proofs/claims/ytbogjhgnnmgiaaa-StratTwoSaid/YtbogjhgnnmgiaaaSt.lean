/- StratFalls: the plain law of an insertion; append at a step of a drawn region. -/
import Derived.Test.YtbogjhgnnmgiaaaSq
import Derived.Maps.AppendAt
import Derived.Deep.AppendLies
import Derived.Deep.RegionHeld3
namespace Go.Proofs.Ytbogjhgnnmgiaaa
open Go.Shelf Go.RowKit Go.Lib

theorem step_append_at {P : Program} {w : World} {ops : Array Oper} {o : Oper} {a : Act} {K : Act → World → Prop} {Q : Exit → Act → World → Prop} {E : Prop} (hgd : o.guard = none) (s x : Operand) (t : TypeId)
    (ho : o.op = .call { callee := .builtin .append, args := #[s, x], argTypes := #[t, t] })
    (base : Nat) (e : TypeId) (i : TypeInfo) (z : Value) (size bytes : Nat) (ht : P.underlying t = some (.slice e)) (hi : P.info? e = some i) (hz : i.zero = some z)
    (hsize : i.size = size) (hby : i.bytes = bytes) (hzs : z.cells.size = size) (hsz : 0 < size)
    (v : Value) (n : Nat) (xs : List Value) (hs : a.eval s = v) (hown : w.ownsRow base e size v n xs)
    (ad : Addr) (m c : Nat) (news : List Value) (hx : a.eval x = .slice (some ad) m c) (hl : news.length = m * size) (hnews : ∀ j u, news[j]? = some u → w.cell? (ad.add j) = some u) (h1 : ∀ u ∈ news, u.oneCell' = true)
    (h63 : n + m ≤ maxLen) (hbytes : (n + m) * bytes ≤ 140737488355328) (hbase : base ≤ w.heap.size)
    (h : ∀ v' w', w'.ownsRow base e size v' (n + m) (xs ++ news) → w.grownBy w' v.ownBlock → (v'.ownBlock = v.ownBlock ∨ v'.ownBlock = some w.heap.size) → K (a.put o.dst v') w') :
    if Region.wanted o (yielded ops a.tmps) = true then Oper.wp P o a w K Q else E := by
  have hw : Region.wanted o (yielded ops a.tmps) = true := by simp [Region.wanted, hgd]
  rw [if_pos hw]
  obtain ⟨v', w', hr, h2, h3, h4, h5⟩ := run_append_own_at (P := P) w base t o.type e i z size bytes ht hi hz hsize hby hzs hsz v n xs hown ad m c news hl hnews h1 h63 hbytes hbase
  unfold Oper.wp execOp
  simp only [ho, resolve, invoke, builtin, Sem.run_bind, Sem.run_pure, Result.andThen_ok, List.map_toArray, List.map_cons, List.map_nil, hs, hx, hr]
  exact h v' w' h2 h3 h5

/-- A number put into a falling row behind all that are not below it. -/
theorem ins_is {l m : List Int} {x : Int} {k : Nat} (hm : falls l = m) (hk : k ≤ m.length) (h1 : ∀ j (h : j < m.length), k ≤ j → m[j] < x) (h2 : ∀ (h : k - 1 < m.length), 0 < k → x ≤ m[k - 1]) : falls (l ++ [x]) = m.take k ++ [x] ++ m.drop k := by
  have hs := falls_sorted l
  have hp := falls_perm l
  rw [hm] at hs hp
  refine falls_is ?_ ?_
  · have e1 : (m.take k ++ [x] ++ m.drop k).Perm (m.take k ++ m.drop k ++ [x]) := by
      rw [List.append_assoc, List.append_assoc]
      exact List.Perm.append_left _ List.perm_append_comm
    rw [List.take_append_drop] at e1
    exact e1.trans (List.Perm.append_right _ hp)
  · have g1 : ∀ y ∈ m.take k, x ≤ y := by
      intro y hy
      obtain ⟨j, hj, rfl⟩ := List.getElem_of_mem hy
      rw [List.length_take] at hj
      rw [List.getElem_take]
      have h3 := h2 (by omega) (by omega)
      by_cases e : j = k - 1
      · subst e; exact h3
      · have := List.pairwise_iff_getElem.1 hs j (k - 1) (by omega) (by omega) (by omega)
        omega
    have g2 : ∀ y ∈ m.drop k, y < x := by
      intro y hy
      obtain ⟨j, hj, rfl⟩ := List.getElem_of_mem hy
      rw [List.length_drop] at hj
      rw [List.getElem_drop]
      exact h1 (k + j) (by omega) (by omega)
    rw [List.append_assoc]
    refine List.pairwise_append.2 ⟨hs.sublist (List.take_sublist _ _), ?_, ?_⟩
    · exact List.pairwise_cons.2 ⟨fun y hy => by have := g2 y hy; omega, hs.sublist (List.drop_sublist _ _)⟩
    · intro y hy z hz
      have a1 := g1 y hy
      rcases List.mem_cons.1 hz with rfl | hz
      · exact a1
      · have := g2 z hz; omega
end Go.Proofs.Ytbogjhgnnmgiaaa
