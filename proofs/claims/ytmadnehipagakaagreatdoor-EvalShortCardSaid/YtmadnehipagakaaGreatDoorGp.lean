/- EvalShort, plainly: and and or over constants. -/
import Derived.Test.YtmadnehipagakaaGreatDoorGi
import Derived.Test.YtmadnehipagakaaGreatDoorOa
namespace Go.Proofs.YtmadnehipagakaaGreatDoor
open Go.ChangeShapes Go.WideShapes Go.RowKit Go.Lib Go.Sort Go.Shelf KP
section
open Go.Deep
theorem cBo : Tryz.prog.cellsOf 4 = 1 := by kernel_rfl
variable {H : Type} {enc : TypeId × Value → H} {w : World}
theorem open_bools {v : Value} {d : DataW H} {p : List MemPlace} (hv : ∃ a len cap, v = .slice a len cap) (h : DataW.Trod enc Tryz.prog w 0 (fun _ => true) true 82 v d p) :
    ∃ (A : Option Addr) (ls : List Bool) (c : Nat), v = .slice A ls.length c ∧ (∀ k (h : k < ls.length), ∃ a, A = some a ∧ w.cell? (a.add k) = some (.bool ls[k])) := by
  obtain ⟨a0, len0, cap0, rfl⟩ := hv
  obtain ⟨fuel, hf⟩ := h
  rcases open_slice Tryz.underlying82 hf with ⟨hcs, _⟩ | ⟨a, len, cap, m, n, D, Pl, hcs, _, hl, hm, hmm, _, hel⟩
  · have : (Value.slice a0 len0 cap0) = .slice none 0 0 := by simpa [Value.cells] using hcs
    exact ⟨none, [], 0, this, fun k h => absurd h (by simp)⟩
  · have hv : (Value.slice a0 len0 cap0) = .slice (some a) len cap := by simpa [Value.cells] using hcs
    rw [cBo] at hel
    have hone : ∀ i, i < len → ∃ x : Bool, w.cell? (a.add i) = some (.bool x) := by
      intro i hi
      obtain ⟨cs, h1, h2⟩ := hel i (by rw [hmm]; split <;> omega)
      obtain ⟨hlen, hcell⟩ := cells_at h1
      obtain ⟨x, hx, _⟩ := DataW.trod_bool Tryz.underlying4 h2
      refine ⟨x, ?_⟩
      have := hcell 0 (.bool x) (by rw [hx]; rfl)
      simpa [Addr.add] using this
    obtain ⟨ls, hlen, has⟩ := exists_list len hone
    exact ⟨some a, ls, cap, by rw [hv, hlen], fun k hk => ⟨a, rfl, has k hk⟩⟩
end
def kB (b : Bool) : Ex := .mk 1 (vB b) ⟨#[]⟩ []
def exNone : Ex := .mk 2 v0 ⟨#[110, 111, 110, 101]⟩ []
/-- The first place of a truth. -/
def stopO (l : List Bool) (want : Bool) : Option Nat := l.findIdx? (fun b => b == want)
theorem true_vB (b : Bool) : trueB (vB b) = b := by cases b <;> decide +kernel
theorem ev_kB (g : Nat) (b : Bool) (f : Nat) (hf : 0 < f) : evG [] [] (g + 1) [] 0 (kB b) f = ((vB b, 0), f - 1) := by
  show (if f = 0 then _ else _) = _
  rw [if_neg (by omega)]
  show evS [] [] _ [] 0 (kB b) (f - 1) = _
  unfold evS
  rw [if_pos (by rfl)]
  rfl
theorem ev_none (g : Nat) (f : Nat) (hf : 0 < f) : evG [] [] (g + 1) [] 0 exNone f = ((v0, 7), f - 1) := by
  show (if f = 0 then _ else _) = _
  rw [if_neg (by omega)]
  show evS [] [] _ [] 0 exNone (f - 1) = _
  unfold evS
  rw [if_neg (by decide), if_pos (by rfl)]
  rfl
theorem fir_consts (g : Nat) (want : Bool) : ∀ (l : List Bool) (f : Nat), l.length < f → (l.map kB ++ [exNone]).foldl (firS (evG [] [] (g + 1) [] 0) want) ((false, 0), f) = (match stopO l want with
      | some i => ((true, 0), f - 1 - i)
      | none => ((true, 7), f - 1 - l.length))
  | [], f, hf => by
    show firS _ want ((false, 0), f) exNone = ((true, 7), f - 1 - 0)
    rw [firS_bad (ev_none g f (by omega)) (by decide)]
    first | done | rfl
  | b :: l, f, hf => by
    rw [List.map_cons, List.cons_append, List.foldl_cons, firS_ok (ev_kB g b f (by simp at hf; omega)), true_vB]
    have hs : stopO (b :: l) want = if (b == want) = true then some 0 else (stopO l want).map (· + 1) := by
      unfold stopO
      rw [List.findIdx?_cons]
    rw [hs]
    cases hb : (b == want) with
    | true =>
      rw [if_pos rfl]
      exact fir_stuck _ _ rfl
    | false =>
      rw [if_neg (by simp), fir_consts g want l (f - 1) (by simp at hf; omega)]
      cases stopO l want with
      | none => show ((true, (7 : Int)), f - 1 - 1 - l.length) = ((true, (7 : Int)), f - 1 - (l.length + 1)); rw [show f - 1 - 1 - l.length = f - 1 - (l.length + 1) by omega]
      | some i => show ((true, (0 : Int)), f - 1 - 1 - i) = ((true, (0 : Int)), f - 1 - (i + 1)); rw [show f - 1 - 1 - i = f - 1 - (i + 1) by omega]
/-- What is answered. -/
def shortE (l : List Bool) (or : Bool) : Ex := .mk (if or then 7 else 6) v0 ⟨#[]⟩ (l.map kB ++ [exNone])
theorem short_ev (l : List Bool) (or : Bool) (hl : l.length ≤ 30) : evG [] [] 100 [] 0 (shortE l or) 100 = match stopO l or with
  | some i => ((vB or, 0), 98 - i)
  | none => ((v0, 7), 98 - l.length) := by
  show (if (100 : Nat) = 0 then _ else _) = _
  rw [if_neg (by omega)]
  show evS [] [] (evG [] [] 99) [] 0 (shortE l or) 99 = _
  have hf := fir_consts 98 or l 99 (by omega)
  unfold evS
  cases or
  · rw [if_neg (show ¬ (shortE l false).k = 1 from (by decide : ¬ (6 : Int) = 1)), if_neg (show ¬ (shortE l false).k = 2 from (by decide : ¬ (6 : Int) = 2)), if_neg (show ¬ (shortE l false).k = 3 from (by decide : ¬ (6 : Int) = 3)), if_neg (show ¬ (shortE l false).k = 4 from (by decide : ¬ (6 : Int) = 4)), if_neg (show ¬ (shortE l false).k = 5 from (by decide : ¬ (6 : Int) = 5)), if_pos (by rfl)]
    show truthO false ((l.map kB ++ [exNone]).foldl (firS (evG [] [] (98 + 1) [] 0) false) ((false, 0), 99)) = _
    rw [hf]
    cases stopO l false <;> rfl
  · rw [if_neg (show ¬ (shortE l true).k = 1 from (by decide : ¬ (7 : Int) = 1)), if_neg (show ¬ (shortE l true).k = 2 from (by decide : ¬ (7 : Int) = 2)), if_neg (show ¬ (shortE l true).k = 3 from (by decide : ¬ (7 : Int) = 3)), if_neg (show ¬ (shortE l true).k = 4 from (by decide : ¬ (7 : Int) = 4)), if_neg (show ¬ (shortE l true).k = 5 from (by decide : ¬ (7 : Int) = 5)), if_neg (show ¬ (shortE l true).k = 6 from (by decide : ¬ (7 : Int) = 6)), if_pos (by rfl)]
    show truthO true ((l.map kB ++ [exNone]).foldl (firS (evG [] [] (98 + 1) [] 0) true) ((false, 0), 99)) = _
    rw [hf]
    cases stopO l true <;> rfl
theorem short_good (l : List Bool) (or : Bool) (hl : l.length ≤ 30) : goodE (shortE l or) := by
  refine .mk (fun e => by cases or <;> cases e) (by simp; omega) (fun i h => ?_)
  have hm := List.getElem_mem h
  rw [List.mem_append] at hm
  rcases hm with hm | hm
  · obtain ⟨b, _, e⟩ := List.mem_map.1 hm
    rw [← e]
    exact .mk (fun _ => good_bool b) (by simp) (fun i h => by simp at h)
  · simp only [List.mem_singleton] at hm
    rw [hm]
    exact goodE_leaf 2 _ (by decide)
abbrev e6 (e : Ex) : List Value := [.int .i64 e.k, .int .i64 e.v.1, .int .i64 e.v.2.1, .string e.v.2.2, .string e.s, .slice none 0 0]
theorem e6_len (e : Ex) : (e6 e).length = 6 := rfl
theorem e6_flat (l : List Ex) : ∀ u ∈ l.flatMap e6, u.oneCell' = true := by
  intro u hu
  obtain ⟨b, _, h⟩ := List.mem_flatMap.1 hu
  simp at h
  rcases h with rfl | rfl | rfl | rfl | rfl | rfl <;> rfl
/-- A row of leaves of its own, as the kids of a tree. -/
theorem leaves_own {W : World} {g n : Nat} {cur : Array Value} {l : List Ex} {T : TypeId} {fr : Nat × Nat} {N : Nat → Prop} {k : Int} {v : Vl} {s : ByteArray} (hg : W.heap[g]? = some (.cells cur T fr)) (hc : cur.toList.take (n * 6) = l.flatMap e6) (hN : ¬ N g) (hleaf : ∀ e ∈ l, e.kids = []) : ExAt N W (.mk k v s l) (some ⟨g, 0, none⟩) := by
  refine .mk (fun _ => none) (fun _ => 0) (fun i hi => ⟨_, rfl, hN, fun j u hu => ?_⟩) (fun i hi => ?_)
  · rw [addr_flat]
    refine block_cell hg ?_
    have hj : j < 6 := by
      rcases Nat.lt_or_ge j 6 with h | h
      · exact h
      · rw [Array.getElem?_eq_none (by simpa using h)] at hu; cases hu
    have h1 := flat_at e6_len l i hi j hj
    rw [← hc, List.getElem?_take] at h1
    have hk := hleaf l[i] (List.getElem_mem hi)
    have hu' : (e6 l[i])[j]? = some u := by
      have : exC l[i] none 0 = (e6 l[i]).toArray := by simp [hk]
      rw [this] at hu
      simpa using hu
    split at h1
    · have h2 : cur[i * 6 + j]? = (e6 l[i])[j]? := by simpa using h1
      rw [h2]; exact hu'
    · rw [hu'] at h1; cases h1
  · have hk := hleaf l[i] (List.getElem_mem hi)
    generalize l[i] = e at *
    obtain ⟨a, b, c, d⟩ := e
    have hd : d = [] := hk
    subst hd
    exact ExAt.nil _ _ _ _ _ _
end Go.Proofs.YtmadnehipagakaaGreatDoor
