/- The laws' own beginning: known. -/
import Derived.Test.YtmadnehipagakaaGreatDoorBu
namespace Go.Proofs.YtmadnehipagakaaGreatDoor
open Go.RowKit Go.Lib Go.Sort KP
def valsC : List Vl → List Value
  | [] => []
  | v :: l => .int .i64 v.1 :: .int .i64 v.2.1 :: .string v.2.2 :: valsC l
theorem valsC_at : ∀ (l : List Vl) (k : Nat) (h : k < l.length) (j : Nat) (u : Value), l[k].cs[j]? = some u → (valsC l)[k * 3 + j]? = some u
  | [], k, h, _, _, _ => by simp at h
  | v :: l, 0, _, j, u, e => by
    have e' : v.cs[j]? = some u := e
    match j with
    | 0 => simpa [valsC] using e'
    | 1 => simpa [valsC] using e'
    | 2 => simpa [valsC] using e'
    | j + 3 => simp at e'
  | v :: l, k + 1, h, j, u, e => by
    have := valsC_at l k (by simpa using h) j u e
    have e2 : (k + 1) * 3 + j = (k * 3 + j) + 3 := by omega
    rw [e2]
    exact this
theorem vals_block {W : World} {g : Nat} {l : List Vl} {T : TypeId} {fr : Nat × Nat} (h : W.heap[g]? = some (.cells (valsC l).toArray T fr)) : ValsAt W (some ⟨g, 0, none⟩) l := by
  intro k hk
  refine ⟨_, rfl, fun j v hv => ?_⟩
  have h1 := valsC_at l k hk j v hv
  have e1 : ((⟨g, 0, none⟩ : Addr).add (k * 3)).add j = ⟨g, k * 3 + j, none⟩ := by
    simp [Addr.add]
    split <;> split <;> simp_all
  rw [e1]
  exact block_cell h (by simpa using h1)
theorem okV_I {n : Int} (h : okI n) : okV (vI n) := ⟨by unfold okI; simp, h, Nat.zero_le _⟩
theorem apply_new (s : ByteArray) (ls : List Vl) (r : Vl × Int) (hr : applyO s ls = r) (w0 : World) (ht : Tab w0) (hk : ∀ v ∈ ls, okV v) (hl : ls.length ≤ 1000000) (W : World) (hW : Below w0.heap.size w0 W) (T : TypeId) :
    Calls Tryz.prog 13 #[.string s, .slice (some ⟨W.heap.size, 0, none⟩) ls.length ls.length] (W.alloc (.cells (valsC ls).toArray T)) fun e w' => e = .returned (pairV r) ∧ Below (W.alloc (.cells (valsC ls).toArray T)).heap.size (W.alloc (.cells (valsC ls).toArray T)) w' := by
  rw [← hr]
  exact apply_c s _ _ ls _ (ht.b (hW.alloc hW.size _)) (vals_block (heap_alloc_new W _)) hk hl
theorem apply_nil (s : ByteArray) (r : Vl × Int) (hr : applyO s [] = r) (w0 : World) (ht : Tab w0) (W : World) (hW : Below w0.heap.size w0 W) :
    Calls Tryz.prog 13 #[.string s, .slice none 0 0] W fun e w' => e = .returned (pairV r) ∧ Below W.heap.size W w' := by
  rw [← hr]
  exact apply_c s none 0 [] W (ht.b hW) (fun k h => by simp at h) (by simp) (by simp)
theorem ap1 : applyO ⟨#[43]⟩ [vI 2, vI 3] = (vI 5, 0) := by decide +kernel
theorem ap2 : applyO ⟨#[60]⟩ [vI 2, vI 3, vI 3] = (vS sFalse, 0) := by decide +kernel
theorem ap3 : applyO ⟨#[110, 111, 112, 101]⟩ [] = (v0, 5) := by decide +kernel
theorem ap4 : applyO ⟨#[43]⟩ [vS ⟨#[97]⟩] = (v0, 8) := by decide +kernel
theorem keepB {W W' : World} {g : Nat} {o : Obj} (h : W.heap[g]? = some o) (b : Below W.heap.size W W') : W'.heap[g]? = some o :=
  (b.block g (Array.getElem?_eq_some_iff.1 h).1).trans h
theorem keepA {W W' : World} {g : Nat} {o o' : Obj} (h : W.heap[g]? = some o) (b : Below (W.alloc o').heap.size (W.alloc o') W') : W'.heap[g]? = some o :=
  keepB ((Below.heap_alloc W o' g (Array.getElem?_eq_some_iff.1 h).1).trans h) b
set_option maxHeartbeats 2000000 in
theorem known_any (w : World) (ht : Tab w) : Calls Tryz.prog 11 #[] w fun e w' => e = .returned (.bool true) ∧ Below w.heap.size w w' := by
  have K1 := Lib.hid (fun W (h : Below w.heap.size w W) => apply_new ⟨#[43]⟩ [vI 2, vI 3] _ ap1 w ht (by intro v hv; simp at hv; rcases hv with rfl | rfl <;> exact okV_I (by unfold okI; omega)) (by simp) W h 26)
  have K2 := Lib.hid (fun W (h : Below w.heap.size w W) => apply_new ⟨#[60]⟩ [vI 2, vI 3, vI 3] _ ap2 w ht (by intro v hv; simp at hv; rcases hv with rfl | rfl <;> exact okV_I (by unfold okI; omega)) (by simp) W h 26)
  have K3 := Lib.hid (fun W (h : Below w.heap.size w W) => apply_nil ⟨#[110, 111, 112, 101]⟩ _ ap3 w ht W h)
  have K4 := Lib.hid (fun W (h : Below w.heap.size w W) => apply_new ⟨#[43]⟩ [vS ⟨#[97]⟩] _ ap4 w ht (by intro v hv; simp at hv; subst hv; exact ⟨by unfold okI; simp, by unfold okI; simp, by decide⟩) (by simp) W h 26)
  clear ht
  go_enter Tryz.func11, Tryz.ntmps11
  go_wp2_with fail
  refine (rInt_c 2 _).mono ?_
  rintro e w1 ⟨rfl, b1⟩
  have E1 := Lib.hid b1; clear b1
  go_wp2_with fail
  refine (rInt_c 3 _).mono ?_
  rintro e w2 ⟨rfl, b2⟩
  have E2 := Lib.hid (E1.out.trans (b2.mono E1.out.size)); clear b2
  go_wp2_with fail
  refine (K1.out w2 E2.out).mono ?_
  rintro e w3 ⟨rfl, b3⟩
  have E3 := Lib.hid ((E2.out.alloc E2.out.size _).trans (b3.mono (E2.out.alloc E2.out.size _).size)); clear b3
  go_wp2_with fail
  refine (rInt_c 2 _).mono ?_
  rintro e w4 ⟨rfl, b4⟩
  have E4 := Lib.hid ((E3.out.alloc E3.out.size _).trans (b4.mono (E3.out.alloc E3.out.size _).size))
  have V4 := Lib.hid ((b4.block w3.heap.size (by simp)).trans (heap_alloc_new w3 _)); clear b4
  go_wp2_with fail
  refine (rInt_c 3 _).mono ?_
  rintro e w5 ⟨rfl, b5⟩
  have E5 := Lib.hid (E4.out.trans (b5.mono E4.out.size))
  have V5 := Lib.hid (keepB V4.out b5); clear b5
  go_wp2_with fail
  refine (rInt_c 3 _).mono ?_
  rintro e w6 ⟨rfl, b6⟩
  have E6 := Lib.hid (E5.out.trans (b6.mono E5.out.size))
  have V6 := Lib.hid (keepB V5.out b6); clear b6
  go_wp2_with fail
  refine (K2.out w6 E6.out).mono ?_
  rintro e w7 ⟨rfl, b7⟩
  have E7 := Lib.hid ((E6.out.alloc E6.out.size _).trans (b7.mono (E6.out.alloc E6.out.size _).size))
  have V7 := Lib.hid (keepA V6.out b7); clear b7
  go_wp2_with fail
  refine (K3.out _ (E7.out.alloc E7.out.size _)).mono ?_
  rintro e w8 ⟨rfl, b8⟩
  have E8 := Lib.hid ((E7.out.alloc E7.out.size _).trans (b8.mono (E7.out.alloc E7.out.size _).size))
  have V8 := Lib.hid (keepA V7.out b8)
  have U8 := Lib.hid ((b8.block w7.heap.size (by simp)).trans (heap_alloc_new w7 _)); clear b8
  go_wp2_with fail
  refine (rSym_c _ _).mono ?_
  rintro e w9 ⟨rfl, b9⟩
  have E9 := Lib.hid ((E8.out.alloc E8.out.size _).trans (b9.mono (E8.out.alloc E8.out.size _).size))
  have V9 := Lib.hid (keepA V8.out b9)
  have U9 := Lib.hid (keepA U8.out b9); clear b9
  go_wp2_with fail
  refine (K4.out w9 E9.out).mono ?_
  rintro e w10 ⟨rfl, b10⟩
  have E10 := Lib.hid ((E9.out.alloc E9.out.size _).trans (b10.mono (E9.out.alloc E9.out.size _).size))
  have V10 := Lib.hid (keepA V9.out b10)
  have U10 := Lib.hid (keepA U9.out b10); clear b10
  go_wp2_with fail
  refine (arity_10 _).mono ?_
  rintro e w' ⟨rfl, rfl⟩
  have c1 : w10.cell? ⟨w3.heap.size, 1, none⟩ = some (.int .i64 5) := block_cell V10.out rfl
  have c2 : w10.cell? ⟨w7.heap.size, 2, none⟩ = some (.string sFalse) := block_cell U10.out rfl
  have l1 := (Array.getElem?_eq_some_iff.1 V10.out).1
  have l2 := (Array.getElem?_eq_some_iff.1 U10.out).1
  have E11 := Lib.hid (E10.out.alloc E10.out.size (.cells #[.int .i64 0, .int .i64 0, .string ⟨#[]⟩] 26))
  unfold sFalse at c2
  go_wp2_with fail
  refine (known_w _ true (by decide +kernel) _).mono ?_
  rintro e w11 ⟨rfl, b11⟩
  have E12 := Lib.hid (E11.out.trans (b11.mono E11.out.size)); clear b11
  go_wp2_with fail
  refine (names_c _).mono ?_
  rintro e w12 ⟨rfl, _, b12⟩
  have E13 := Lib.hid (E12.out.trans (b12.mono E12.out.size)); clear b12
  go_wp2_with fail
  go_ret
  exact ⟨rfl, E13.out⟩
end Go.Proofs.YtmadnehipagakaaGreatDoor
