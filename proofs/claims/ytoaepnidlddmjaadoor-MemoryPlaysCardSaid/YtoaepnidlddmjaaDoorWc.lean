/- Values, their texts in memory: val.Hash, wm.key. -/
import Derived.Test.YtoaepnidlddmjaaDoorWa
import Derived.Test.YtoaepnidlddmjaaDoorWb
import Derived.Test.YtoaepnidlddmjaaDoorRw
import Derived.WalkSpells
import Derived.Lib.Hide
import Derived.LoopTactic
import Derived.Deep.QuietTactic
import Derived.BigQuiet
import Derived.Deep.RegionHeld3
import Derived.Lib.QuietBelow
namespace Go.Proofs.YtoaepnidlddmjaaDoor
open Go.RowKit Go.Lib Go.Sort KP RW
abbrev Vl.val (v : Vl) : Value := .agg #[.int .i64 v.1, .int .i64 v.2.1, .string v.2.2]
abbrev v3 (v : Vl) : List Value := [.int .i64 v.1, .int .i64 v.2.1, .string v.2.2]
theorem v3_len (v : Vl) : (v3 v).length = 3 := rfl
theorem v3_flat (v : Vl) : ∀ u ∈ v3 v, u.oneCell' = true := by
  intro u hu
  simp at hu
  rcases hu with rfl | rfl | rfl <;> rfl
def zV : Value := .agg #[.int .i64 0, .int .i64 0, .string ⟨#[]⟩]
theorem infoV : (Tryd.prog.info? 29).map (fun i => (i.zero, i.size, i.bytes)) = some (some zV, 3, 32) := by kernel_rfl
theorem ret_int {k : IntKind} {a b : Int} (h : a = b) : Ending.returned (.int k a) = .returned (.int k b) := by rw [h]
theorem ret_bool {a b : Bool} (h : a = b) : Ending.returned (.bool a) = .returned (.bool b) := by rw [h]
theorem ret_str {a b : ByteArray} (h : a = b) : Ending.returned (.string a) = .returned (.string b) := by rw [h]
/-- Values in memory. -/
abbrev ValsAt (N : Nat → Prop) (W : World) (A : Option Addr) (l : List Vl) : Prop := RowsAt v3 3 N W A l
theorem vals_at {N : Nat → Prop} {W : World} {A : Option Addr} {l : List Vl} (h : ValsAt N W A l) {k : Nat} (hk : k < l.length) : ∃ ad, A = some ad ∧ ¬ N ad.block ∧ W.cell? (ad.add (k * 3)) = some (.int .i64 l[k].1) ∧ W.cell? ⟨(ad.add (k * 3)).block, (ad.add (k * 3)).off + 1, none⟩ = some (.int .i64 l[k].2.1) ∧ W.cell? ⟨(ad.add (k * 3)).block, (ad.add (k * 3)).off + 2, none⟩ = some (.string l[k].2.2) := by
  obtain ⟨ad, e, hn, hc⟩ := h k hk
  refine ⟨ad, e, hn, ?_, hc 1 _ rfl, hc 2 _ rfl⟩
  have := hc 0 _ rfl
  simpa [Addr.add] using this
theorem keepB {W W' : World} {g : Nat} {o : Obj} (h : W.heap[g]? = some o) (b : Below W.heap.size W W') : W'.heap[g]? = some o :=
  (b.block g (Array.getElem?_eq_some_iff.1 h).1).trans h
/-- The library's table of powers. -/
def Tab (w : World) : Prop := TabIs Tryd.prog w "internal/strconv.uint64pow10" .u64 pow10Tab
theorem tab_global : ∃ g, Tryd.prog.globalNamed "internal/strconv.uint64pow10" = some g := ⟨_, rfl⟩
theorem Tab.below {B : Nat} {w w' : World} (h : Tab w) (hb : Below B w w') (hB : ∀ g, Tryd.prog.globalNamed "internal/strconv.uint64pow10" = some g → g < B) : Tab w' := by
  obtain ⟨g, hg⟩ := tab_global
  unfold Tab TabIs World.var? at h ⊢
  rw [hg] at h ⊢
  simp only [Option.bind_some] at h ⊢
  rw [hb.block g (hB g hg)]
  exact h
theorem Tab.lt {w : World} (h : Tab w) : ∀ g, Tryd.prog.globalNamed "internal/strconv.uint64pow10" = some g → g < w.heap.size := by
  intro g hg
  unfold Tab TabIs World.var? at h
  rw [hg] at h
  simp only [Option.bind_some] at h
  rcases Nat.lt_or_ge g w.heap.size with h' | h'
  · exact h'
  · rw [Array.getElem?_eq_none h'] at h; cases h
theorem Tab.b {w w' : World} (h : Tab w) (hb : Below w.heap.size w w') : Tab w' := h.below hb h.lt
theorem below_grow (w : World) (k : Nat) (os : Array Obj) : Below w.heap.size w (grow (w.drewN k) os) :=
  ⟨rfl, rfl, rfl, by simp [grow, World.drewN], fun j hj => by simp [grow, World.drewN, Array.getElem?_append, hj]⟩
def itoaB (n : Int) : ByteArray := ⟨(itoa n).toArray⟩
theorem fmt_c (n : Int) (h : okI n) (w : World) (ht : Tab w) : Calls Tryd.prog 45 #[.int .i64 n, .int .i64 10] w fun e w' => e = .returned (.string (itoaB n)) ∧ Below w.heap.size w w' :=
  (strconv_FormatInt_10 n h.1 h.2 w ht).mono fun _ _ ⟨he, k, os, hw⟩ => ⟨he, by rw [hw]; exact below_grow w k os⟩
theorem itoa_c (n : Int) (h : okI n) (w : World) (ht : Tab w) : Calls Tryd.prog 39 #[.int .i64 n] w fun e w' => e = .returned (.string (itoaB n)) ∧ Below w.heap.size w w' :=
  (strconv_Itoa n h.1 h.2 w ht).mono fun _ _ ⟨he, k, os, hw⟩ => ⟨he, by rw [hw]; exact below_grow w k os⟩
theorem numText_c (n : Int) (h : okI n) (w : World) (ht : Tab w) : Calls Tryd.prog 40 #[.int .i64 n] w fun e w' => e = .returned (.string (itoaB n)) ∧ Below w.heap.size w w' := by
  go_enter Tryd.func40, Tryd.ntmps40
  go_wp2_with fail
  refine (fmt_c n h _ ht).mono ?_
  rintro e w1 ⟨rfl, b1⟩
  have E1 := Lib.hid b1; clear b1
  go_wp2_with fail
  go_ret
  exact ⟨rfl, E1.out⟩
theorem itoaB_size (n : Int) (h : okI n) : (itoaB n).size ≤ 21 := by
  have := itoa_length_le n h.1 h.2
  unfold itoaB
  show (itoa n).toArray.size ≤ _
  simpa using this
theorem ofStr_c (s : ByteArray) (w : World) : Calls Tryd.prog 32 #[.string s] w fun e w' => e = .returned (Vl.val (3, 0, s)) ∧ Below w.heap.size w w' := by
  go_enter Tryd.func32, Tryd.ntmps32
  go_wp2
  exact bodyPost_ret (v := Vl.val (3, 0, s)) (by simp [results, Tryd.results32, go_sem]) rfl ⟨rfl, (Below.refl _ _).alloc (Nat.le_refl _) _⟩
theorem rInt_c (i : Int) (w : World) : Calls Tryd.prog 10 #[.int .i64 i] w fun e w' => e = .returned (Vl.val (1, i, ⟨#[]⟩)) ∧ Below w.heap.size w w' := by
  go_enter Tryd.func10, Tryd.ntmps10
  go_wp2
  exact bodyPost_ret (v := Vl.val (1, i, ⟨#[]⟩)) (by simp [results, Tryd.results10, go_sem]) rfl ⟨rfl, (Below.refl _ _).alloc (Nat.le_refl _) _⟩
theorem bu_below {T e : TypeId} {B b : Nat} {bs : List Value} {w w' : World} (h : Lib.IsBuilder T e B b bs w) (hb : Below w.heap.size w w') : Lib.IsBuilder T e B b bs w' := by
  have key : ∀ p, Lib.BuilderAt T e B b p bs w → Lib.BuilderAt T e B b p bs w' := by
    rintro p ⟨h1, v, h2, h3, h4⟩
    exact ⟨h1, v, keepB h2 hb, ownsRow_keep h3 (Keep.of_below hb (fun _ => False)) (fun _ _ h => h), h4⟩
  exact h.imp (key _) (key _)
structure okV (v : Vl) : Prop where
  k : okI v.1
  n : okI v.2.1
  s : v.2.2.size ≤ 100000
theorem hv_ba (v1 v2 : Int) (s : ByteArray) : (itoaB v1 ++ ⟨#[32]⟩ ++ itoaB v2 ++ ⟨#[32]⟩ ++ itoaB (s.size : Int) ++ ⟨#[58]⟩ ++ s : ByteArray).data.toList = hv (v1, v2, s) := by
  simp [hv, itoaB]
set_option maxRecDepth 100000 in
set_option maxHeartbeats 2000000 in
theorem hash_c (A : Option Addr) (c : Nat) (l : List Vl) (w : World) (hI : ValsAt (fun _ => False) w A l) (hk : ∀ v ∈ l, okV v) (hl : l.length ≤ 100000) (ht : Tab w) :
    Calls Tryd.prog 31 #[.slice A l.length c] w fun e w' => e = .returned (.string (hashB l)) ∧ Below w.heap.size w w' := by
  have T := Lib.hid (fun W (h : Below w.heap.size w W) => ht.b h)
  have V := Lib.hid (fun W (h : Below w.heap.size w W) => hI.below h)
  have K := Lib.hid hk
  have hlI : (l.length : Int) ≤ 100000 := by omega
  have hb0 := Lib.hid (show Lib.IsBuilder 77 5 w.heap.size w.heap.size (byteCells (hashL (l.take 0))) (w.alloc (.cells #[.pointer none, .slice none 0 0] 77)) from
    .inl ⟨Nat.le_refl _, .slice none 0 0, heap_alloc_new w _, World.ownsRow_nil _ _ _ _, by simp [Value.ownBlock]⟩)
  have E00 := Lib.hid (show Below w.heap.size w (w.alloc (.cells #[.pointer none, .slice none 0 0] 77)) from (Below.refl _ _).alloc (Nat.le_refl _) _)
  have G00 : w.heap.size < (w.alloc (.cells #[.pointer none, .slice none 0 0] 77)).heap.size := by simp
  clear ht hI hk
  go_enter Tryd.func31, Tryd.ntmps31
  go_wp2_with fail
  go_loopw [8] (fun i wr => ∃ k : Nat, k ≤ l.length ∧ i = .int .i64 k ∧ Hid (Lib.IsBuilder 77 5 w.heap.size w.heap.size (byteCells (hashL (l.take k))) wr) ∧ Hid (Below w.heap.size w wr) ∧ Hid (w.heap.size < wr.heap.size)) (fun i _ => l.length - (RowKit.intOf i).toNat)
  case atStart => exact ⟨0, by omega, rfl, hb0, E00, Lib.hid G00⟩
  case round =>
    obtain ⟨k, hk, rfl, hIB, hB, hgt⟩ := hrel
    clear hb0 E00 G00
    by_cases hlt : k < l.length
    · have hltI : (k : Int) < (l.length : Int) := by omega
      obtain ⟨ad, rfl, _, c0, c1, c2⟩ := vals_at (V.out _ hB.out) hlt
      have okv : Hid (okI l[k].1 ∧ okI l[k].2.1 ∧ l[k].2.2.size ≤ 100000) := Lib.hid (by have := K.out l[k] (List.getElem_mem hlt); exact ⟨this.k, this.n, this.s⟩)
      have LN : Hid ((byteCells (hashL (l.take k))).length + (hv l[k]).length ≤ 140737488355328) := Lib.hid (by
        have h1 := hashL_len (l.take k) (fun v hv => by have := K.out v (List.mem_of_mem_take hv); exact ⟨this.k, this.n, this.s⟩)
        have h2 := hv_len l[k] okv.out.1 okv.out.2.1 okv.out.2.2
        rw [byteCells_length]
        rw [List.length_take] at h1
        omega)
      have HSn : Hid (hashL (l.take (k + 1)) = hashL (l.take k) ++ hv l[k]) := Lib.hid (by rw [List.take_succ_eq_append_getElem hlt, hashL_snoc])
      generalize l[k] = v at *
      obtain ⟨v1, v2, v3⟩ := v
      dsimp only at c0 c1 c2 okv
      have HSz : Hid ((itoaB v1 ++ ⟨#[32]⟩ ++ itoaB v2 ++ ⟨#[32]⟩ ++ itoaB (v3.size : Int) ++ ⟨#[58]⟩ ++ v3 : ByteArray).size = (hv (v1, v2, v3)).length) := Lib.hid (by rw [← ba_size, hv_ba])
      have okS : Hid (okI (v3.size : Int)) := Lib.hid (by have := okv.out.2.2; unfold okI; omega)
      have z1 := itoaB_size v1 okv.out.1
      have z2 := itoaB_size v2 okv.out.2.1
      have z3 := itoaB_size (v3.size : Int) okS.out
      have z4 : v3.size ≤ 100000 := okv.out.2.2
      have N0 : Hid ((wr.alloc (.cells #[.int .i64 v1, .int .i64 v2, .string v3] 29)).drew.heap[wr.heap.size]? = some (.cells #[.int .i64 v1, .int .i64 v2, .string v3] 29 (0, 0))) := Lib.hid (heap_alloc_new wr _)
      have E0 : Hid (Below w.heap.size w (wr.alloc (.cells #[.int .i64 v1, .int .i64 v2, .string v3] 29)).drew) := Lib.hid ((hB.out.alloc hB.out.size (.cells #[.int .i64 v1, .int .i64 v2, .string v3] 29)).drew)
      have G0 : Hid (Below wr.heap.size wr (wr.alloc (.cells #[.int .i64 v1, .int .i64 v2, .string v3] 29)).drew) := Lib.hid (((Below.refl wr.heap.size wr).alloc (Nat.le_refl _) (.cells #[.int .i64 v1, .int .i64 v2, .string v3] 29)).drew)
      have IB : Hid (∀ W, Below wr.heap.size wr W → Lib.IsBuilder 77 5 w.heap.size w.heap.size (byteCells (hashL (l.take k))) W) := Lib.hid (fun W h => bu_below hIB.out h)
      have NS : Hid (∀ W' : World, W'.heap[wr.heap.size]? = some (.cells #[.int .i64 v1, .int .i64 v2, .string v3] 29 (0, 0)) → (W'.cell? ⟨wr.heap.size, 0, none⟩ = some (.int .i64 v1) ∧ W'.cell? ⟨wr.heap.size, 1, none⟩ = some (.int .i64 v2) ∧ W'.cell? ⟨wr.heap.size, 2, none⟩ = some (.string v3))) := Lib.hid (fun W' h => ⟨block_cell h rfl, block_cell h rfl, block_cell h rfl⟩)
      have HV : Hid (∀ b, byteCells (hashL (l.take k)) ++ strCells b = byteCells (hashL (l.take (k + 1))) ∨ b.data.toList ≠ hv (v1, v2, v3)) := Lib.hid (fun b => by
        by_cases h : b.data.toList = hv (v1, v2, v3)
        · left; rw [HSn.out, byteCells_append, strCells_eq, h]
        · exact .inr h)
      clear HSn hIB
      go_wp2_with fail
      clear c0 c1 c2
      refine wp_region_held_drew (S := (fun W' => W'.cell? ⟨wr.heap.size, 0, none⟩ = some (.int .i64 v1) ∧ W'.cell? ⟨wr.heap.size, 1, none⟩ = some (.int .i64 v2) ∧ W'.cell? ⟨wr.heap.size, 2, none⟩ = some (.string v3))) (by kernel_rfl) (NS.out _ N0.out) (fun hHeld => ?_)
      refine wpAnyH_take (i := 0) (oi := ⟨_, _, _, _, _, _⟩) (v := ?_) rfl (by kernel_rfl) (by kernel_rfl) (by kernel_rfl) (fun _ _ _ h => h) (Or.inl ⟨by rfl, ?_⟩) (by assumption) ?_
      rotate_left
      · intro w' hSw; (try dsimp only at hSw); go_simp; (try with_reducible rfl)
      try simp only [Act.put, List.setIfInBounds_toArray, List.set_cons_zero, List.set_cons_succ]
      refine wpAnyH_take (i := 1) (oi := ⟨_, _, _, _, _, _⟩) (v := ?_) rfl (by kernel_rfl) (by kernel_rfl) (by kernel_rfl) (fun _ _ _ h => h) (Or.inl ⟨by rfl, ?_⟩) (by assumption) ?_
      rotate_left
      · intro w' hSw; (try dsimp only at hSw); go_simp; (try with_reducible rfl)
      try simp only [Act.put, List.setIfInBounds_toArray, List.set_cons_zero, List.set_cons_succ]
      refine wpAnyH_take (i := 4) (oi := ⟨_, _, _, _, _, _⟩) (v := ?_) rfl (by kernel_rfl) (by kernel_rfl) (by kernel_rfl) (fun _ _ _ h => h) (Or.inl ⟨by rfl, ?_⟩) (by assumption) ?_
      rotate_left
      · intro w' hSw; (try dsimp only at hSw); go_simp; (try with_reducible rfl)
      try simp only [Act.put, List.setIfInBounds_toArray, List.set_cons_zero, List.set_cons_succ]
      refine wpAnyH_take (i := 5) (oi := ⟨_, _, _, _, _, _⟩) (v := ?_) rfl (by kernel_rfl) (by kernel_rfl) (by kernel_rfl) (fun _ _ _ h => h) (Or.inl ⟨by rfl, ?_⟩) (by assumption) ?_
      rotate_left
      · intro w' hSw; (try dsimp only at hSw); go_simp; (try with_reducible rfl)
      try simp only [Act.put, List.setIfInBounds_toArray, List.set_cons_zero, List.set_cons_succ]
      refine wpAnyH_take (i := 9) (oi := ⟨_, _, _, _, _, _⟩) (v := ?_) rfl (by kernel_rfl) (by kernel_rfl) (by kernel_rfl) (fun _ _ _ h => h) (Or.inl ⟨by rfl, ?_⟩) (by assumption) ?_
      rotate_left
      · intro w' hSw; (try dsimp only at hSw); go_simp; (try with_reducible rfl)
      try simp only [Act.put, List.setIfInBounds_toArray, List.set_cons_zero, List.set_cons_succ]
      refine wpAnyH_take (i := 10) (oi := ⟨_, _, _, _, _, _⟩) (v := ?_) rfl (by kernel_rfl) (by kernel_rfl) (by kernel_rfl) (fun _ _ _ h => h) (Or.inl ⟨by rfl, ?_⟩) (by assumption) ?_
      rotate_left
      · intro w' hSw; (try dsimp only at hSw); go_simp; (try with_reducible rfl)
      try simp only [Act.put, List.setIfInBounds_toArray, List.set_cons_zero, List.set_cons_succ]
      refine wpAnyH_take (i := 11) (oi := ⟨_, _, _, _, _, _⟩) (v := ?_) rfl (by kernel_rfl) (by kernel_rfl) (by kernel_rfl) (fun _ _ _ h => h) (Or.inl ⟨by rfl, ?_⟩) (by assumption) ?_
      rotate_left
      · intro w' hSw; (try dsimp only at hSw); go_simp; (try with_reducible rfl)
      try simp only [Act.put, List.setIfInBounds_toArray, List.set_cons_zero, List.set_cons_succ]
      refine wpAnyH_take (i := 15) (oi := ⟨_, _, _, _, _, _⟩) (v := ?_) rfl (by kernel_rfl) (by kernel_rfl) (by kernel_rfl) (fun _ _ _ h => h) (Or.inl ⟨by rfl, ?_⟩) (by assumption) ?_
      rotate_left
      · intro w' hSw; (try dsimp only at hSw); go_simp; (try with_reducible rfl)
      try simp only [Act.put, List.setIfInBounds_toArray, List.set_cons_zero, List.set_cons_succ]
      refine wpAnyH_take (i := 16) (oi := ⟨_, _, _, _, _, _⟩) (v := ?_) rfl (by kernel_rfl) (by kernel_rfl) (by kernel_rfl) (fun _ _ _ h => h) (Or.inl ⟨by rfl, ?_⟩) (by assumption) ?_
      rotate_left
      · intro w' hSw; (try dsimp only at hSw); go_simp; (try with_reducible rfl)
      try simp only [Act.put, List.setIfInBounds_toArray, List.set_cons_zero, List.set_cons_succ]
      refine wpAnyH_ready (rs := [2]) (by kernel_rfl) (by simp) ?_
      refine AllReadyH.cons (o := ⟨_, _, _, _, _, _⟩) rfl (fun K9 hK9 => ?_) AllReadyH.nil
      go_simp
      (with_reducible refine (itoa_c v1 okv.out.1 _ (T.out _ E0.out)).mono ?_)
      rintro e w1 ⟨rfl, b1⟩
      have E1 := Lib.hid (E0.out.trans (b1.mono E0.out.size))
      have G1 := Lib.hid (G0.out.trans (b1.mono G0.out.size))
      have N1 := Lib.hid (keepB N0.out b1)
      clear b1
      go_wp2_with fail
      refine hK9.out _ _ (NS.out _ N1.out) (fun hHeld => ?_)
      clear hK9 K9
      try simp only [Act.put, List.setIfInBounds_toArray, List.set_cons_zero, List.set_cons_succ]
      refine wpAnyH_take (i := 3) (oi := ⟨_, _, _, _, _, _⟩) (v := ?_) rfl (by kernel_rfl) (by kernel_rfl) (by kernel_rfl) (fun _ _ _ h => h) (Or.inl ⟨by rfl, ?_⟩) (by assumption) ?_
      rotate_left
      · intro w' hSw; (try dsimp only at hSw); go_simp; (try rw [if_neg (by omega)]); (try with_reducible rfl)
      try simp only [Act.put, List.setIfInBounds_toArray, List.set_cons_zero, List.set_cons_succ]
      refine wpAnyH_ready (rs := [6]) (by kernel_rfl) (by simp) ?_
      refine AllReadyH.cons (o := ⟨_, _, _, _, _, _⟩) rfl (fun K9 hK9 => ?_) AllReadyH.nil
      go_simp
      (with_reducible refine (numText_c v2 okv.out.2.1 _ (T.out _ E1.out)).mono ?_)
      rintro e w2 ⟨rfl, b2⟩
      have E2 := Lib.hid (E1.out.trans (b2.mono E1.out.size))
      have G2 := Lib.hid (G1.out.trans (b2.mono G1.out.size))
      have N2 := Lib.hid (keepB N1.out b2)
      clear b2
      go_wp2_with fail
      refine hK9.out _ _ (NS.out _ N2.out) (fun hHeld => ?_)
      clear hK9 K9
      try simp only [Act.put, List.setIfInBounds_toArray, List.set_cons_zero, List.set_cons_succ]
      refine wpAnyH_take (i := 7) (oi := ⟨_, _, _, _, _, _⟩) (v := ?_) rfl (by kernel_rfl) (by kernel_rfl) (by kernel_rfl) (fun _ _ _ h => h) (Or.inl ⟨by rfl, ?_⟩) (by assumption) ?_
      rotate_left
      · intro w' hSw; (try dsimp only at hSw); go_simp; (try rw [if_neg (by omega)]); (try with_reducible rfl)
      try simp only [Act.put, List.setIfInBounds_toArray, List.set_cons_zero, List.set_cons_succ]
      refine wpAnyH_take (i := 8) (oi := ⟨_, _, _, _, _, _⟩) (v := ?_) rfl (by kernel_rfl) (by kernel_rfl) (by kernel_rfl) (fun _ _ _ h => h) (Or.inl ⟨by rfl, ?_⟩) (by assumption) ?_
      rotate_left
      · intro w' hSw; (try dsimp only at hSw); go_simp; (try rw [if_neg (by omega)]); (try with_reducible rfl)
      try simp only [Act.put, List.setIfInBounds_toArray, List.set_cons_zero, List.set_cons_succ]
      refine wpAnyH_ready (rs := [12]) (by kernel_rfl) (by simp) ?_
      refine AllReadyH.cons (o := ⟨_, _, _, _, _, _⟩) rfl (fun K9 hK9 => ?_) AllReadyH.nil
      go_simp
      (with_reducible refine (itoa_c (v3.size : Int) (okS.out) _ (T.out _ E2.out)).mono ?_)
      rintro e w3 ⟨rfl, b3⟩
      have E3 := Lib.hid (E2.out.trans (b3.mono E2.out.size))
      have G3 := Lib.hid (G2.out.trans (b3.mono G2.out.size))
      have N3 := Lib.hid (keepB N2.out b3)
      clear b3
      go_wp2_with fail
      refine hK9.out _ _ (NS.out _ N3.out) (fun hHeld => ?_)
      clear hK9 K9
      try simp only [Act.put, List.setIfInBounds_toArray, List.set_cons_zero, List.set_cons_succ]
      refine wpAnyH_take (i := 13) (oi := ⟨_, _, _, _, _, _⟩) (v := ?_) rfl (by kernel_rfl) (by kernel_rfl) (by kernel_rfl) (fun _ _ _ h => h) (Or.inl ⟨by rfl, ?_⟩) (by assumption) ?_
      rotate_left
      · intro w' hSw; (try dsimp only at hSw); go_simp; (try rw [if_neg (by omega)]); (try with_reducible rfl)
      try simp only [Act.put, List.setIfInBounds_toArray, List.set_cons_zero, List.set_cons_succ]
      refine wpAnyH_take (i := 14) (oi := ⟨_, _, _, _, _, _⟩) (v := ?_) rfl (by kernel_rfl) (by kernel_rfl) (by kernel_rfl) (fun _ _ _ h => h) (Or.inl ⟨by rfl, ?_⟩) (by assumption) ?_
      rotate_left
      · intro w' hSw; (try dsimp only at hSw); go_simp; (try rw [if_neg (by omega)]); (try with_reducible rfl)
      try simp only [Act.put, List.setIfInBounds_toArray, List.set_cons_zero, List.set_cons_succ]
      refine wpAnyH_take (i := 17) (oi := ⟨_, _, _, _, _, _⟩) (v := ?_) rfl (by kernel_rfl) (by kernel_rfl) (by kernel_rfl) (fun _ _ _ h => h) (Or.inl ⟨by rfl, ?_⟩) (by assumption) ?_
      rotate_left
      · intro w' hSw; (try dsimp only at hSw); go_simp; (try rw [if_neg (by omega)]); (try with_reducible rfl)
      try simp only [Act.put, List.setIfInBounds_toArray, List.set_cons_zero, List.set_cons_succ]
      refine wpAnyH_ready (rs := [18]) (by kernel_rfl) (by simp) ?_
      refine AllReadyH.cons (o := ⟨_, _, _, _, _, _⟩) rfl (fun K9 hK9 => ?_) AllReadyH.nil
      go_simp
      (with_reducible refine (write_c w.heap.size w.heap.size (byteCells (hashL (l.take k))) _ w3 (IB.out _ G3.out) (by rw [HSz.out]; exact LN.out) E3.out.size).mono ?_)
      rintro e w4 ⟨rfl, b4, b5, b6⟩
      have N4 := Lib.hid (b6 _ _ _ _ N3.out (by decide) (Nat.ne_of_gt hgt.out))
      have B4 := Lib.hid b4
      have E4 := Lib.hid (E3.out.trans b5)
      clear b4 b5 b6
      go_wp2_with fail
      refine hK9.out _ _ (NS.out _ N4.out) (fun hHeld => ?_)
      clear hK9 K9
      try simp only [Act.put, List.setIfInBounds_toArray, List.set_cons_zero, List.set_cons_succ]
      refine wpAnyH_done (by kernel_rfl) ?_ _
      have IB4 : Hid (Lib.IsBuilder 77 5 w.heap.size w.heap.size (byteCells (hashL (l.take (k + 1)))) w4) := Lib.hid (by
        have h := B4.out
        rcases HV.out (itoaB v1 ++ ⟨#[32]⟩ ++ itoaB v2 ++ ⟨#[32]⟩ ++ itoaB (v3.size : Int) ++ ⟨#[58]⟩ ++ v3) with h2 | h2
        · rw [← h2]; exact .inr h
        · exact absurd (hv_ba v1 v2 v3) h2)
      have G4 : Hid (w.heap.size < w4.heap.size) := Lib.hid (B4.out.lt)
      clear B4 hHeld
      go_wp2_with fail
      go_roundw
      case rel => exact ⟨k + 1, by omega, by go_num, IB4, E4, G4⟩
      case measure => first | (simp [RowKit.intOf]; done) | (simp [RowKit.intOf]; omega)
    · obtain rfl : k = l.length := by omega
      have hIB' := Lib.hid (show Lib.IsBuilder 77 5 w.heap.size w.heap.size (byteCells (hashL l)) wr by have := hIB.out; rwa [List.take_length] at this)
      clear hIB
      go_wp2_with fail
      refine (Builder_String_any w.heap.size w.heap.size (hashL l) wr hIB'.out hB.out.size).mono ?_
      rintro e w1 ⟨rfl, b1⟩
      have E1 := Lib.hid (hB.out.trans b1); clear b1
      go_wp2_with fail
      go_ret
      exact ⟨rfl, E1.out⟩
end Go.Proofs.YtoaepnidlddmjaaDoor
