/- EvalGlobs: globals keep what was set, those that are none are not made. -/
import Derived.Test.YtmadnehipagakaaGreatDoorGj
namespace Go.Proofs.YtmadnehipagakaaGreatDoor
open Go.RowKit Go.Lib Go.Sort Go.Shelf KP
theorem get_put {l : List Bd} (hl : RightBs l) (s : ByteArray) (v : Vl) (h : (getO l s).2 = true) : getO (putO l s v) s = (v, true) ∧ (putO l s v).length = l.length := by
  cases hi : idxO l s with
  | none =>
    exfalso
    have : getO l s = (v0, false) := get_none (fun b hb => by
      unfold idxO at hi
      rw [List.findIdx?_eq_none_iff] at hi
      simpa using hi b (by simpa using hb))
    rw [this] at h
    cases h
  | some k =>
    obtain ⟨hk, hks⟩ := idx_lt hi
    have hp : putO l s v = l.set k (s, v) := by unfold putO; rw [hi]
    rw [hp]
    refine ⟨?_, List.length_set⟩
    have e : l.set k (s, v) = l.take k ++ (s, v) :: l.drop (k + 1) := by rw [List.set_eq_take_append_cons_drop, if_pos hk]
    refine get_some (ini := (l.drop (k + 1)).reverse) (suf := (l.take k).reverse) (b := (s, v)) (by rw [e]; simp) (fun b hb => ?_) rfl
    rw [List.mem_reverse] at hb
    obtain ⟨j, hj, rfl⟩ := List.getElem_of_mem hb
    rw [List.getElem_drop]
    have hj2 : k + 1 + j < l.length := by rw [List.length_drop] at hj; omega
    have := hl.apart k (k + 1 + j) hk hj2 (by omega)
    rw [hks] at this
    exact fun e => this e.symm
set_option maxRecDepth 100000 in
set_option maxHeartbeats 4000000 in
theorem globs_any (A : Option Addr) (c : Nat) (l : List Bd) (s : ByteArray) (v : Vl) (w : World) (ht : Tab w) (hA : A = none → c = 0) (hI : BindsAt (fun _ => False) w A l) (hx : ∀ x ∈ l, cameB x) (hv : cameV v)  :
    Calls Tryz.prog 8 #[.slice A l.length c, .string s, v.val] w fun e w' => e = .returned (.bool true) ∧ Below w.heap.size w w' := by
  obtain ⟨v1, v2, v3⟩ := v
  have HV := Lib.hid hv
  have HA := Lib.hid hA
  clear hv hA
  have hVB := one_box w (v1, v2, v3) 26
  dsimp only at hVB
  obtain ⟨⟨c0, c1, c2⟩, hB0, hz0⟩ := hVB
  have E0 := Lib.hid hB0
  have HZ := Lib.hid hz0
  have TB := Lib.hid (ht.b hB0)
  have IB := Lib.hid (fun W (h : Below w.heap.size w W) => hI.below h)
  have HX := Lib.hid hx
  clear hB0 hz0 ht hI hx
  go_enter Tryz.func8, Tryz.ntmps8
  go_wp2_with fail
  generalize w.alloc (.cells #[.int .i64 v1, .int .i64 v2, .string v3] 26) = wb at *
  have HC := Lib.hid (fun W (h : Below wb.heap.size wb W) => (⟨(h.cell (p := ⟨w.heap.size, 0, none⟩) (by show w.heap.size < _; have := HZ.out; omega)).trans c0, (h.cell (p := ⟨w.heap.size, 1, none⟩) (by show w.heap.size < _; have := HZ.out; omega)).trans c1, (h.cell (p := ⟨w.heap.size, 2, none⟩) (by show w.heap.size < _; have := HZ.out; omega)).trans c2⟩ : W.cell? ⟨w.heap.size, 0, none⟩ = some (.int .i64 v1) ∧ W.cell? ⟨w.heap.size, 1, none⟩ = some (.int .i64 v2) ∧ W.cell? ⟨w.heap.size, 2, none⟩ = some (.string v3)))
  clear c0 c1 c2
  refine (known8 wb TB.out).mono ?_
  rintro e w1 ⟨rfl, q1⟩
  have B1 := Lib.hid q1
  clear q1
  go_wp2_with fail
  refine (right8_c A c l w1 (IB.out _ (E0.out.trans (B1.out.mono E0.out.size))) HX.out).mono ?_
  rintro e w2 ⟨b, rfl, hb, q2⟩
  have B2 := Lib.hid (B1.out.trans (q2.mono B1.out.size))
  clear q2
  cases b with
  | false =>
    clear hb
    go_wp2_with fail
    go_ret
    exact ⟨rfl, E0.out.trans (B2.out.mono E0.out.size)⟩
  | true =>
    have HR := Lib.hid (hb rfl)
    clear hb
    by_cases h100 : 100 < s.size
    · have hsI : (100 : Int) < (s.size : Int) := by omega
      clear h100
      go_wp2_with fail
      go_ret
      exact ⟨rfl, E0.out.trans (B2.out.mono E0.out.size)⟩
    · have hsI : (s.size : Int) ≤ 100 := by omega
      obtain ⟨c0, c1, c2⟩ := HC.out _ B2.out
      clear h100
      cases hr : rightB (v1, v2, v3) with
      | false =>
        have RV := Lib.hid (rright_b (v1, v2, v3) false hr HV.out)
        clear hr
        go_wp2_with fail
        refine (RV.out _).mono ?_
        rintro e w3 ⟨rfl, q3⟩
        have B3 := Lib.hid (B2.out.trans (q3.mono B2.out.size))
        clear q3 c0 c1 c2
        go_wp2_with fail
        go_ret
        exact ⟨rfl, E0.out.trans (B3.out.mono E0.out.size)⟩
      | true =>
        have RV := Lib.hid (rright_b (v1, v2, v3) true hr HV.out)
        clear hr
        have hl30 := HR.out.few
        have HN := Lib.hid hl30
        have hlI : (l.length : Int) ≤ 30 := by omega
        clear hl30
        go_wp2_with fail
        refine (RV.out _).mono ?_
        rintro e w3 ⟨rfl, q3⟩
        have B3 := Lib.hid (B2.out.trans (q3.mono B2.out.size))
        clear q3 c0 c1 c2
        cases hg : (getO l s).2 with
        | true =>
          have HGT := Lib.hid hg
          have e4 := (Below.refl w3.heap.size w3).alloc (Nat.le_refl _) (.cells #[.slice none 0 0, .slice A l.length c, .int .i64 0] 61)
          have M4 : MachAt (w3.alloc (.cells #[.slice none 0 0, .slice A l.length c, .int .i64 0] 61)) w3.heap.size (.slice none 0 0) A l.length c 0 := heap_alloc_new w3 _
          have B4 := Lib.hid (show Below wb.heap.size wb (w3.alloc (.cells #[.slice none 0 0, .slice A l.length c, .int .i64 0] 61)) from B3.out.alloc B3.out.size _)
          have s4 : (w3.alloc (.cells #[.slice none 0 0, .slice A l.length c, .int .i64 0] 61)).heap.size = w3.heap.size + 1 := by simp
          generalize hw4 : w3.alloc (.cells #[.slice none 0 0, .slice A l.length c, .int .i64 0] 61) = w4 at e4 M4 B4 s4
          have HM4 := Lib.hid M4
          have HS4 := Lib.hid s4
          have I4 := Lib.hid (IB.out _ (E0.out.trans (B4.out.mono E0.out.size)))
          clear e4 M4 s4
          have G1 := Lib.hid (fun r hr => glob_w w3.heap.size (.slice none 0 0) A c 0 l s r hr (by have := HN.out; omega) w4 HM4.out I4.out)
          obtain ⟨hgp, hlen⟩ := get_put HR.out s (v1, v2, v3) hg
          have SM : Hid (∀ W, Calls Tryz.prog 17 #[.agg #[.int .i64 v1, .int .i64 v2, .string v3], .agg #[.int .i64 v1, .int .i64 v2, .string v3]] W fun e w' => e = .returned (.bool true) ∧ Below W.heap.size W w') := Lib.hid (fun W => by have := rsame_c (v1, v2, v3) (v1, v2, v3) W; rwa [decide_eq_true rfl] at this)
          have HGP := Lib.hid hgp
          have HLEN := Lib.hid hlen
          have SG := Lib.hid (fun w5 (h : MachAt w5 w3.heap.size (.slice none 0 0) A l.length c 0) (h2 : BindsAt (fun _ => False) w5 A l) => setGlob_yes w3.heap.size (.slice none 0 0) A c 0 l s (v1, v2, v3) HA.out (by have := HN.out; omega) w5 h h2 hg)
          clear hgp hlen
          clear hg
          generalize hgo : getO l s = r at *
          obtain ⟨⟨r1, r2, r3⟩, rb⟩ := r
          have hrb : rb = true := HGT.out
          subst hrb
          have G1 := Lib.hid (G1.out _ rfl)
          clear hgo
          go_wp2_with fail
          refine G1.out.mono ?_
          rintro e w5 ⟨rfl, q5⟩
          have b5 := q5.alloc q5.size (.cells #[.int .i64 r1, .int .i64 r2, .string r3] 26)
          have B5 := Lib.hid (B4.out.trans (b5.mono B4.out.size))
          have M5 := Lib.hid (HM4.out.below b5)
          have I5 := Lib.hid (I4.out.below b5)
          obtain ⟨c0, c1, c2⟩ := HC.out _ B5.out
          clear q5
          have HB5 := Lib.hid b5
          clear b5
          go_wp2_with fail
          generalize w5.alloc (.cells #[.int .i64 r1, .int .i64 r2, .string r3] 26) = w6 at *
          refine (SG.out _ M5.out I5.out).mono ?_
          rintro e w7 ⟨rfl, k7, A', m7, b7, _⟩
          have K7 := Lib.hid k7
          have M7 := Lib.hid m7
          have BI7 := Lib.hid b7
          clear k7 m7 b7 c0 c1 c2
          have hlp := HLEN.out
          have G2 := Lib.hid (glob_w w3.heap.size (.slice none 0 0) A' (putO l s (v1, v2, v3)).length 0 (putO l s (v1, v2, v3)) s ((v1, v2, v3), true) HGP.out (by have := HN.out; omega) w7 M7.out (BI7.out.mono (fun _ h => h.elim)))
          generalize putO l s (v1, v2, v3) = p at *
          have hsz7 : Hid (w3.heap.size < w6.heap.size) := Lib.hid (M5.out.lt)
          go_wp2_with fail
          refine G2.out.mono ?_
          rintro e w8 ⟨rfl, q8⟩
          have b8 := q8.alloc q8.size (.cells #[.int .i64 v1, .int .i64 v2, .string v3] 26)
          have hnew := heap_alloc_new w8 (.cells #[.int .i64 v1, .int .i64 v2, .string v3] 26)
          have M8 := M7.out.below b8
          have cg := M8.g
          have x0 := block_cell (j := 0) hnew rfl
          have x1 := block_cell (j := 1) hnew rfl
          have x2 := block_cell (j := 2) hnew rfl
          have K8 : Hid (Keep (fun k => k = w3.heap.size) w6 (w8.alloc (.cells #[.int .i64 v1, .int .i64 v2, .string v3] 26))) := Lib.hid (K7.out.trans (Keep.of_below b8 (fun _ => False)) (fun _ h => h.elim))
          have hc6 := HC.out _ B5.out
          have y0 := K8.out.cell hc6.1 (by show ¬ w.heap.size = w3.heap.size; have := HZ.out; have := B3.out.size; omega)
          have y1 := K8.out.cell hc6.2.1 (by show ¬ w.heap.size = w3.heap.size; have := HZ.out; have := B3.out.size; omega)
          have y2 := K8.out.cell hc6.2.2 (by show ¬ w.heap.size = w3.heap.size; have := HZ.out; have := B3.out.size; omega)
          clear q8 b8 hnew M8 hc6
          rw [hlp] at cg
          have hpI : (l.length : Int) ≤ 30 := hlI
          clear hlp
          go_wp2_with fail
          refine (SM.out _).mono ?_
          rintro e w9 ⟨rfl, q9⟩
          have K9 : Hid (Keep (fun k => k = w3.heap.size) w6 w9) := Lib.hid (K8.out.trans (Keep.of_below q9 (fun _ => False)) (fun _ h => h.elim))
          clear q9 cg x0 x1 x2 y0 y1 y2
          go_wp2_with fail
          go_ret
          exact ⟨rfl, E0.out.trans (((B5.out).trans (Keep.below K9.out B5.out.size (fun k e => by have e : k = w3.heap.size := e; have := B3.out.size; omega))).mono E0.out.size)⟩
        | false =>
          have HGT := Lib.hid hg
          have e4 := (Below.refl w3.heap.size w3).alloc (Nat.le_refl _) (.cells #[.slice none 0 0, .slice A l.length c, .int .i64 0] 61)
          have M4 : MachAt (w3.alloc (.cells #[.slice none 0 0, .slice A l.length c, .int .i64 0] 61)) w3.heap.size (.slice none 0 0) A l.length c 0 := heap_alloc_new w3 _
          have B4 := Lib.hid (show Below wb.heap.size wb (w3.alloc (.cells #[.slice none 0 0, .slice A l.length c, .int .i64 0] 61)) from B3.out.alloc B3.out.size _)
          have s4 : (w3.alloc (.cells #[.slice none 0 0, .slice A l.length c, .int .i64 0] 61)).heap.size = w3.heap.size + 1 := by simp
          generalize hw4 : w3.alloc (.cells #[.slice none 0 0, .slice A l.length c, .int .i64 0] 61) = w4 at e4 M4 B4 s4
          have HM4 := Lib.hid M4
          have HS4 := Lib.hid s4
          have I4 := Lib.hid (IB.out _ (E0.out.trans (B4.out.mono E0.out.size)))
          clear e4 M4 s4
          have G1 := Lib.hid (fun r hr => glob_w w3.heap.size (.slice none 0 0) A c 0 l s r hr (by have := HN.out; omega) w4 HM4.out I4.out)
          have SG := Lib.hid (fun w5 (h : MachAt w5 w3.heap.size (.slice none 0 0) A l.length c 0) (h2 : BindsAt (fun _ => False) w5 A l) => setGlob_no w3.heap.size (.slice none 0 0) A c 0 l s (v1, v2, v3) (by have := HN.out; omega) w5 h h2 hg)
          clear hg
          have HGQ0 := Lib.hid (rfl : getO l s = getO l s)
          have HGQ1 : Hid (∀ r, getO l s = r → getO l s = r) := Lib.hid (fun _ h => h)
          obtain ⟨r, hgo⟩ : ∃ r, getO l s = r := ⟨_, rfl⟩
          rw [hgo] at HGT
          have G1 := Lib.hid (G1.out r hgo)
          obtain ⟨⟨r1, r2, r3⟩, rb⟩ := r
          have hrb : rb = false := HGT.out
          subst hrb
          have HGQ := Lib.hid hgo
          clear hgo
          go_wp2_with fail
          refine G1.out.mono ?_
          rintro e w5 ⟨rfl, q5⟩
          have b5 := q5.alloc q5.size (.cells #[.int .i64 r1, .int .i64 r2, .string r3] 26)
          have B5 := Lib.hid (B4.out.trans (b5.mono B4.out.size))
          have M5 := Lib.hid (HM4.out.below b5)
          have I5 := Lib.hid (I4.out.below b5)
          obtain ⟨c0, c1, c2⟩ := HC.out _ B5.out
          clear q5
          have HB5 := Lib.hid b5
          clear b5
          go_wp2_with fail
          generalize w5.alloc (.cells #[.int .i64 r1, .int .i64 r2, .string r3] 26) = w6 at *
          refine (SG.out _ M5.out I5.out).mono ?_
          rintro e w7 ⟨rfl, q7⟩
          have B7 := Lib.hid (B5.out.trans (q7.mono B5.out.size))
          have M7 := Lib.hid (M5.out.below q7)
          have I7 := Lib.hid (I5.out.below q7)
          clear q7 c0 c1 c2
          have G2 := Lib.hid (glob_w w3.heap.size (.slice none 0 0) A c 0 l s ((r1, r2, r3), false) HGQ.out (by have := HN.out; omega) w7 M7.out I7.out)
          go_wp2_with fail
          refine G2.out.mono ?_
          rintro e w8 ⟨rfl, q8⟩
          have b8 := q8.alloc q8.size (.cells #[.int .i64 r1, .int .i64 r2, .string r3] 26)
          have B8 := Lib.hid (B7.out.trans (b8.mono B7.out.size))
          have cg := (M7.out.below b8).g
          clear q8 b8
          go_wp2_with fail
          go_ret
          exact ⟨rfl, E0.out.trans (B8.out.mono E0.out.size)⟩
theorem evalGlobs_any (A : Option Addr) (c : Nat) (l : List Bd) (s : ByteArray) (v : Vl) (w : World) (ht : Tab w) (hI : BindsAt (fun _ => False) w A l) (hx : ∀ x ∈ l, cameB x) (hA : A = none → c = 0) (hv : cameV v) :
    Calls Tryz.prog 8 #[.slice A l.length c, .string s, v.val] w fun e w' => e = .returned (.bool true) ∧ Below w.heap.size w w' := globs_any A c l s v w ht hA hI hx hv
end Go.Proofs.YtmadnehipagakaaGreatDoor
