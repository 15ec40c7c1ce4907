/- EvalShort: and and or ask no more than they must. -/
import Derived.Test.YtmadnehipagakaaGreatDoorGp
import Derived.Test.YtmadnehipagakaaGreatDoorNe
namespace Go.Proofs.YtmadnehipagakaaGreatDoor
open Go.RowKit Go.Lib Go.Sort Go.Shelf KP
def z6 : Value := .agg #[.int .i64 0, .int .i64 0, .int .i64 0, .string ⟨#[]⟩, .string ⟨#[]⟩, .slice none 0 0]
theorem infoE : (Tryz.prog.info? 65).map (fun i => (i.zero, i.size, i.bytes)) = some (some z6, 6, 80) := by kernel_rfl
/-- append to a row of its own, as one step of a region that draws. -/
theorem step_own {P : Program} {w : World} {ops : Array Oper} {o : Oper} {a : Act} {K : Act → World → Prop} {Q : Exit → Act → World → Prop} {E : Prop} (hgd : o.guard = none) (s x : Operand) (t : TypeId)
    (ho : o.op = .call { callee := .builtin .append, args := #[s, x], argTypes := #[t, t] })
    (base : Nat) (e : TypeId) (i : TypeInfo) (z : Value) (size bytes : Nat) (ht : P.underlying t = some (.slice e)) (hi : P.info? e = some i) (hz : i.zero = some z)
    (hsize : i.size = size) (hby : i.bytes = bytes) (hzs : z.cells.size = size) (hsz : 0 < size)
    (v : Value) (n : Nat) (xs : List Value) (hs : a.eval s = v) (hown : w.ownsRow base e size v n xs)
    (ad : Addr) (m c : Nat) (news : List Value) (hx : a.eval x = .slice (some ad) m c) (hl : news.length = m * size) (hnews : ∀ j u, news[j]? = some u → w.cell? (ad.add j) = some u) (h1 : ∀ u ∈ news, u.oneCell' = true)
    (h63 : n + m ≤ maxLen) (hbytes : (n + m) * bytes ≤ 140737488355328) (hbase : base ≤ w.heap.size)
    (h : ∀ v' w', w'.ownsRow base e size v' (n + m) (xs ++ news) → w.grownBy w' v.ownBlock → K (a.put o.dst v') w') : if Region.wanted o (yielded ops a.tmps) = true then Oper.wp P o a w K Q else E := by
  rw [if_pos (by simp [Region.wanted, hgd])]
  exact wp_append_own w s x t ho base e i z size bytes ht hi hz hsize hby hzs hsz v n xs hs hown ad m c news hx hl hnews h1 h63 hbytes hbase fun v' w' h2 h3 _ => h v' w' h2 h3
theorem stop_take {l : List Bool} {k : Nat} (hk : k < l.length) (or : Bool) : stopO (l.take (k + 1)) or = match stopO (l.take k) or with
    | some j => some j
    | none => if (l[k] == or) = true then some k else none := by
  unfold stopO
  rw [List.take_succ_eq_append_getElem hk, List.findIdx?_append]
  cases hf : List.findIdx? (fun b => b == or) (l.take k) with
  | some j => rfl
  | none =>
    rw [List.findIdx?_cons]
    cases l[k] == or with
    | true => simp; omega
    | false => simp
set_option maxHeartbeats 1000000 in
theorem short_long (A : Option Addr) (c : Nat) (l : List Bool) (or : Bool) (w : World) (ht : Tab w) (h : 30 < l.length) :
    Calls Tryz.prog 7 #[.slice A l.length c, .bool or] w fun e w' => e = .returned (.bool true) ∧ Below w.heap.size w w' := by
  have KN := Lib.hid (known8 w ht)
  have hI : (30 : Int) < (l.length : Int) := by omega
  clear ht h
  go_enter Tryz.func7, Tryz.ntmps7
  go_wp2_with fail
  refine KN.out.mono ?_
  rintro e w1 ⟨rfl, q1⟩
  have E1 := Lib.hid q1
  clear q1
  go_wp2_with fail
  go_ret
  exact ⟨rfl, E1.out⟩
/-- What holds while the expression is made: its block, its row, what lay before, the truth to be read. -/
def FA (w1 : World) (p : Addr) (b : Bool) (K : Int) (v : Value) (k : Nat) (xs : List Value) (W : World) : Prop :=
  W.heap[w1.heap.size]? = some (.cells #[.int .i64 K, .int .i64 0, .int .i64 0, .string ⟨#[]⟩, .string ⟨#[]⟩, v] 65 (0, 0)) ∧ W.ownsRow (w1.heap.size + 1) 65 6 v k xs ∧ Below w1.heap.size w1 W ∧ W.cell? p = some (.bool b)
theorem facts_below {w1 W W' : World} {p : Addr} {b : Bool} {K : Int} {v : Value} {k : Nat} {xs : List Value} (h : FA w1 p b K v k xs W) (q : Below W.heap.size W W') : FA w1 p b K v k xs W' :=
  ⟨keepB h.1 q, ownsRow_keep h.2.1 (Keep.of_below q (fun _ => False)) (fun _ _ h => h), h.2.2.1.trans (q.mono h.2.2.1.size), (q.cell (World.block_lt_of_cell? _ _ h.2.2.2)).trans h.2.2.2⟩
/-- The variable stop, behind k rounds. -/
def stI (l : List Bool) (or : Bool) (k : Nat) : Int := match stopO (l.take k) or with
  | some j => j
  | none => -1
theorem stI_succ {l : List Bool} {k : Nat} (hk : k < l.length) (or : Bool) : (0 ≤ stI l or k ∧ stI l or (k + 1) = stI l or k) ∨ (stI l or k = -1 ∧ stI l or (k + 1) = if (l[k] == or) = true then (k : Int) else -1) := by
  unfold stI
  rw [stop_take hk]
  cases stopO (l.take k) or with
  | some j => exact .inl ⟨by simp, rfl⟩
  | none => exact .inr ⟨rfl, by cases l[k] == or <;> rfl⟩
set_option maxRecDepth 100000 in
set_option maxHeartbeats 8000000 in
theorem short_true (A : Option Addr) (c : Nat) (l : List Bool) (w : World) (ht : Tab w) (h30 : l.length ≤ 30) (hL : ∀ k (h : k < l.length), ∃ a, A = some a ∧ w.cell? (a.add k) = some (.bool l[k])) :
    Calls Tryz.prog 7 #[.slice A l.length c, .bool true] w fun e w' => e = .returned (.bool true) ∧ Below w.heap.size w w' := by
  obtain ⟨i0, hi, hz0, hz1, hz2⟩ := info_parts infoE
  have HT := Lib.hid ht
  have HL := Lib.hid (fun W (h : Below w.heap.size w W) k (hk : k < l.length) => (show ∃ a, A = some a ∧ W.cell? (a.add k) = some (.bool l[k]) from by
    obtain ⟨a, e, hc⟩ := hL k hk
    exact ⟨a, e, (h.cell (World.block_lt_of_cell? _ _ hc)).trans hc⟩))
  have hlI : (l.length : Int) ≤ 30 := by omega
  have H30 := Lib.hid h30
  clear ht h30 hL
  go_enter Tryz.func7, Tryz.ntmps7
  go_wp2_with fail
  refine (known8 w HT.out).mono ?_
  rintro e w1 ⟨rfl, q1⟩
  have B1 := Lib.hid q1
  have G2 := Lib.hid (heap_alloc_new w1 (.cells #[.int .i64 7, .int .i64 0, .int .i64 0, .string ⟨#[]⟩, .string ⟨#[]⟩, .slice none 0 0] 65))
  have B2 := Lib.hid ((Below.refl w1.heap.size w1).alloc (Nat.le_refl _) (.cells #[.int .i64 7, .int .i64 0, .int .i64 0, .string ⟨#[]⟩, .string ⟨#[]⟩, .slice none 0 0] 65))
  clear q1
  go_wp2_with fail
  generalize w1.alloc (.cells #[.int .i64 7, .int .i64 0, .int .i64 0, .string ⟨#[]⟩, .string ⟨#[]⟩, .slice none 0 0] 65) = w2 at G2 B2 ⊢
  go_loopw [6, 7] (fun s i wr => ∃ k : Nat, k ≤ l.length ∧ i = .int .i64 k ∧ s = .int .i64 (stI l true k) ∧ ∃ v, Hid (wr.heap[w1.heap.size]? = some (.cells #[.int .i64 7, .int .i64 0, .int .i64 0, .string ⟨#[]⟩, .string ⟨#[]⟩, v] 65 (0, 0))) ∧ Hid (wr.ownsRow (w1.heap.size + 1) 65 6 v k (((l.take k).map kB).flatMap e6)) ∧ Hid (Below w1.heap.size w1 wr)) (fun _ i _ => l.length - (intOf i).toNat)
  case atStart => exact ⟨0, by omega, rfl, rfl, _, G2, Lib.hid (World.ownsRow_nil _ _ _ _), B2⟩
  case round =>
    obtain ⟨k, hk, rfl, rfl, v, hG, hO, hB⟩ := hrel
    by_cases hlt : k < l.length
    · have hltI : (k : Int) < (l.length : Int) := by omega
      have HLB := Lib.hid (fun W (h : Below w.heap.size w W) => HL.out W h k hlt)
      have hT : Hid (((l.take (k + 1)).map kB).flatMap e6 = ((l.take k).map kB).flatMap e6 ++ e6 (kB l[k])) := Lib.hid (by rw [List.take_succ_eq_append_getElem hlt, List.map_append, List.flatMap_append]; simp)
      have hS := Lib.hid (stI_succ hlt true)
      obtain ⟨a, rfl, hlb⟩ := HLB.out _ (B1.out.trans (hB.out.mono B1.out.size))
      generalize l[k] = b at *
      have F0 : Hid (FA w1 (a.add k) b 7 v k (((l.take k).map kB).flatMap e6) wr.drew) := Lib.hid (facts_below (W := wr) ⟨hG.out, hO.out, hB.out, hlb⟩ ⟨rfl, rfl, rfl, Nat.le_refl _, fun _ _ => rfl⟩)
      clear hlb
      have H1 := Lib.hid (Nat.le_refl w1.heap.size)
      go_wp2_with fail
      refine wp_region_held_drew (S := (fun _ => True)) (by kernel_rfl) trivial (fun hHeld => ?_)
      generalize wr.drew = vv0 at F0 ⊢
      refine wpAnyH_take (i := 0) (oi := ⟨_, _, _, _, _, _⟩) (v := ?_) rfl (by kernel_rfl) (by kernel_rfl) (by kernel_rfl) (fun _ _ _ h => h) (Or.inl ⟨by rfl, ?_⟩) (by assumption) ?_
      rotate_left
      · intro w' hSw; (try dsimp only at hSw); go_simp; (try with_reducible rfl)
      try simp only [Act.put, List.setIfInBounds_toArray, List.set_cons_zero, List.set_cons_succ]
      refine wpAnyH_take (i := 2) (oi := ⟨_, _, _, _, _, _⟩) (v := ?_) rfl (by kernel_rfl) (by kernel_rfl) (by kernel_rfl) (fun _ _ _ h => h) (Or.inl ⟨by rfl, ?_⟩) (by assumption) ?_
      rotate_left
      · intro w' hSw; (try dsimp only at hSw); go_simp; (try with_reducible rfl)
      try simp only [Act.put, List.setIfInBounds_toArray, List.set_cons_zero, List.set_cons_succ]
      refine wpAnyH_take (i := 3) (oi := ⟨_, _, _, _, _, _⟩) (v := ?_) rfl (by kernel_rfl) (by kernel_rfl) (by kernel_rfl) (fun _ _ _ h => h) (Or.inl ⟨by rfl, ?_⟩) (by assumption) ?_
      rotate_left
      · intro w' hSw; (try dsimp only at hSw); go_simp; (try with_reducible rfl)
      try simp only [Act.put, List.setIfInBounds_toArray, List.set_cons_zero, List.set_cons_succ]
      refine wpAnyH_take (i := 4) (oi := ⟨_, _, _, _, _, _⟩) (v := ?_) rfl (by kernel_rfl) (by kernel_rfl) (by kernel_rfl) (fun _ _ _ h => h) (Or.inl ⟨by rfl, ?_⟩) (by assumption) ?_
      rotate_left
      · intro w' hSw; (try dsimp only at hSw); go_simp; (try with_reducible rfl)
      try simp only [Act.put, List.setIfInBounds_toArray, List.set_cons_zero, List.set_cons_succ]
      refine wpAnyH_ready (rs := [1, 5]) (by kernel_rfl) (by simp) ?_
      refine AllReadyH.cons (o := ⟨_, _, _, _, _, _⟩) rfl (fun K9 hK9 => ?_) (AllReadyH.cons (o := ⟨_, _, _, _, _, _⟩) rfl (fun K9 hK9 => ?_) (AllReadyH.nil))
      · have ck := block_cell (j := 5) F0.out.1 rfl
        go_simp
        go_wp2_with fail
        clear ck
        refine hK9.out _ _ trivial (fun hHeld => ?_)
        clear hK9 K9
        try simp only [Act.put, List.setIfInBounds_toArray, List.set_cons_zero, List.set_cons_succ]
        refine wpAnyH_ready (rs := [5]) (by kernel_rfl) (by simp) ?_
        refine AllReadyH.cons (o := ⟨_, _, _, _, _, _⟩) rfl (fun K9 hK9 => ?_) (AllReadyH.nil)
        · have lb := F0.out.2.2.2
          go_simp
          go_wp2_with fail
          clear lb
          refine hK9.out _ _ trivial (fun hHeld => ?_)
          clear hK9 K9
          try simp only [Act.put, List.setIfInBounds_toArray, List.set_cons_zero, List.set_cons_succ]
          refine wpAnyH_ready (rs := [6]) (by kernel_rfl) (by simp) ?_
          refine AllReadyH.cons (o := ⟨_, _, _, _, _, _⟩) rfl (fun K9 hK9 => ?_) (AllReadyH.nil)
          · go_simp
            (with_reducible refine (rBool_c b _).mono ?_)
            rintro e vv14 ⟨rfl, q⟩
            have F15 := Lib.hid (facts_below F0.out q)
            clear q
            go_wp2_with fail
            refine hK9.out _ _ trivial (fun hHeld => ?_)
            clear hK9 K9
            try simp only [Act.put, List.setIfInBounds_toArray, List.set_cons_zero, List.set_cons_succ]
            refine wpAnyH_take (i := 7) (oi := ⟨_, _, _, _, _, _⟩) (v := ?_) rfl (by kernel_rfl) (by kernel_rfl) (by kernel_rfl) (fun _ _ _ h => h) (Or.inl ⟨by rfl, ?_⟩) (by assumption) ?_
            rotate_left
            · intro w' hSw; (try dsimp only at hSw); go_simp; (try with_reducible rfl)
            try simp only [Act.put, List.setIfInBounds_toArray, List.set_cons_zero, List.set_cons_succ]
            refine wpAnyH_ready (rs := [8]) (by kernel_rfl) (by simp) ?_
            refine AllReadyH.cons (o := ⟨_, _, _, _, _, _⟩) rfl (fun K9 hK9 => ?_) (AllReadyH.nil)
            · go_simp
              go_wp2_with fail
              have F17 := Lib.hid (facts_below F15.out ((Below.refl (vv14).heap.size (vv14)).alloc (Nat.le_refl _) (.cells #[.int .i64 1, .int .i64 2, .int .i64 0, .string (sB b), .string ⟨#[]⟩, .slice none 0 0] 65)))
              have E18 := Lib.hid (heap_alloc_new (vv14) (.cells #[.int .i64 1, .int .i64 2, .int .i64 0, .string (sB b), .string ⟨#[]⟩, .slice none 0 0] 65))
              generalize (vv14).alloc (.cells #[.int .i64 1, .int .i64 2, .int .i64 0, .string (sB b), .string ⟨#[]⟩, .slice none 0 0] 65) = vv16 at F17 E18 ⊢
              refine hK9.out _ _ trivial (fun hHeld => ?_)
              clear hK9 K9
              try simp only [Act.put, List.setIfInBounds_toArray, List.set_cons_zero, List.set_cons_succ]
              refine wpAnyH_ready (rs := [9]) (by kernel_rfl) (by simp) ?_
              refine AllReadyH.cons (o := ⟨_, _, _, _, _, _⟩) rfl (fun K9 hK9 => ?_) (AllReadyH.nil)
              · have N9 : ∀ j u, (e6 (kB b))[j]? = some u → (vv16).cell? ((⟨(vv14).heap.size, 0, none⟩ : Addr).add j) = some u := fun j u hu => by
                  rw [show (⟨(vv14).heap.size, 0, none⟩ : Addr).add j = ⟨(vv14).heap.size, j, none⟩ by simp [Addr.add]; omega]
                  exact block_cell E18.out (by have hu2 : ([.int .i64 1, .int .i64 2, .int .i64 0, .string (sB b), .string ⟨#[]⟩, .slice none 0 0] : List Value)[j]? = some u := hu; simpa using hu2)
                have hbl := (Array.getElem?_eq_some_iff.1 F17.out.1).1
                refine step_own rfl (.tmp 26) (.tmp 33) 63 rfl (w1.heap.size + 1) 65 i0 z6 6 80 Tryz.underlying63 hi hz0 hz1 hz2 rfl (by decide) _ k _ rfl F17.out.2.1 ⟨(vv14).heap.size, 0, none⟩ 1 1 (e6 (kB b)) rfl rfl N9 (by have := e6_flat [kB b]; simpa using this) (by unfold maxLen; omega) (by omega) (by omega) ?_
                intro v' w7 hown hgr
                obtain ⟨gq, cq, hvq⟩ := ownsRow_succ hown
                subst hvq
                have G7 := (hgr.block w1.heap.size hbl (fun e => by have := (F17.out.2.1.lt _ e.symm).1; omega)).trans F17.out.1
                have hB7 : Below w1.heap.size w1 w7 := F17.out.2.2.1.grown hgr F17.out.2.2.1.size (fun q hq => by have := (F17.out.2.1.lt q hq).1; omega)
                have O7 := Lib.hid (show w7.ownsRow (w1.heap.size + 1) 65 6 (.slice (some ⟨gq, 0, none⟩) (k + 1) cq) (k + 1) (((l.take (k + 1)).map kB).flatMap e6) from by rw [hT.out]; exact hown)
                have G8 := Lib.hid (block_set G7 (j := 5) (.slice (some ⟨gq, 0, none⟩) (k + 1) cq))
                have B8 := Lib.hid (hB7.setCell (p := ⟨w1.heap.size, 5, none⟩) (Nat.le_refl _) (.slice (some ⟨gq, 0, none⟩) (k + 1) cq))
                have O8 := Lib.hid (ownsRow_keep O7.out ((Keep.refl (fun q => q = w1.heap.size) w7).setCell (p := ⟨w1.heap.size, 5, none⟩) (.inl rfl) (.slice (some ⟨gq, 0, none⟩) (k + 1) cq)) (fun q hq e => by have := (O7.out.lt q hq).1; omega))
                have ck := block_cell (j := 5) G7 rfl
                have fk := block_free (j := 5) G7
                clear hown hgr N9 hbl
                refine hK9.out _ _ trivial (fun hHeld => ?_)
                clear hK9 K9
                try simp only [Act.put, List.setIfInBounds_toArray, List.set_cons_zero, List.set_cons_succ]
                refine wpAnyH_take (i := 10) (oi := ⟨_, _, _, _, _, _⟩) (v := ?_) rfl (by kernel_rfl) (by kernel_rfl) (by kernel_rfl) (fun _ _ _ h => h) (Or.inl ⟨by rfl, ?_⟩) (by assumption) ?_
                rotate_left
                · intro w' hSw; (try dsimp only at hSw); go_simp; (try with_reducible rfl)
                try simp only [Act.put, List.setIfInBounds_toArray, List.set_cons_zero, List.set_cons_succ]
                refine wpAnyH_ready (rs := [11]) (by kernel_rfl) (by simp) ?_
                refine AllReadyH.cons (o := ⟨_, _, _, _, _, _⟩) rfl (fun K9 hK9 => ?_) (AllReadyH.nil)
                · go_simp
                  go_wp2_with fail
                  clear ck fk G7 hB7
                  generalize w7.setCell ⟨w1.heap.size, 5, none⟩ (.slice (some ⟨gq, 0, none⟩) (k + 1) cq) = w8 at G8 B8 O8 ⊢
                  refine hK9.out _ _ trivial (fun hHeld => ?_)
                  clear hK9 K9
                  try simp only [Act.put, List.setIfInBounds_toArray, List.set_cons_zero, List.set_cons_succ]
                  refine wpAnyH_done (by kernel_rfl) ?_ _
                  have lb2 := HLB.out _ (B1.out.trans (B8.out.mono B1.out.size))
                  obtain ⟨a2, ha2, lb⟩ := lb2
                  obtain rfl := Option.some.inj ha2
                  rcases hS.out with ⟨h0, hs1⟩ | ⟨h0, hs1⟩
                  · have hd : ¬ (stI l true k < 0) := by omega
                    generalize stI l true k = st at *
                    have HS1 := Lib.hid hs1
                    clear hs1
                    go_wp2_with fail
                    exact ⟨⟨k + 1, by omega, by go_num, by rw [HS1.out], _, G8, O8, B8⟩, by simp [intOf]; omega⟩
                  · rw [h0]
                    have HS1 := Lib.hid hs1
                    clear hs1 h0
                    cases b
                    · go_wp2_with fail
                      exact ⟨⟨k + 1, by omega, by go_num, by rw [HS1.out]; rfl, _, G8, O8, B8⟩, by simp [intOf]; omega⟩
                    · go_wp2_with fail
                      exact ⟨⟨k + 1, by omega, by go_num, by rw [HS1.out]; rfl, _, G8, O8, B8⟩, by simp [intOf]; omega⟩
      · have lb := F0.out.2.2.2
        go_simp
        go_wp2_with fail
        clear lb
        refine hK9.out _ _ trivial (fun hHeld => ?_)
        clear hK9 K9
        try simp only [Act.put, List.setIfInBounds_toArray, List.set_cons_zero, List.set_cons_succ]
        refine wpAnyH_ready (rs := [1, 6]) (by kernel_rfl) (by simp) ?_
        refine AllReadyH.cons (o := ⟨_, _, _, _, _, _⟩) rfl (fun K9 hK9 => ?_) (AllReadyH.cons (o := ⟨_, _, _, _, _, _⟩) rfl (fun K9 hK9 => ?_) (AllReadyH.nil))
        · have ck := block_cell (j := 5) F0.out.1 rfl
          go_simp
          go_wp2_with fail
          clear ck
          refine hK9.out _ _ trivial (fun hHeld => ?_)
          clear hK9 K9
          try simp only [Act.put, List.setIfInBounds_toArray, List.set_cons_zero, List.set_cons_succ]
          refine wpAnyH_ready (rs := [6]) (by kernel_rfl) (by simp) ?_
          refine AllReadyH.cons (o := ⟨_, _, _, _, _, _⟩) rfl (fun K9 hK9 => ?_) (AllReadyH.nil)
          · go_simp
            (with_reducible refine (rBool_c b _).mono ?_)
            rintro e vv9 ⟨rfl, q⟩
            have F10 := Lib.hid (facts_below F0.out q)
            clear q
            go_wp2_with fail
            refine hK9.out _ _ trivial (fun hHeld => ?_)
            clear hK9 K9
            try simp only [Act.put, List.setIfInBounds_toArray, List.set_cons_zero, List.set_cons_succ]
            refine wpAnyH_take (i := 7) (oi := ⟨_, _, _, _, _, _⟩) (v := ?_) rfl (by kernel_rfl) (by kernel_rfl) (by kernel_rfl) (fun _ _ _ h => h) (Or.inl ⟨by rfl, ?_⟩) (by assumption) ?_
            rotate_left
            · intro w' hSw; (try dsimp only at hSw); go_simp; (try with_reducible rfl)
            try simp only [Act.put, List.setIfInBounds_toArray, List.set_cons_zero, List.set_cons_succ]
            refine wpAnyH_ready (rs := [8]) (by kernel_rfl) (by simp) ?_
            refine AllReadyH.cons (o := ⟨_, _, _, _, _, _⟩) rfl (fun K9 hK9 => ?_) (AllReadyH.nil)
            · go_simp
              go_wp2_with fail
              have F12 := Lib.hid (facts_below F10.out ((Below.refl (vv9).heap.size (vv9)).alloc (Nat.le_refl _) (.cells #[.int .i64 1, .int .i64 2, .int .i64 0, .string (sB b), .string ⟨#[]⟩, .slice none 0 0] 65)))
              have E13 := Lib.hid (heap_alloc_new (vv9) (.cells #[.int .i64 1, .int .i64 2, .int .i64 0, .string (sB b), .string ⟨#[]⟩, .slice none 0 0] 65))
              generalize (vv9).alloc (.cells #[.int .i64 1, .int .i64 2, .int .i64 0, .string (sB b), .string ⟨#[]⟩, .slice none 0 0] 65) = vv11 at F12 E13 ⊢
              refine hK9.out _ _ trivial (fun hHeld => ?_)
              clear hK9 K9
              try simp only [Act.put, List.setIfInBounds_toArray, List.set_cons_zero, List.set_cons_succ]
              refine wpAnyH_ready (rs := [9]) (by kernel_rfl) (by simp) ?_
              refine AllReadyH.cons (o := ⟨_, _, _, _, _, _⟩) rfl (fun K9 hK9 => ?_) (AllReadyH.nil)
              · have N9 : ∀ j u, (e6 (kB b))[j]? = some u → (vv11).cell? ((⟨(vv9).heap.size, 0, none⟩ : Addr).add j) = some u := fun j u hu => by
                  rw [show (⟨(vv9).heap.size, 0, none⟩ : Addr).add j = ⟨(vv9).heap.size, j, none⟩ by simp [Addr.add]; omega]
                  exact block_cell E13.out (by have hu2 : ([.int .i64 1, .int .i64 2, .int .i64 0, .string (sB b), .string ⟨#[]⟩, .slice none 0 0] : List Value)[j]? = some u := hu; simpa using hu2)
                have hbl := (Array.getElem?_eq_some_iff.1 F12.out.1).1
                refine step_own rfl (.tmp 26) (.tmp 33) 63 rfl (w1.heap.size + 1) 65 i0 z6 6 80 Tryz.underlying63 hi hz0 hz1 hz2 rfl (by decide) _ k _ rfl F12.out.2.1 ⟨(vv9).heap.size, 0, none⟩ 1 1 (e6 (kB b)) rfl rfl N9 (by have := e6_flat [kB b]; simpa using this) (by unfold maxLen; omega) (by omega) (by omega) ?_
                intro v' w7 hown hgr
                obtain ⟨gq, cq, hvq⟩ := ownsRow_succ hown
                subst hvq
                have G7 := (hgr.block w1.heap.size hbl (fun e => by have := (F12.out.2.1.lt _ e.symm).1; omega)).trans F12.out.1
                have hB7 : Below w1.heap.size w1 w7 := F12.out.2.2.1.grown hgr F12.out.2.2.1.size (fun q hq => by have := (F12.out.2.1.lt q hq).1; omega)
                have O7 := Lib.hid (show w7.ownsRow (w1.heap.size + 1) 65 6 (.slice (some ⟨gq, 0, none⟩) (k + 1) cq) (k + 1) (((l.take (k + 1)).map kB).flatMap e6) from by rw [hT.out]; exact hown)
                have G8 := Lib.hid (block_set G7 (j := 5) (.slice (some ⟨gq, 0, none⟩) (k + 1) cq))
                have B8 := Lib.hid (hB7.setCell (p := ⟨w1.heap.size, 5, none⟩) (Nat.le_refl _) (.slice (some ⟨gq, 0, none⟩) (k + 1) cq))
                have O8 := Lib.hid (ownsRow_keep O7.out ((Keep.refl (fun q => q = w1.heap.size) w7).setCell (p := ⟨w1.heap.size, 5, none⟩) (.inl rfl) (.slice (some ⟨gq, 0, none⟩) (k + 1) cq)) (fun q hq e => by have := (O7.out.lt q hq).1; omega))
                have ck := block_cell (j := 5) G7 rfl
                have fk := block_free (j := 5) G7
                clear hown hgr N9 hbl
                refine hK9.out _ _ trivial (fun hHeld => ?_)
                clear hK9 K9
                try simp only [Act.put, List.setIfInBounds_toArray, List.set_cons_zero, List.set_cons_succ]
                refine wpAnyH_take (i := 10) (oi := ⟨_, _, _, _, _, _⟩) (v := ?_) rfl (by kernel_rfl) (by kernel_rfl) (by kernel_rfl) (fun _ _ _ h => h) (Or.inl ⟨by rfl, ?_⟩) (by assumption) ?_
                rotate_left
                · intro w' hSw; (try dsimp only at hSw); go_simp; (try with_reducible rfl)
                try simp only [Act.put, List.setIfInBounds_toArray, List.set_cons_zero, List.set_cons_succ]
                refine wpAnyH_ready (rs := [11]) (by kernel_rfl) (by simp) ?_
                refine AllReadyH.cons (o := ⟨_, _, _, _, _, _⟩) rfl (fun K9 hK9 => ?_) (AllReadyH.nil)
                · go_simp
                  go_wp2_with fail
                  clear ck fk G7 hB7
                  generalize w7.setCell ⟨w1.heap.size, 5, none⟩ (.slice (some ⟨gq, 0, none⟩) (k + 1) cq) = w8 at G8 B8 O8 ⊢
                  refine hK9.out _ _ trivial (fun hHeld => ?_)
                  clear hK9 K9
                  try simp only [Act.put, List.setIfInBounds_toArray, List.set_cons_zero, List.set_cons_succ]
                  refine wpAnyH_done (by kernel_rfl) ?_ _
                  have lb2 := HLB.out _ (B1.out.trans (B8.out.mono B1.out.size))
                  obtain ⟨a2, ha2, lb⟩ := lb2
                  obtain rfl := Option.some.inj ha2
                  rcases hS.out with ⟨h0, hs1⟩ | ⟨h0, hs1⟩
                  · have hd : ¬ (stI l true k < 0) := by omega
                    generalize stI l true k = st at *
                    have HS1 := Lib.hid hs1
                    clear hs1
                    go_wp2_with fail
                    exact ⟨⟨k + 1, by omega, by go_num, by rw [HS1.out], _, G8, O8, B8⟩, by simp [intOf]; omega⟩
                  · rw [h0]
                    have HS1 := Lib.hid hs1
                    clear hs1 h0
                    cases b
                    · go_wp2_with fail
                      exact ⟨⟨k + 1, by omega, by go_num, by rw [HS1.out]; rfl, _, G8, O8, B8⟩, by simp [intOf]; omega⟩
                    · go_wp2_with fail
                      exact ⟨⟨k + 1, by omega, by go_num, by rw [HS1.out]; rfl, _, G8, O8, B8⟩, by simp [intOf]; omega⟩
        · go_simp
          (with_reducible refine (rBool_c b _).mono ?_)
          rintro e vv1 ⟨rfl, q⟩
          have F2 := Lib.hid (facts_below F0.out q)
          clear q
          go_wp2_with fail
          refine hK9.out _ _ trivial (fun hHeld => ?_)
          clear hK9 K9
          try simp only [Act.put, List.setIfInBounds_toArray, List.set_cons_zero, List.set_cons_succ]
          refine wpAnyH_take (i := 7) (oi := ⟨_, _, _, _, _, _⟩) (v := ?_) rfl (by kernel_rfl) (by kernel_rfl) (by kernel_rfl) (fun _ _ _ h => h) (Or.inl ⟨by rfl, ?_⟩) (by assumption) ?_
          rotate_left
          · intro w' hSw; (try dsimp only at hSw); go_simp; (try with_reducible rfl)
          try simp only [Act.put, List.setIfInBounds_toArray, List.set_cons_zero, List.set_cons_succ]
          refine wpAnyH_ready (rs := [1, 8]) (by kernel_rfl) (by simp) ?_
          refine AllReadyH.cons (o := ⟨_, _, _, _, _, _⟩) rfl (fun K9 hK9 => ?_) (AllReadyH.cons (o := ⟨_, _, _, _, _, _⟩) rfl (fun K9 hK9 => ?_) (AllReadyH.nil))
          · have ck := block_cell (j := 5) F2.out.1 rfl
            go_simp
            go_wp2_with fail
            clear ck
            refine hK9.out _ _ trivial (fun hHeld => ?_)
            clear hK9 K9
            try simp only [Act.put, List.setIfInBounds_toArray, List.set_cons_zero, List.set_cons_succ]
            refine wpAnyH_ready (rs := [8]) (by kernel_rfl) (by simp) ?_
            refine AllReadyH.cons (o := ⟨_, _, _, _, _, _⟩) rfl (fun K9 hK9 => ?_) (AllReadyH.nil)
            · go_simp
              go_wp2_with fail
              have F7 := Lib.hid (facts_below F2.out ((Below.refl (vv1).heap.size (vv1)).alloc (Nat.le_refl _) (.cells #[.int .i64 1, .int .i64 2, .int .i64 0, .string (sB b), .string ⟨#[]⟩, .slice none 0 0] 65)))
              have E8 := Lib.hid (heap_alloc_new (vv1) (.cells #[.int .i64 1, .int .i64 2, .int .i64 0, .string (sB b), .string ⟨#[]⟩, .slice none 0 0] 65))
              generalize (vv1).alloc (.cells #[.int .i64 1, .int .i64 2, .int .i64 0, .string (sB b), .string ⟨#[]⟩, .slice none 0 0] 65) = vv6 at F7 E8 ⊢
              refine hK9.out _ _ trivial (fun hHeld => ?_)
              clear hK9 K9
              try simp only [Act.put, List.setIfInBounds_toArray, List.set_cons_zero, List.set_cons_succ]
              refine wpAnyH_ready (rs := [9]) (by kernel_rfl) (by simp) ?_
              refine AllReadyH.cons (o := ⟨_, _, _, _, _, _⟩) rfl (fun K9 hK9 => ?_) (AllReadyH.nil)
              · have N9 : ∀ j u, (e6 (kB b))[j]? = some u → (vv6).cell? ((⟨(vv1).heap.size, 0, none⟩ : Addr).add j) = some u := fun j u hu => by
                  rw [show (⟨(vv1).heap.size, 0, none⟩ : Addr).add j = ⟨(vv1).heap.size, j, none⟩ by simp [Addr.add]; omega]
                  exact block_cell E8.out (by have hu2 : ([.int .i64 1, .int .i64 2, .int .i64 0, .string (sB b), .string ⟨#[]⟩, .slice none 0 0] : List Value)[j]? = some u := hu; simpa using hu2)
                have hbl := (Array.getElem?_eq_some_iff.1 F7.out.1).1
                refine step_own rfl (.tmp 26) (.tmp 33) 63 rfl (w1.heap.size + 1) 65 i0 z6 6 80 Tryz.underlying63 hi hz0 hz1 hz2 rfl (by decide) _ k _ rfl F7.out.2.1 ⟨(vv1).heap.size, 0, none⟩ 1 1 (e6 (kB b)) rfl rfl N9 (by have := e6_flat [kB b]; simpa using this) (by unfold maxLen; omega) (by omega) (by omega) ?_
                intro v' w7 hown hgr
                obtain ⟨gq, cq, hvq⟩ := ownsRow_succ hown
                subst hvq
                have G7 := (hgr.block w1.heap.size hbl (fun e => by have := (F7.out.2.1.lt _ e.symm).1; omega)).trans F7.out.1
                have hB7 : Below w1.heap.size w1 w7 := F7.out.2.2.1.grown hgr F7.out.2.2.1.size (fun q hq => by have := (F7.out.2.1.lt q hq).1; omega)
                have O7 := Lib.hid (show w7.ownsRow (w1.heap.size + 1) 65 6 (.slice (some ⟨gq, 0, none⟩) (k + 1) cq) (k + 1) (((l.take (k + 1)).map kB).flatMap e6) from by rw [hT.out]; exact hown)
                have G8 := Lib.hid (block_set G7 (j := 5) (.slice (some ⟨gq, 0, none⟩) (k + 1) cq))
                have B8 := Lib.hid (hB7.setCell (p := ⟨w1.heap.size, 5, none⟩) (Nat.le_refl _) (.slice (some ⟨gq, 0, none⟩) (k + 1) cq))
                have O8 := Lib.hid (ownsRow_keep O7.out ((Keep.refl (fun q => q = w1.heap.size) w7).setCell (p := ⟨w1.heap.size, 5, none⟩) (.inl rfl) (.slice (some ⟨gq, 0, none⟩) (k + 1) cq)) (fun q hq e => by have := (O7.out.lt q hq).1; omega))
                have ck := block_cell (j := 5) G7 rfl
                have fk := block_free (j := 5) G7
                clear hown hgr N9 hbl
                refine hK9.out _ _ trivial (fun hHeld => ?_)
                clear hK9 K9
                try simp only [Act.put, List.setIfInBounds_toArray, List.set_cons_zero, List.set_cons_succ]
                refine wpAnyH_take (i := 10) (oi := ⟨_, _, _, _, _, _⟩) (v := ?_) rfl (by kernel_rfl) (by kernel_rfl) (by kernel_rfl) (fun _ _ _ h => h) (Or.inl ⟨by rfl, ?_⟩) (by assumption) ?_
                rotate_left
                · intro w' hSw; (try dsimp only at hSw); go_simp; (try with_reducible rfl)
                try simp only [Act.put, List.setIfInBounds_toArray, List.set_cons_zero, List.set_cons_succ]
                refine wpAnyH_ready (rs := [11]) (by kernel_rfl) (by simp) ?_
                refine AllReadyH.cons (o := ⟨_, _, _, _, _, _⟩) rfl (fun K9 hK9 => ?_) (AllReadyH.nil)
                · go_simp
                  go_wp2_with fail
                  clear ck fk G7 hB7
                  generalize w7.setCell ⟨w1.heap.size, 5, none⟩ (.slice (some ⟨gq, 0, none⟩) (k + 1) cq) = w8 at G8 B8 O8 ⊢
                  refine hK9.out _ _ trivial (fun hHeld => ?_)
                  clear hK9 K9
                  try simp only [Act.put, List.setIfInBounds_toArray, List.set_cons_zero, List.set_cons_succ]
                  refine wpAnyH_done (by kernel_rfl) ?_ _
                  have lb2 := HLB.out _ (B1.out.trans (B8.out.mono B1.out.size))
                  obtain ⟨a2, ha2, lb⟩ := lb2
                  obtain rfl := Option.some.inj ha2
                  rcases hS.out with ⟨h0, hs1⟩ | ⟨h0, hs1⟩
                  · have hd : ¬ (stI l true k < 0) := by omega
                    generalize stI l true k = st at *
                    have HS1 := Lib.hid hs1
                    clear hs1
                    go_wp2_with fail
                    exact ⟨⟨k + 1, by omega, by go_num, by rw [HS1.out], _, G8, O8, B8⟩, by simp [intOf]; omega⟩
                  · rw [h0]
                    have HS1 := Lib.hid hs1
                    clear hs1 h0
                    cases b
                    · go_wp2_with fail
                      exact ⟨⟨k + 1, by omega, by go_num, by rw [HS1.out]; rfl, _, G8, O8, B8⟩, by simp [intOf]; omega⟩
                    · go_wp2_with fail
                      exact ⟨⟨k + 1, by omega, by go_num, by rw [HS1.out]; rfl, _, G8, O8, B8⟩, by simp [intOf]; omega⟩
          · go_simp
            go_wp2_with fail
            have F4 := Lib.hid (facts_below F2.out ((Below.refl (vv1).heap.size (vv1)).alloc (Nat.le_refl _) (.cells #[.int .i64 1, .int .i64 2, .int .i64 0, .string (sB b), .string ⟨#[]⟩, .slice none 0 0] 65)))
            have E5 := Lib.hid (heap_alloc_new (vv1) (.cells #[.int .i64 1, .int .i64 2, .int .i64 0, .string (sB b), .string ⟨#[]⟩, .slice none 0 0] 65))
            generalize (vv1).alloc (.cells #[.int .i64 1, .int .i64 2, .int .i64 0, .string (sB b), .string ⟨#[]⟩, .slice none 0 0] 65) = vv3 at F4 E5 ⊢
            refine hK9.out _ _ trivial (fun hHeld => ?_)
            clear hK9 K9
            try simp only [Act.put, List.setIfInBounds_toArray, List.set_cons_zero, List.set_cons_succ]
            refine wpAnyH_ready (rs := [1]) (by kernel_rfl) (by simp) ?_
            refine AllReadyH.cons (o := ⟨_, _, _, _, _, _⟩) rfl (fun K9 hK9 => ?_) (AllReadyH.nil)
            · have ck := block_cell (j := 5) F4.out.1 rfl
              go_simp
              go_wp2_with fail
              clear ck
              refine hK9.out _ _ trivial (fun hHeld => ?_)
              clear hK9 K9
              try simp only [Act.put, List.setIfInBounds_toArray, List.set_cons_zero, List.set_cons_succ]
              refine wpAnyH_ready (rs := [9]) (by kernel_rfl) (by simp) ?_
              refine AllReadyH.cons (o := ⟨_, _, _, _, _, _⟩) rfl (fun K9 hK9 => ?_) (AllReadyH.nil)
              · have N9 : ∀ j u, (e6 (kB b))[j]? = some u → (vv3).cell? ((⟨(vv1).heap.size, 0, none⟩ : Addr).add j) = some u := fun j u hu => by
                  rw [show (⟨(vv1).heap.size, 0, none⟩ : Addr).add j = ⟨(vv1).heap.size, j, none⟩ by simp [Addr.add]; omega]
                  exact block_cell E5.out (by have hu2 : ([.int .i64 1, .int .i64 2, .int .i64 0, .string (sB b), .string ⟨#[]⟩, .slice none 0 0] : List Value)[j]? = some u := hu; simpa using hu2)
                have hbl := (Array.getElem?_eq_some_iff.1 F4.out.1).1
                refine step_own rfl (.tmp 26) (.tmp 33) 63 rfl (w1.heap.size + 1) 65 i0 z6 6 80 Tryz.underlying63 hi hz0 hz1 hz2 rfl (by decide) _ k _ rfl F4.out.2.1 ⟨(vv1).heap.size, 0, none⟩ 1 1 (e6 (kB b)) rfl rfl N9 (by have := e6_flat [kB b]; simpa using this) (by unfold maxLen; omega) (by omega) (by omega) ?_
                intro v' w7 hown hgr
                obtain ⟨gq, cq, hvq⟩ := ownsRow_succ hown
                subst hvq
                have G7 := (hgr.block w1.heap.size hbl (fun e => by have := (F4.out.2.1.lt _ e.symm).1; omega)).trans F4.out.1
                have hB7 : Below w1.heap.size w1 w7 := F4.out.2.2.1.grown hgr F4.out.2.2.1.size (fun q hq => by have := (F4.out.2.1.lt q hq).1; omega)
                have O7 := Lib.hid (show w7.ownsRow (w1.heap.size + 1) 65 6 (.slice (some ⟨gq, 0, none⟩) (k + 1) cq) (k + 1) (((l.take (k + 1)).map kB).flatMap e6) from by rw [hT.out]; exact hown)
                have G8 := Lib.hid (block_set G7 (j := 5) (.slice (some ⟨gq, 0, none⟩) (k + 1) cq))
                have B8 := Lib.hid (hB7.setCell (p := ⟨w1.heap.size, 5, none⟩) (Nat.le_refl _) (.slice (some ⟨gq, 0, none⟩) (k + 1) cq))
                have O8 := Lib.hid (ownsRow_keep O7.out ((Keep.refl (fun q => q = w1.heap.size) w7).setCell (p := ⟨w1.heap.size, 5, none⟩) (.inl rfl) (.slice (some ⟨gq, 0, none⟩) (k + 1) cq)) (fun q hq e => by have := (O7.out.lt q hq).1; omega))
                have ck := block_cell (j := 5) G7 rfl
                have fk := block_free (j := 5) G7
                clear hown hgr N9 hbl
                refine hK9.out _ _ trivial (fun hHeld => ?_)
                clear hK9 K9
                try simp only [Act.put, List.setIfInBounds_toArray, List.set_cons_zero, List.set_cons_succ]
                refine wpAnyH_take (i := 10) (oi := ⟨_, _, _, _, _, _⟩) (v := ?_) rfl (by kernel_rfl) (by kernel_rfl) (by kernel_rfl) (fun _ _ _ h => h) (Or.inl ⟨by rfl, ?_⟩) (by assumption) ?_
                rotate_left
                · intro w' hSw; (try dsimp only at hSw); go_simp; (try with_reducible rfl)
                try simp only [Act.put, List.setIfInBounds_toArray, List.set_cons_zero, List.set_cons_succ]
                refine wpAnyH_ready (rs := [11]) (by kernel_rfl) (by simp) ?_
                refine AllReadyH.cons (o := ⟨_, _, _, _, _, _⟩) rfl (fun K9 hK9 => ?_) (AllReadyH.nil)
                · go_simp
                  go_wp2_with fail
                  clear ck fk G7 hB7
                  generalize w7.setCell ⟨w1.heap.size, 5, none⟩ (.slice (some ⟨gq, 0, none⟩) (k + 1) cq) = w8 at G8 B8 O8 ⊢
                  refine hK9.out _ _ trivial (fun hHeld => ?_)
                  clear hK9 K9
                  try simp only [Act.put, List.setIfInBounds_toArray, List.set_cons_zero, List.set_cons_succ]
                  refine wpAnyH_done (by kernel_rfl) ?_ _
                  have lb2 := HLB.out _ (B1.out.trans (B8.out.mono B1.out.size))
                  obtain ⟨a2, ha2, lb⟩ := lb2
                  obtain rfl := Option.some.inj ha2
                  rcases hS.out with ⟨h0, hs1⟩ | ⟨h0, hs1⟩
                  · have hd : ¬ (stI l true k < 0) := by omega
                    generalize stI l true k = st at *
                    have HS1 := Lib.hid hs1
                    clear hs1
                    go_wp2_with fail
                    exact ⟨⟨k + 1, by omega, by go_num, by rw [HS1.out], _, G8, O8, B8⟩, by simp [intOf]; omega⟩
                  · rw [h0]
                    have HS1 := Lib.hid hs1
                    clear hs1 h0
                    cases b
                    · go_wp2_with fail
                      exact ⟨⟨k + 1, by omega, by go_num, by rw [HS1.out]; rfl, _, G8, O8, B8⟩, by simp [intOf]; omega⟩
                    · go_wp2_with fail
                      exact ⟨⟨k + 1, by omega, by go_num, by rw [HS1.out]; rfl, _, G8, O8, B8⟩, by simp [intOf]; omega⟩
    · obtain rfl : k = l.length := by omega
      have hT2 : Hid ((l.map kB ++ [exNone]).flatMap e6 = (l.map kB).flatMap e6 ++ e6 exNone) := Lib.hid (by rw [List.flatMap_append]; simp)
      have ck := block_cell (j := 5) hG.out rfl
      have b9 := (Below.refl wr.heap.size wr).alloc (Nat.le_refl _) (.cells #[.int .i64 2, .int .i64 0, .int .i64 0, .string ⟨#[]⟩, .string ⟨#[110, 111, 110, 101]⟩, .slice none 0 0] 65)
      have O9 := Lib.hid (hO.out.alloc (.cells #[.int .i64 2, .int .i64 0, .int .i64 0, .string ⟨#[]⟩, .string ⟨#[110, 111, 110, 101]⟩, .slice none 0 0] 65))
      have hg9 := keepB hG.out b9
      have hB9 : Below w1.heap.size w1 (wr.alloc (.cells #[.int .i64 2, .int .i64 0, .int .i64 0, .string ⟨#[]⟩, .string ⟨#[110, 111, 110, 101]⟩, .slice none 0 0] 65)) := hB.out.trans (b9.mono hB.out.size)
      have HG9 := Lib.hid hg9
      have HB9 := Lib.hid hB9
      have hbl := Lib.hid (Array.getElem?_eq_some_iff.1 hG.out).1
      have N9 : Hid (∀ j u, (e6 exNone)[j]? = some u → (wr.alloc (.cells #[.int .i64 2, .int .i64 0, .int .i64 0, .string ⟨#[]⟩, .string ⟨#[110, 111, 110, 101]⟩, .slice none 0 0] 65)).cell? ((⟨wr.heap.size, 0, none⟩ : Addr).add j) = some u) := Lib.hid (fun j u hu => by
        rw [show (⟨wr.heap.size, 0, none⟩ : Addr).add j = ⟨wr.heap.size, j, none⟩ by simp [Addr.add]; omega]
        exact block_cell (heap_alloc_new wr _) (by have hu2 : ([.int .i64 2, .int .i64 0, .int .i64 0, .string ⟨#[]⟩, .string ⟨#[110, 111, 110, 101]⟩, .slice none 0 0] : List Value)[j]? = some u := hu; simpa using hu2))
      clear b9 hg9 hB9
      go_wp2_with (at_builtin; refine wpList_append_own _ rfl (.tmp 48) (.tmp 50) 63 rfl (w1.heap.size + 1) 65 i0 z6 6 80 Tryz.underlying63 hi hz0 hz1 hz2 rfl (by decide) _ l.length _ rfl O9.out ⟨wr.heap.size, 0, none⟩ 1 1 (e6 exNone) rfl rfl N9.out (by have := e6_flat [exNone]; simpa using this) (by unfold maxLen; omega) (by omega) (by have := hbl.out; simp; omega) ?_)
      intro v' w7 hown hgr _
      obtain ⟨gq, cq, hvq⟩ := ownsRow_succ hown
      subst hvq
      have hbl2 : w1.heap.size < (wr.alloc (.cells #[.int .i64 2, .int .i64 0, .int .i64 0, .string ⟨#[]⟩, .string ⟨#[110, 111, 110, 101]⟩, .slice none 0 0] 65)).heap.size := by have := hbl.out; simp; omega
      have G7 := (hgr.block w1.heap.size hbl2 (fun e => by have := (O9.out.lt _ e.symm).1; omega)).trans HG9.out
      have hB7 : Below w1.heap.size w1 w7 := HB9.out.grown hgr HB9.out.size (fun q hq => by have := (O9.out.lt q hq).1; omega)
      have O7 := Lib.hid (show w7.ownsRow (w1.heap.size + 1) 65 6 (.slice (some ⟨gq, 0, none⟩) (l.length + 1) cq) (l.length + 1) ((l.map kB ++ [exNone]).flatMap e6) from by rw [hT2.out]; exact hown)
      have G8 := Lib.hid (block_set G7 (j := 5) (.slice (some ⟨gq, 0, none⟩) (l.length + 1) cq))
      have B8 := Lib.hid (hB7.setCell (p := ⟨w1.heap.size, 5, none⟩) (Nat.le_refl _) (.slice (some ⟨gq, 0, none⟩) (l.length + 1) cq))
      have O8 := Lib.hid (ownsRow_keep O7.out ((Keep.refl (fun q => q = w1.heap.size) w7).setCell (p := ⟨w1.heap.size, 5, none⟩) (.inl rfl) (.slice (some ⟨gq, 0, none⟩) (l.length + 1) cq)) (fun q hq e => by have := (O7.out.lt q hq).1; omega))
      have ck7 := block_cell (j := 5) G7 rfl
      have fk7 := block_free (j := 5) G7
      clear hown hgr ck hbl2
      obtain ⟨w8, hw8⟩ : ∃ w8, w7.setCell ⟨w1.heap.size, 5, none⟩ (.slice (some ⟨gq, 0, none⟩) (l.length + 1) cq) = w8 := ⟨_, rfl⟩
      have G8 : Hid (w8.heap[w1.heap.size]? = some (.cells #[.int .i64 7, .int .i64 0, .int .i64 0, .string ⟨#[]⟩, .string ⟨#[]⟩, .slice (some ⟨gq, 0, none⟩) (l.length + 1) cq] 65 (0, 0))) := Lib.hid (hw8 ▸ G8.out)
      have B8 : Hid (Below w1.heap.size w1 w8) := Lib.hid (hw8 ▸ B8.out)
      have O8 : Hid (w8.ownsRow (w1.heap.size + 1) 65 6 (.slice (some ⟨gq, 0, none⟩) (l.length + 1) cq) (l.length + 1) ((l.map kB ++ [exNone]).flatMap e6)) := Lib.hid (hw8 ▸ O8.out)
      have hm9 := heap_alloc_new w8 (.cells #[.slice none 0 0, .slice none 0 0, .int .i64 100] 61)
      have b9 := (Below.refl w8.heap.size w8).alloc (Nat.le_refl _) (.cells #[.slice none 0 0, .slice none 0 0, .int .i64 100] 61)
      have G9 := keepB G8.out b9
      have B9 := Lib.hid (B8.out.trans (b9.mono B8.out.size))
      have hz9 : (w8.alloc (.cells #[.slice none 0 0, .slice none 0 0, .int .i64 100] 61)).heap.size = w8.heap.size + 1 := by simp
      have hEx : ExAt (fun k => k = w8.heap.size) (w8.alloc (.cells #[.slice none 0 0, .slice none 0 0, .int .i64 100] 61)) (shortE l true) (some ⟨gq, 0, none⟩) := by
        rcases O8.out.2 with ⟨h0, _⟩ | ⟨g', cap', cur', e', hg1, hg2, _, _, _, hg4⟩
        · cases h0
        · injection e' with e1 e2 e3
          injection e1 with e1
          injection e1 with e1 _ _
          subst e1
          have hl8 := (Array.getElem?_eq_some_iff.1 hg2).1
          refine leaves_own (keepB hg2 b9) hg4 (by omega) (fun e he => ?_)
          rw [List.mem_append] at he
          rcases he with he | he
          · obtain ⟨b, _, rfl⟩ := List.mem_map.1 he; rfl
          · simp only [List.mem_singleton] at he; subst he; rfl
      have XO := Xm_ok w8.heap.size none 0 [] w HT.out (Nat.le_trans B1.out.size B8.out.size) ⟨by simp, fun b hb => by cases hb⟩
      have hAt : At (Xm w8.heap.size none 0 []) (w8.alloc (.cells #[.slice none 0 0, .slice none 0 0, .int .i64 100] 61)) 100 := ⟨hm9, fun i hi => by simp at hi, BindsAt.nil _ _ _, HT.out.b (B1.out.trans (B9.out.mono B1.out.size)), by omega, fun k e => by have e : k = w8.heap.size := e; omega⟩
      have hEV := short_ev l true H30.out
      have hkl : (shortE l true).kids.length = l.length + 1 := by simp [shortE, Ex.kids]
      have EVC := fun r hr => Eval_c XO (shortE l true) (some ⟨gq, 0, none⟩) cq [] none 0 100 r _ hr hAt (BindsAt.nil _ _ _) hEx (short_good l true H30.out) ⟨by simp, fun b hb => by cases hb⟩
      unfold exV at EVC
      rw [hkl] at EVC
      have E0 := block_cell (j := 0) G9 rfl
      have E1 := block_cell (j := 1) G9 rfl
      have E2 := block_cell (j := 2) G9 rfl
      have E3 := block_cell (j := 3) G9 rfl
      have E4 := block_cell (j := 4) G9 rfl
      have E5 := block_cell (j := 5) G9 rfl
      have hgz : w1.heap.size < w8.heap.size := (Array.getElem?_eq_some_iff.1 G8.out).1
      have HGZ := Lib.hid hgz
      clear G9 hm9 b9 hEx XO hAt hkl hz9
      generalize hw9 : w8.alloc (.cells #[.slice none 0 0, .slice none 0 0, .int .i64 100] 61) = w9 at EVC B9 E0 E1 E2 E3 E4 E5
      have hst : stI l true l.length = match stopO l true with
        | some j => (j : Int)
        | none => -1 := by unfold stI; rw [List.take_length]
      rw [hst]
      cases hso : stopO l true with
      | some i =>
        rw [hso] at hEV
        dsimp only at hEV
        have EV := Lib.hid (EVC _ hEV)
        have hi30 : i < l.length := by
          unfold stopO at hso
          rw [List.findIdx?_eq_some_iff_getElem] at hso
          exact hso.1
        have hiI : (i : Int) ≤ 29 := by omega
        clear EVC hEV hst hso
        go_wp2_with fail
        refine EV.out.mono ?_
        rintro z w10 ⟨rfl, m10, k10⟩
        have b11 := (Below.refl w10.heap.size w10).alloc (Nat.le_refl _) (.cells #[.int .i64 2, .int .i64 0, .string (sB true)] 26)
        have hn11 := heap_alloc_new w10 (.cells #[.int .i64 2, .int .i64 0, .string (sB true)] 26)
        have M11 := m10.below b11
        have K11 := Lib.hid (KM.bel k10 b11)
        clear m10 k10 E0 E1 E2 E3 E4 E5
        go_wp2_with fail
        generalize w10.alloc (.cells #[.int .i64 2, .int .i64 0, .string (sB true)] 26) = w11 at hn11 M11 K11 ⊢
        have hfu : (((98 - i : Nat)) : Int) = 98 - (i : Int) := by omega
        have hu11 : w11.heap[w8.heap.size]? = some (.cells #[.slice none 0 0, .slice none 0 0, .int .i64 (98 - (i : Int))] 61 (0, 0)) := by have := M11; unfold FuelAt MachAt at this; rw [hfu] at this; exact this
        have HN11 := Lib.hid hn11
        have HU11 := Lib.hid hu11
        have HS : Hid (∀ W, Below w11.heap.size w11 W → (fun W => Below w11.heap.size w11 W ∧ W.cell? ⟨w10.heap.size, 0, none⟩ = some (.int .i64 2) ∧ W.cell? ⟨w10.heap.size, 1, none⟩ = some (.int .i64 0) ∧ W.cell? ⟨w10.heap.size, 2, none⟩ = some (.string (sB true)) ∧ W.cell? ⟨w8.heap.size, 2, none⟩ = some (.int .i64 (98 - (i : Int)))) W) := Lib.hid (fun W h => by
          have x := keepB HN11.out h
          have y := keepB HU11.out h
          exact ⟨h, block_cell x rfl, block_cell x rfl, block_cell x rfl, block_cell y rfl⟩)
        have D11 : Below w11.heap.size w11 w11.drew := ⟨rfl, rfl, rfl, Nat.le_refl _, fun _ _ => rfl⟩
        have SM : Hid (∀ W, Calls Tryz.prog 17 #[.agg #[.int .i64 2, .int .i64 0, .string (sB true)], .agg #[.int .i64 2, .int .i64 0, .string (sB true)]] W fun e w' => e = .returned (.bool true) ∧ Below W.heap.size W w') := Lib.hid (fun W => by have := rsame_c (vB true) (vB true) W; rwa [decide_eq_true rfl] at this)
        have hwr : IntKind.i64.wrap (98 - (i : Int)) = 98 - (i : Int) := IntWalk.i64_in _ (by omega)
        clear hn11 M11 hfu hu11
        refine wp_region_held_drew (S := (fun W => Below w11.heap.size w11 W ∧ W.cell? ⟨w10.heap.size, 0, none⟩ = some (.int .i64 2) ∧ W.cell? ⟨w10.heap.size, 1, none⟩ = some (.int .i64 0) ∧ W.cell? ⟨w10.heap.size, 2, none⟩ = some (.string (sB true)) ∧ W.cell? ⟨w8.heap.size, 2, none⟩ = some (.int .i64 (98 - (i : Int))))) (by kernel_rfl) (HS.out _ D11) (fun hHeld => ?_)
        refine wpAnyH_take (i := 0) (oi := ⟨_, _, _, _, _, _⟩) (v := ?_) rfl (by kernel_rfl) (by kernel_rfl) (by kernel_rfl) (fun _ _ _ h => h) (Or.inl ⟨by rfl, ?_⟩) (by assumption) ?_
        rotate_left
        · intro w' hSw; (try dsimp only at hSw); go_simp; (try with_reducible rfl)
        try simp only [Act.put, List.setIfInBounds_toArray, List.set_cons_zero, List.set_cons_succ]
        refine wpAnyH_take (i := 1) (oi := ⟨_, _, _, _, _, _⟩) (v := ?_) rfl (by kernel_rfl) (by kernel_rfl) (by kernel_rfl) (fun _ _ _ h => h) (Or.inl ⟨by rfl, ?_⟩) (by assumption) ?_
        rotate_left
        · intro w' hSw; (try dsimp only at hSw); go_simp; (try with_reducible rfl)
        try simp only [Act.put, List.setIfInBounds_toArray, List.set_cons_zero, List.set_cons_succ]
        refine wpAnyH_take (i := 2) (oi := ⟨_, _, _, _, _, _⟩) (v := ?_) rfl (by kernel_rfl) (by kernel_rfl) (by kernel_rfl) (fun _ _ _ h => h) (Or.inl ⟨by rfl, ?_⟩) (by assumption) ?_
        rotate_left
        · intro w' hSw; (try dsimp only at hSw); go_simp; (try with_reducible rfl)
        try simp only [Act.put, List.setIfInBounds_toArray, List.set_cons_zero, List.set_cons_succ]
        refine wpAnyH_take (i := 3) (oi := ⟨_, _, _, _, _, _⟩) (v := ?_) rfl (by kernel_rfl) (by kernel_rfl) (by kernel_rfl) (fun _ _ _ h => h) (Or.inl ⟨by rfl, ?_⟩) (by assumption) ?_
        rotate_left
        · intro w' hSw; (try dsimp only at hSw); go_simp; (try with_reducible rfl)
        try simp only [Act.put, List.setIfInBounds_toArray, List.set_cons_zero, List.set_cons_succ]
        refine wpAnyH_take (i := 4) (oi := ⟨_, _, _, _, _, _⟩) (v := ?_) rfl (by kernel_rfl) (by kernel_rfl) (by kernel_rfl) (fun _ _ _ h => h) (Or.inl ⟨by rfl, ?_⟩) (by assumption) ?_
        rotate_left
        · intro w' hSw; (try dsimp only at hSw); go_simp; (try with_reducible rfl)
        try simp only [Act.put, List.setIfInBounds_toArray, List.set_cons_zero, List.set_cons_succ]
        refine wpAnyH_ready (rs := [5]) (by kernel_rfl) (by simp) ?_
        refine AllReadyH.cons (o := ⟨_, _, _, _, _, _⟩) rfl (fun K9 hK9 => ?_) AllReadyH.nil
        go_simp
        (with_reducible refine ((belowW (W0 := w11) hHeld.1 (rBool_c true _))).mono ?_)
        rintro e u1 ⟨rfl, m1⟩
        have M1 := Lib.hid m1
        clear m1
        go_wp2_with fail
        refine hK9.out _ _ (HS.out _ M1.out) (fun hHeld => ?_)
        clear hK9 K9
        try simp only [Act.put, List.setIfInBounds_toArray, List.set_cons_zero, List.set_cons_succ]
        refine wpAnyH_ready (rs := [6]) (by kernel_rfl) (by simp) ?_
        refine AllReadyH.cons (o := ⟨_, _, _, _, _, _⟩) rfl (fun K9 hK9 => ?_) AllReadyH.nil
        go_simp
        (with_reducible refine ((belowW (W0 := w11) hHeld.1 (SM.out _))).mono ?_)
        rintro e u2 ⟨rfl, m2⟩
        have M2 := Lib.hid m2
        clear m2
        go_wp2_with fail
        refine hK9.out _ _ (HS.out _ M2.out) (fun hHeld => ?_)
        clear hK9 K9
        try simp only [Act.put, List.setIfInBounds_toArray, List.set_cons_zero, List.set_cons_succ]
        refine wpAnyH_take (i := 7) (oi := ⟨_, _, _, _, _, _⟩) (v := ?_) rfl (by kernel_rfl) (by kernel_rfl) (by kernel_rfl) (fun _ _ _ h => h) (Or.inl ⟨by rfl, ?_⟩) (by assumption) ?_
        rotate_left
        · intro w' hSw; (try dsimp only at hSw); go_simp; (try with_reducible rfl)
        try simp only [Act.put, List.setIfInBounds_toArray, List.set_cons_zero, List.set_cons_succ]
        refine wpAnyH_take (i := 8) (oi := ⟨_, _, _, _, _, _⟩) (v := ?_) rfl (by kernel_rfl) (by kernel_rfl) (by kernel_rfl) (fun _ _ _ h => h) (Or.inl ⟨by rfl, ?_⟩) (by assumption) ?_
        rotate_left
        · intro w' hSw; (try dsimp only at hSw); go_simp; (try with_reducible rfl)
        try simp only [Act.put, List.setIfInBounds_toArray, List.set_cons_zero, List.set_cons_succ]
        refine wpAnyH_take (i := 9) (oi := ⟨_, _, _, _, _, _⟩) (v := ?_) rfl (by kernel_rfl) (by kernel_rfl) (by kernel_rfl) (fun _ _ _ h => h) (Or.inl ⟨by rfl, ?_⟩) (by assumption) ?_
        rotate_left
        · intro w' hSw; (try dsimp only at hSw); go_simp; (try with_reducible rfl)
        try simp only [Act.put, List.setIfInBounds_toArray, List.set_cons_zero, List.set_cons_succ]
        refine wpAnyH_take (i := 10) (oi := ⟨_, _, _, _, _, _⟩) (v := ?_) rfl (by kernel_rfl) (by kernel_rfl) (by kernel_rfl) (fun _ _ _ h => h) (Or.inl ⟨by rfl, ?_⟩) (by assumption) ?_
        rotate_left
        · intro w' hSw; (try dsimp only at hSw); go_simp; (try with_reducible rfl)
        try simp only [Act.put, List.setIfInBounds_toArray, List.set_cons_zero, List.set_cons_succ]
        refine wpAnyH_take (i := 11) (oi := ⟨_, _, _, _, _, _⟩) (v := ?_) rfl (by kernel_rfl) (by kernel_rfl) (by kernel_rfl) (fun _ _ _ h => h) (Or.inl ⟨by rfl, ?_⟩) (by assumption) ?_
        rotate_left
        · intro w' hSw; (try dsimp only at hSw); go_simp; (try with_reducible rfl)
        try simp only [Act.put, List.setIfInBounds_toArray, List.set_cons_zero, List.set_cons_succ]
        refine wpAnyH_take (i := 12) (oi := ⟨_, _, _, _, _, _⟩) (v := ?_) rfl (by kernel_rfl) (by kernel_rfl) (by kernel_rfl) (fun _ _ _ h => h) (Or.inl ⟨by rfl, ?_⟩) (by assumption) ?_
        rotate_left
        · intro w' hSw; (try dsimp only at hSw); go_simp; (try with_reducible rfl)
        try simp only [Act.put, List.setIfInBounds_toArray, List.set_cons_zero, List.set_cons_succ]
        refine wpAnyH_take (i := 13) (oi := ⟨_, _, _, _, _, _⟩) (v := ?_) rfl (by kernel_rfl) (by kernel_rfl) (by kernel_rfl) (fun _ _ _ h => h) (Or.inl ⟨by rfl, ?_⟩) (by assumption) ?_
        rotate_left
        · intro w' hSw; (try dsimp only at hSw); go_simp; (try with_reducible rfl)
        try simp only [Act.put, List.setIfInBounds_toArray, List.set_cons_zero, List.set_cons_succ]
        refine wpAnyH_take (i := 14) (oi := ⟨_, _, _, _, _, _⟩) (v := ?_) rfl (by kernel_rfl) (by kernel_rfl) (by kernel_rfl) (fun _ _ _ h => h) (Or.inl ⟨by rfl, ?_⟩) (by assumption) ?_
        rotate_left
        · intro w' hSw; (try dsimp only at hSw); go_simp; (try with_reducible rfl)
        try simp only [Act.put, List.setIfInBounds_toArray, List.set_cons_zero, List.set_cons_succ]
        refine wpAnyH_take (i := 15) (oi := ⟨_, _, _, _, _, _⟩) (v := ?_) rfl (by kernel_rfl) (by kernel_rfl) (by kernel_rfl) (fun _ _ _ h => h) (Or.inl ⟨by rfl, ?_⟩) (by assumption) ?_
        rotate_left
        · intro w' hSw; (try dsimp only at hSw); go_simp; (try with_reducible rfl)
        try simp only [Act.put, List.setIfInBounds_toArray, List.set_cons_zero, List.set_cons_succ]
        refine wpAnyH_take (i := 16) (oi := ⟨_, _, _, _, _, _⟩) (v := ?_) rfl (by kernel_rfl) (by kernel_rfl) (by kernel_rfl) (fun _ _ _ h => h) (Or.inl ⟨by rfl, ?_⟩) (by assumption) ?_
        rotate_left
        · intro w' hSw; (try dsimp only at hSw); go_simp; (try with_reducible rfl)
        try simp only [Act.put, List.setIfInBounds_toArray, List.set_cons_zero, List.set_cons_succ]
        refine wpAnyH_take (i := 17) (oi := ⟨_, _, _, _, _, _⟩) (v := ?_) rfl (by kernel_rfl) (by kernel_rfl) (by kernel_rfl) (fun _ _ _ h => h) (Or.inl ⟨by rfl, ?_⟩) (by assumption) ?_
        rotate_left
        · intro w' hSw; (try dsimp only at hSw); go_simp; (try with_reducible rfl)
        try simp only [Act.put, List.setIfInBounds_toArray, List.set_cons_zero, List.set_cons_succ]
        refine wpAnyH_take (i := 18) (oi := ⟨_, _, _, _, _, _⟩) (v := ?_) rfl (by kernel_rfl) (by kernel_rfl) (by kernel_rfl) (fun _ _ _ h => h) (Or.inl ⟨by rfl, ?_⟩) (by assumption) ?_
        rotate_left
        · intro w' hSw; (try dsimp only at hSw); go_simp; (try with_reducible rfl)
        try simp only [Act.put, List.setIfInBounds_toArray, List.set_cons_zero, List.set_cons_succ]
        refine wpAnyH_done (by kernel_rfl) ?_ _
        have EM := Lib.hid hHeld.1
        clear hHeld
        go_wp2_with fail
        go_ret
        exact ⟨rfl, B1.out.trans ((B9.out.mono B1.out.size).trans ((Keep.below K11.out (N := w.heap.size) (by have := B1.out.size; have := B9.out.size; omega) (fun q e => by have e : q = w8.heap.size := e; have := B1.out.size; have := HGZ.out; omega)).trans (EM.out.mono (by have := B1.out.size; have := B9.out.size; have := K11.out.size; omega))))⟩
      | none =>
        rw [hso] at hEV
        dsimp only at hEV
        have EV := Lib.hid (EVC _ hEV)
        clear EVC hEV hst hso
        go_wp2_with fail
        refine EV.out.mono ?_
        rintro z w10 ⟨rfl, m10, k10⟩
        have b11 := (Below.refl w10.heap.size w10).alloc (Nat.le_refl _) (.cells #[.int .i64 0, .int .i64 0, .string ⟨#[]⟩] 26)
        have cu := (m10.below b11).u
        rw [show (((98 - l.length : Nat)) : Int) = 98 - (l.length : Int) by omega] at cu
        have K11 := Lib.hid (KM.bel k10 b11)
        clear m10 k10 b11 E0 E1 E2 E3 E4 E5
        go_wp2_with fail
        go_ret
        exact ⟨rfl, B1.out.trans ((B9.out.mono B1.out.size).trans (Keep.below K11.out (N := w.heap.size) (by have := B1.out.size; have := B9.out.size; omega) (fun q e => by have e : q = w8.heap.size := e; have := B1.out.size; have := HGZ.out; omega)))⟩
set_option maxRecDepth 100000 in
set_option maxHeartbeats 8000000 in
theorem short_false (A : Option Addr) (c : Nat) (l : List Bool) (w : World) (ht : Tab w) (h30 : l.length ≤ 30) (hL : ∀ k (h : k < l.length), ∃ a, A = some a ∧ w.cell? (a.add k) = some (.bool l[k])) :
    Calls Tryz.prog 7 #[.slice A l.length c, .bool false] w fun e w' => e = .returned (.bool true) ∧ Below w.heap.size w w' := by
  obtain ⟨i0, hi, hz0, hz1, hz2⟩ := info_parts infoE
  have HT := Lib.hid ht
  have HL := Lib.hid (fun W (h : Below w.heap.size w W) k (hk : k < l.length) => (show ∃ a, A = some a ∧ W.cell? (a.add k) = some (.bool l[k]) from by
    obtain ⟨a, e, hc⟩ := hL k hk
    exact ⟨a, e, (h.cell (World.block_lt_of_cell? _ _ hc)).trans hc⟩))
  have hlI : (l.length : Int) ≤ 30 := by omega
  have H30 := Lib.hid h30
  clear ht h30 hL
  go_enter Tryz.func7, Tryz.ntmps7
  go_wp2_with fail
  refine (known8 w HT.out).mono ?_
  rintro e w1 ⟨rfl, q1⟩
  have B1 := Lib.hid q1
  have G2 := Lib.hid (heap_alloc_new w1 (.cells #[.int .i64 6, .int .i64 0, .int .i64 0, .string ⟨#[]⟩, .string ⟨#[]⟩, .slice none 0 0] 65))
  have B2 := Lib.hid ((Below.refl w1.heap.size w1).alloc (Nat.le_refl _) (.cells #[.int .i64 6, .int .i64 0, .int .i64 0, .string ⟨#[]⟩, .string ⟨#[]⟩, .slice none 0 0] 65))
  clear q1
  go_wp2_with fail
  generalize w1.alloc (.cells #[.int .i64 6, .int .i64 0, .int .i64 0, .string ⟨#[]⟩, .string ⟨#[]⟩, .slice none 0 0] 65) = w2 at G2 B2 ⊢
  go_loopw [6, 7] (fun s i wr => ∃ k : Nat, k ≤ l.length ∧ i = .int .i64 k ∧ s = .int .i64 (stI l false k) ∧ ∃ v, Hid (wr.heap[w1.heap.size]? = some (.cells #[.int .i64 6, .int .i64 0, .int .i64 0, .string ⟨#[]⟩, .string ⟨#[]⟩, v] 65 (0, 0))) ∧ Hid (wr.ownsRow (w1.heap.size + 1) 65 6 v k (((l.take k).map kB).flatMap e6)) ∧ Hid (Below w1.heap.size w1 wr)) (fun _ i _ => l.length - (intOf i).toNat)
  case atStart => exact ⟨0, by omega, rfl, rfl, _, G2, Lib.hid (World.ownsRow_nil _ _ _ _), B2⟩
  case round =>
    obtain ⟨k, hk, rfl, rfl, v, hG, hO, hB⟩ := hrel
    by_cases hlt : k < l.length
    · have hltI : (k : Int) < (l.length : Int) := by omega
      have HLB := Lib.hid (fun W (h : Below w.heap.size w W) => HL.out W h k hlt)
      have hT : Hid (((l.take (k + 1)).map kB).flatMap e6 = ((l.take k).map kB).flatMap e6 ++ e6 (kB l[k])) := Lib.hid (by rw [List.take_succ_eq_append_getElem hlt, List.map_append, List.flatMap_append]; simp)
      have hS := Lib.hid (stI_succ hlt false)
      obtain ⟨a, rfl, hlb⟩ := HLB.out _ (B1.out.trans (hB.out.mono B1.out.size))
      generalize l[k] = b at *
      have F0 : Hid (FA w1 (a.add k) b 6 v k (((l.take k).map kB).flatMap e6) wr.drew) := Lib.hid (facts_below (W := wr) ⟨hG.out, hO.out, hB.out, hlb⟩ ⟨rfl, rfl, rfl, Nat.le_refl _, fun _ _ => rfl⟩)
      clear hlb
      have H1 := Lib.hid (Nat.le_refl w1.heap.size)
      go_wp2_with fail
      refine wp_region_held_drew (S := (fun _ => True)) (by kernel_rfl) trivial (fun hHeld => ?_)
      generalize wr.drew = vv0 at F0 ⊢
      refine wpAnyH_take (i := 0) (oi := ⟨_, _, _, _, _, _⟩) (v := ?_) rfl (by kernel_rfl) (by kernel_rfl) (by kernel_rfl) (fun _ _ _ h => h) (Or.inl ⟨by rfl, ?_⟩) (by assumption) ?_
      rotate_left
      · intro w' hSw; (try dsimp only at hSw); go_simp; (try with_reducible rfl)
      try simp only [Act.put, List.setIfInBounds_toArray, List.set_cons_zero, List.set_cons_succ]
      refine wpAnyH_take (i := 2) (oi := ⟨_, _, _, _, _, _⟩) (v := ?_) rfl (by kernel_rfl) (by kernel_rfl) (by kernel_rfl) (fun _ _ _ h => h) (Or.inl ⟨by rfl, ?_⟩) (by assumption) ?_
      rotate_left
      · intro w' hSw; (try dsimp only at hSw); go_simp; (try with_reducible rfl)
      try simp only [Act.put, List.setIfInBounds_toArray, List.set_cons_zero, List.set_cons_succ]
      refine wpAnyH_take (i := 3) (oi := ⟨_, _, _, _, _, _⟩) (v := ?_) rfl (by kernel_rfl) (by kernel_rfl) (by kernel_rfl) (fun _ _ _ h => h) (Or.inl ⟨by rfl, ?_⟩) (by assumption) ?_
      rotate_left
      · intro w' hSw; (try dsimp only at hSw); go_simp; (try with_reducible rfl)
      try simp only [Act.put, List.setIfInBounds_toArray, List.set_cons_zero, List.set_cons_succ]
      refine wpAnyH_take (i := 4) (oi := ⟨_, _, _, _, _, _⟩) (v := ?_) rfl (by kernel_rfl) (by kernel_rfl) (by kernel_rfl) (fun _ _ _ h => h) (Or.inl ⟨by rfl, ?_⟩) (by assumption) ?_
      rotate_left
      · intro w' hSw; (try dsimp only at hSw); go_simp; (try with_reducible rfl)
      try simp only [Act.put, List.setIfInBounds_toArray, List.set_cons_zero, List.set_cons_succ]
      refine wpAnyH_ready (rs := [1, 5]) (by kernel_rfl) (by simp) ?_
      refine AllReadyH.cons (o := ⟨_, _, _, _, _, _⟩) rfl (fun K9 hK9 => ?_) (AllReadyH.cons (o := ⟨_, _, _, _, _, _⟩) rfl (fun K9 hK9 => ?_) (AllReadyH.nil))
      · have ck := block_cell (j := 5) F0.out.1 rfl
        go_simp
        go_wp2_with fail
        clear ck
        refine hK9.out _ _ trivial (fun hHeld => ?_)
        clear hK9 K9
        try simp only [Act.put, List.setIfInBounds_toArray, List.set_cons_zero, List.set_cons_succ]
        refine wpAnyH_ready (rs := [5]) (by kernel_rfl) (by simp) ?_
        refine AllReadyH.cons (o := ⟨_, _, _, _, _, _⟩) rfl (fun K9 hK9 => ?_) (AllReadyH.nil)
        · have lb := F0.out.2.2.2
          go_simp
          go_wp2_with fail
          clear lb
          refine hK9.out _ _ trivial (fun hHeld => ?_)
          clear hK9 K9
          try simp only [Act.put, List.setIfInBounds_toArray, List.set_cons_zero, List.set_cons_succ]
          refine wpAnyH_ready (rs := [6]) (by kernel_rfl) (by simp) ?_
          refine AllReadyH.cons (o := ⟨_, _, _, _, _, _⟩) rfl (fun K9 hK9 => ?_) (AllReadyH.nil)
          · go_simp
            (with_reducible refine (rBool_c b _).mono ?_)
            rintro e vv32 ⟨rfl, q⟩
            have F33 := Lib.hid (facts_below F0.out q)
            clear q
            go_wp2_with fail
            refine hK9.out _ _ trivial (fun hHeld => ?_)
            clear hK9 K9
            try simp only [Act.put, List.setIfInBounds_toArray, List.set_cons_zero, List.set_cons_succ]
            refine wpAnyH_take (i := 7) (oi := ⟨_, _, _, _, _, _⟩) (v := ?_) rfl (by kernel_rfl) (by kernel_rfl) (by kernel_rfl) (fun _ _ _ h => h) (Or.inl ⟨by rfl, ?_⟩) (by assumption) ?_
            rotate_left
            · intro w' hSw; (try dsimp only at hSw); go_simp; (try with_reducible rfl)
            try simp only [Act.put, List.setIfInBounds_toArray, List.set_cons_zero, List.set_cons_succ]
            refine wpAnyH_ready (rs := [8]) (by kernel_rfl) (by simp) ?_
            refine AllReadyH.cons (o := ⟨_, _, _, _, _, _⟩) rfl (fun K9 hK9 => ?_) (AllReadyH.nil)
            · go_simp
              go_wp2_with fail
              have F35 := Lib.hid (facts_below F33.out ((Below.refl (vv32).heap.size (vv32)).alloc (Nat.le_refl _) (.cells #[.int .i64 1, .int .i64 2, .int .i64 0, .string (sB b), .string ⟨#[]⟩, .slice none 0 0] 65)))
              have E36 := Lib.hid (heap_alloc_new (vv32) (.cells #[.int .i64 1, .int .i64 2, .int .i64 0, .string (sB b), .string ⟨#[]⟩, .slice none 0 0] 65))
              generalize (vv32).alloc (.cells #[.int .i64 1, .int .i64 2, .int .i64 0, .string (sB b), .string ⟨#[]⟩, .slice none 0 0] 65) = vv34 at F35 E36 ⊢
              refine hK9.out _ _ trivial (fun hHeld => ?_)
              clear hK9 K9
              try simp only [Act.put, List.setIfInBounds_toArray, List.set_cons_zero, List.set_cons_succ]
              refine wpAnyH_ready (rs := [9]) (by kernel_rfl) (by simp) ?_
              refine AllReadyH.cons (o := ⟨_, _, _, _, _, _⟩) rfl (fun K9 hK9 => ?_) (AllReadyH.nil)
              · have N9 : ∀ j u, (e6 (kB b))[j]? = some u → (vv34).cell? ((⟨(vv32).heap.size, 0, none⟩ : Addr).add j) = some u := fun j u hu => by
                  rw [show (⟨(vv32).heap.size, 0, none⟩ : Addr).add j = ⟨(vv32).heap.size, j, none⟩ by simp [Addr.add]; omega]
                  exact block_cell E36.out (by have hu2 : ([.int .i64 1, .int .i64 2, .int .i64 0, .string (sB b), .string ⟨#[]⟩, .slice none 0 0] : List Value)[j]? = some u := hu; simpa using hu2)
                have hbl := (Array.getElem?_eq_some_iff.1 F35.out.1).1
                refine step_own rfl (.tmp 26) (.tmp 33) 63 rfl (w1.heap.size + 1) 65 i0 z6 6 80 Tryz.underlying63 hi hz0 hz1 hz2 rfl (by decide) _ k _ rfl F35.out.2.1 ⟨(vv32).heap.size, 0, none⟩ 1 1 (e6 (kB b)) rfl rfl N9 (by have := e6_flat [kB b]; simpa using this) (by unfold maxLen; omega) (by omega) (by omega) ?_
                intro v' w7 hown hgr
                obtain ⟨gq, cq, hvq⟩ := ownsRow_succ hown
                subst hvq
                have G7 := (hgr.block w1.heap.size hbl (fun e => by have := (F35.out.2.1.lt _ e.symm).1; omega)).trans F35.out.1
                have hB7 : Below w1.heap.size w1 w7 := F35.out.2.2.1.grown hgr F35.out.2.2.1.size (fun q hq => by have := (F35.out.2.1.lt q hq).1; omega)
                have O7 := Lib.hid (show w7.ownsRow (w1.heap.size + 1) 65 6 (.slice (some ⟨gq, 0, none⟩) (k + 1) cq) (k + 1) (((l.take (k + 1)).map kB).flatMap e6) from by rw [hT.out]; exact hown)
                have G8 := Lib.hid (block_set G7 (j := 5) (.slice (some ⟨gq, 0, none⟩) (k + 1) cq))
                have B8 := Lib.hid (hB7.setCell (p := ⟨w1.heap.size, 5, none⟩) (Nat.le_refl _) (.slice (some ⟨gq, 0, none⟩) (k + 1) cq))
                have O8 := Lib.hid (ownsRow_keep O7.out ((Keep.refl (fun q => q = w1.heap.size) w7).setCell (p := ⟨w1.heap.size, 5, none⟩) (.inl rfl) (.slice (some ⟨gq, 0, none⟩) (k + 1) cq)) (fun q hq e => by have := (O7.out.lt q hq).1; omega))
                have ck := block_cell (j := 5) G7 rfl
                have fk := block_free (j := 5) G7
                clear hown hgr N9 hbl
                refine hK9.out _ _ trivial (fun hHeld => ?_)
                clear hK9 K9
                try simp only [Act.put, List.setIfInBounds_toArray, List.set_cons_zero, List.set_cons_succ]
                refine wpAnyH_take (i := 10) (oi := ⟨_, _, _, _, _, _⟩) (v := ?_) rfl (by kernel_rfl) (by kernel_rfl) (by kernel_rfl) (fun _ _ _ h => h) (Or.inl ⟨by rfl, ?_⟩) (by assumption) ?_
                rotate_left
                · intro w' hSw; (try dsimp only at hSw); go_simp; (try with_reducible rfl)
                try simp only [Act.put, List.setIfInBounds_toArray, List.set_cons_zero, List.set_cons_succ]
                refine wpAnyH_ready (rs := [11]) (by kernel_rfl) (by simp) ?_
                refine AllReadyH.cons (o := ⟨_, _, _, _, _, _⟩) rfl (fun K9 hK9 => ?_) (AllReadyH.nil)
                · go_simp
                  go_wp2_with fail
                  clear ck fk G7 hB7
                  generalize w7.setCell ⟨w1.heap.size, 5, none⟩ (.slice (some ⟨gq, 0, none⟩) (k + 1) cq) = w8 at G8 B8 O8 ⊢
                  refine hK9.out _ _ trivial (fun hHeld => ?_)
                  clear hK9 K9
                  try simp only [Act.put, List.setIfInBounds_toArray, List.set_cons_zero, List.set_cons_succ]
                  refine wpAnyH_done (by kernel_rfl) ?_ _
                  have lb2 := HLB.out _ (B1.out.trans (B8.out.mono B1.out.size))
                  obtain ⟨a2, ha2, lb⟩ := lb2
                  obtain rfl := Option.some.inj ha2
                  rcases hS.out with ⟨h0, hs1⟩ | ⟨h0, hs1⟩
                  · have hd : ¬ (stI l false k < 0) := by omega
                    generalize stI l false k = st at *
                    have HS1 := Lib.hid hs1
                    clear hs1
                    go_wp2_with fail
                    exact ⟨⟨k + 1, by omega, by go_num, by rw [HS1.out], _, G8, O8, B8⟩, by simp [intOf]; omega⟩
                  · rw [h0]
                    have HS1 := Lib.hid hs1
                    clear hs1 h0
                    cases b
                    · go_wp2_with fail
                      exact ⟨⟨k + 1, by omega, by go_num, by rw [HS1.out]; rfl, _, G8, O8, B8⟩, by simp [intOf]; omega⟩
                    · go_wp2_with fail
                      exact ⟨⟨k + 1, by omega, by go_num, by rw [HS1.out]; rfl, _, G8, O8, B8⟩, by simp [intOf]; omega⟩
      · have lb := F0.out.2.2.2
        go_simp
        go_wp2_with fail
        clear lb
        refine hK9.out _ _ trivial (fun hHeld => ?_)
        clear hK9 K9
        try simp only [Act.put, List.setIfInBounds_toArray, List.set_cons_zero, List.set_cons_succ]
        refine wpAnyH_ready (rs := [1, 6]) (by kernel_rfl) (by simp) ?_
        refine AllReadyH.cons (o := ⟨_, _, _, _, _, _⟩) rfl (fun K9 hK9 => ?_) (AllReadyH.cons (o := ⟨_, _, _, _, _, _⟩) rfl (fun K9 hK9 => ?_) (AllReadyH.nil))
        · have ck := block_cell (j := 5) F0.out.1 rfl
          go_simp
          go_wp2_with fail
          clear ck
          refine hK9.out _ _ trivial (fun hHeld => ?_)
          clear hK9 K9
          try simp only [Act.put, List.setIfInBounds_toArray, List.set_cons_zero, List.set_cons_succ]
          refine wpAnyH_ready (rs := [6]) (by kernel_rfl) (by simp) ?_
          refine AllReadyH.cons (o := ⟨_, _, _, _, _, _⟩) rfl (fun K9 hK9 => ?_) (AllReadyH.nil)
          · go_simp
            (with_reducible refine (rBool_c b _).mono ?_)
            rintro e vv27 ⟨rfl, q⟩
            have F28 := Lib.hid (facts_below F0.out q)
            clear q
            go_wp2_with fail
            refine hK9.out _ _ trivial (fun hHeld => ?_)
            clear hK9 K9
            try simp only [Act.put, List.setIfInBounds_toArray, List.set_cons_zero, List.set_cons_succ]
            refine wpAnyH_take (i := 7) (oi := ⟨_, _, _, _, _, _⟩) (v := ?_) rfl (by kernel_rfl) (by kernel_rfl) (by kernel_rfl) (fun _ _ _ h => h) (Or.inl ⟨by rfl, ?_⟩) (by assumption) ?_
            rotate_left
            · intro w' hSw; (try dsimp only at hSw); go_simp; (try with_reducible rfl)
            try simp only [Act.put, List.setIfInBounds_toArray, List.set_cons_zero, List.set_cons_succ]
            refine wpAnyH_ready (rs := [8]) (by kernel_rfl) (by simp) ?_
            refine AllReadyH.cons (o := ⟨_, _, _, _, _, _⟩) rfl (fun K9 hK9 => ?_) (AllReadyH.nil)
            · go_simp
              go_wp2_with fail
              have F30 := Lib.hid (facts_below F28.out ((Below.refl (vv27).heap.size (vv27)).alloc (Nat.le_refl _) (.cells #[.int .i64 1, .int .i64 2, .int .i64 0, .string (sB b), .string ⟨#[]⟩, .slice none 0 0] 65)))
              have E31 := Lib.hid (heap_alloc_new (vv27) (.cells #[.int .i64 1, .int .i64 2, .int .i64 0, .string (sB b), .string ⟨#[]⟩, .slice none 0 0] 65))
              generalize (vv27).alloc (.cells #[.int .i64 1, .int .i64 2, .int .i64 0, .string (sB b), .string ⟨#[]⟩, .slice none 0 0] 65) = vv29 at F30 E31 ⊢
              refine hK9.out _ _ trivial (fun hHeld => ?_)
              clear hK9 K9
              try simp only [Act.put, List.setIfInBounds_toArray, List.set_cons_zero, List.set_cons_succ]
              refine wpAnyH_ready (rs := [9]) (by kernel_rfl) (by simp) ?_
              refine AllReadyH.cons (o := ⟨_, _, _, _, _, _⟩) rfl (fun K9 hK9 => ?_) (AllReadyH.nil)
              · have N9 : ∀ j u, (e6 (kB b))[j]? = some u → (vv29).cell? ((⟨(vv27).heap.size, 0, none⟩ : Addr).add j) = some u := fun j u hu => by
                  rw [show (⟨(vv27).heap.size, 0, none⟩ : Addr).add j = ⟨(vv27).heap.size, j, none⟩ by simp [Addr.add]; omega]
                  exact block_cell E31.out (by have hu2 : ([.int .i64 1, .int .i64 2, .int .i64 0, .string (sB b), .string ⟨#[]⟩, .slice none 0 0] : List Value)[j]? = some u := hu; simpa using hu2)
                have hbl := (Array.getElem?_eq_some_iff.1 F30.out.1).1
                refine step_own rfl (.tmp 26) (.tmp 33) 63 rfl (w1.heap.size + 1) 65 i0 z6 6 80 Tryz.underlying63 hi hz0 hz1 hz2 rfl (by decide) _ k _ rfl F30.out.2.1 ⟨(vv27).heap.size, 0, none⟩ 1 1 (e6 (kB b)) rfl rfl N9 (by have := e6_flat [kB b]; simpa using this) (by unfold maxLen; omega) (by omega) (by omega) ?_
                intro v' w7 hown hgr
                obtain ⟨gq, cq, hvq⟩ := ownsRow_succ hown
                subst hvq
                have G7 := (hgr.block w1.heap.size hbl (fun e => by have := (F30.out.2.1.lt _ e.symm).1; omega)).trans F30.out.1
                have hB7 : Below w1.heap.size w1 w7 := F30.out.2.2.1.grown hgr F30.out.2.2.1.size (fun q hq => by have := (F30.out.2.1.lt q hq).1; omega)
                have O7 := Lib.hid (show w7.ownsRow (w1.heap.size + 1) 65 6 (.slice (some ⟨gq, 0, none⟩) (k + 1) cq) (k + 1) (((l.take (k + 1)).map kB).flatMap e6) from by rw [hT.out]; exact hown)
                have G8 := Lib.hid (block_set G7 (j := 5) (.slice (some ⟨gq, 0, none⟩) (k + 1) cq))
                have B8 := Lib.hid (hB7.setCell (p := ⟨w1.heap.size, 5, none⟩) (Nat.le_refl _) (.slice (some ⟨gq, 0, none⟩) (k + 1) cq))
                have O8 := Lib.hid (ownsRow_keep O7.out ((Keep.refl (fun q => q = w1.heap.size) w7).setCell (p := ⟨w1.heap.size, 5, none⟩) (.inl rfl) (.slice (some ⟨gq, 0, none⟩) (k + 1) cq)) (fun q hq e => by have := (O7.out.lt q hq).1; omega))
                have ck := block_cell (j := 5) G7 rfl
                have fk := block_free (j := 5) G7
                clear hown hgr N9 hbl
                refine hK9.out _ _ trivial (fun hHeld => ?_)
                clear hK9 K9
                try simp only [Act.put, List.setIfInBounds_toArray, List.set_cons_zero, List.set_cons_succ]
                refine wpAnyH_take (i := 10) (oi := ⟨_, _, _, _, _, _⟩) (v := ?_) rfl (by kernel_rfl) (by kernel_rfl) (by kernel_rfl) (fun _ _ _ h => h) (Or.inl ⟨by rfl, ?_⟩) (by assumption) ?_
                rotate_left
                · intro w' hSw; (try dsimp only at hSw); go_simp; (try with_reducible rfl)
                try simp only [Act.put, List.setIfInBounds_toArray, List.set_cons_zero, List.set_cons_succ]
                refine wpAnyH_ready (rs := [11]) (by kernel_rfl) (by simp) ?_
                refine AllReadyH.cons (o := ⟨_, _, _, _, _, _⟩) rfl (fun K9 hK9 => ?_) (AllReadyH.nil)
                · go_simp
                  go_wp2_with fail
                  clear ck fk G7 hB7
                  generalize w7.setCell ⟨w1.heap.size, 5, none⟩ (.slice (some ⟨gq, 0, none⟩) (k + 1) cq) = w8 at G8 B8 O8 ⊢
                  refine hK9.out _ _ trivial (fun hHeld => ?_)
                  clear hK9 K9
                  try simp only [Act.put, List.setIfInBounds_toArray, List.set_cons_zero, List.set_cons_succ]
                  refine wpAnyH_done (by kernel_rfl) ?_ _
                  have lb2 := HLB.out _ (B1.out.trans (B8.out.mono B1.out.size))
                  obtain ⟨a2, ha2, lb⟩ := lb2
                  obtain rfl := Option.some.inj ha2
                  rcases hS.out with ⟨h0, hs1⟩ | ⟨h0, hs1⟩
                  · have hd : ¬ (stI l false k < 0) := by omega
                    generalize stI l false k = st at *
                    have HS1 := Lib.hid hs1
                    clear hs1
                    go_wp2_with fail
                    exact ⟨⟨k + 1, by omega, by go_num, by rw [HS1.out], _, G8, O8, B8⟩, by simp [intOf]; omega⟩
                  · rw [h0]
                    have HS1 := Lib.hid hs1
                    clear hs1 h0
                    cases b
                    · go_wp2_with fail
                      exact ⟨⟨k + 1, by omega, by go_num, by rw [HS1.out]; rfl, _, G8, O8, B8⟩, by simp [intOf]; omega⟩
                    · go_wp2_with fail
                      exact ⟨⟨k + 1, by omega, by go_num, by rw [HS1.out]; rfl, _, G8, O8, B8⟩, by simp [intOf]; omega⟩
        · go_simp
          (with_reducible refine (rBool_c b _).mono ?_)
          rintro e vv19 ⟨rfl, q⟩
          have F20 := Lib.hid (facts_below F0.out q)
          clear q
          go_wp2_with fail
          refine hK9.out _ _ trivial (fun hHeld => ?_)
          clear hK9 K9
          try simp only [Act.put, List.setIfInBounds_toArray, List.set_cons_zero, List.set_cons_succ]
          refine wpAnyH_take (i := 7) (oi := ⟨_, _, _, _, _, _⟩) (v := ?_) rfl (by kernel_rfl) (by kernel_rfl) (by kernel_rfl) (fun _ _ _ h => h) (Or.inl ⟨by rfl, ?_⟩) (by assumption) ?_
          rotate_left
          · intro w' hSw; (try dsimp only at hSw); go_simp; (try with_reducible rfl)
          try simp only [Act.put, List.setIfInBounds_toArray, List.set_cons_zero, List.set_cons_succ]
          refine wpAnyH_ready (rs := [1, 8]) (by kernel_rfl) (by simp) ?_
          refine AllReadyH.cons (o := ⟨_, _, _, _, _, _⟩) rfl (fun K9 hK9 => ?_) (AllReadyH.cons (o := ⟨_, _, _, _, _, _⟩) rfl (fun K9 hK9 => ?_) (AllReadyH.nil))
          · have ck := block_cell (j := 5) F20.out.1 rfl
            go_simp
            go_wp2_with fail
            clear ck
            refine hK9.out _ _ trivial (fun hHeld => ?_)
            clear hK9 K9
            try simp only [Act.put, List.setIfInBounds_toArray, List.set_cons_zero, List.set_cons_succ]
            refine wpAnyH_ready (rs := [8]) (by kernel_rfl) (by simp) ?_
            refine AllReadyH.cons (o := ⟨_, _, _, _, _, _⟩) rfl (fun K9 hK9 => ?_) (AllReadyH.nil)
            · go_simp
              go_wp2_with fail
              have F25 := Lib.hid (facts_below F20.out ((Below.refl (vv19).heap.size (vv19)).alloc (Nat.le_refl _) (.cells #[.int .i64 1, .int .i64 2, .int .i64 0, .string (sB b), .string ⟨#[]⟩, .slice none 0 0] 65)))
              have E26 := Lib.hid (heap_alloc_new (vv19) (.cells #[.int .i64 1, .int .i64 2, .int .i64 0, .string (sB b), .string ⟨#[]⟩, .slice none 0 0] 65))
              generalize (vv19).alloc (.cells #[.int .i64 1, .int .i64 2, .int .i64 0, .string (sB b), .string ⟨#[]⟩, .slice none 0 0] 65) = vv24 at F25 E26 ⊢
              refine hK9.out _ _ trivial (fun hHeld => ?_)
              clear hK9 K9
              try simp only [Act.put, List.setIfInBounds_toArray, List.set_cons_zero, List.set_cons_succ]
              refine wpAnyH_ready (rs := [9]) (by kernel_rfl) (by simp) ?_
              refine AllReadyH.cons (o := ⟨_, _, _, _, _, _⟩) rfl (fun K9 hK9 => ?_) (AllReadyH.nil)
              · have N9 : ∀ j u, (e6 (kB b))[j]? = some u → (vv24).cell? ((⟨(vv19).heap.size, 0, none⟩ : Addr).add j) = some u := fun j u hu => by
                  rw [show (⟨(vv19).heap.size, 0, none⟩ : Addr).add j = ⟨(vv19).heap.size, j, none⟩ by simp [Addr.add]; omega]
                  exact block_cell E26.out (by have hu2 : ([.int .i64 1, .int .i64 2, .int .i64 0, .string (sB b), .string ⟨#[]⟩, .slice none 0 0] : List Value)[j]? = some u := hu; simpa using hu2)
                have hbl := (Array.getElem?_eq_some_iff.1 F25.out.1).1
                refine step_own rfl (.tmp 26) (.tmp 33) 63 rfl (w1.heap.size + 1) 65 i0 z6 6 80 Tryz.underlying63 hi hz0 hz1 hz2 rfl (by decide) _ k _ rfl F25.out.2.1 ⟨(vv19).heap.size, 0, none⟩ 1 1 (e6 (kB b)) rfl rfl N9 (by have := e6_flat [kB b]; simpa using this) (by unfold maxLen; omega) (by omega) (by omega) ?_
                intro v' w7 hown hgr
                obtain ⟨gq, cq, hvq⟩ := ownsRow_succ hown
                subst hvq
                have G7 := (hgr.block w1.heap.size hbl (fun e => by have := (F25.out.2.1.lt _ e.symm).1; omega)).trans F25.out.1
                have hB7 : Below w1.heap.size w1 w7 := F25.out.2.2.1.grown hgr F25.out.2.2.1.size (fun q hq => by have := (F25.out.2.1.lt q hq).1; omega)
                have O7 := Lib.hid (show w7.ownsRow (w1.heap.size + 1) 65 6 (.slice (some ⟨gq, 0, none⟩) (k + 1) cq) (k + 1) (((l.take (k + 1)).map kB).flatMap e6) from by rw [hT.out]; exact hown)
                have G8 := Lib.hid (block_set G7 (j := 5) (.slice (some ⟨gq, 0, none⟩) (k + 1) cq))
                have B8 := Lib.hid (hB7.setCell (p := ⟨w1.heap.size, 5, none⟩) (Nat.le_refl _) (.slice (some ⟨gq, 0, none⟩) (k + 1) cq))
                have O8 := Lib.hid (ownsRow_keep O7.out ((Keep.refl (fun q => q = w1.heap.size) w7).setCell (p := ⟨w1.heap.size, 5, none⟩) (.inl rfl) (.slice (some ⟨gq, 0, none⟩) (k + 1) cq)) (fun q hq e => by have := (O7.out.lt q hq).1; omega))
                have ck := block_cell (j := 5) G7 rfl
                have fk := block_free (j := 5) G7
                clear hown hgr N9 hbl
                refine hK9.out _ _ trivial (fun hHeld => ?_)
                clear hK9 K9
                try simp only [Act.put, List.setIfInBounds_toArray, List.set_cons_zero, List.set_cons_succ]
                refine wpAnyH_take (i := 10) (oi := ⟨_, _, _, _, _, _⟩) (v := ?_) rfl (by kernel_rfl) (by kernel_rfl) (by kernel_rfl) (fun _ _ _ h => h) (Or.inl ⟨by rfl, ?_⟩) (by assumption) ?_
                rotate_left
                · intro w' hSw; (try dsimp only at hSw); go_simp; (try with_reducible rfl)
                try simp only [Act.put, List.setIfInBounds_toArray, List.set_cons_zero, List.set_cons_succ]
                refine wpAnyH_ready (rs := [11]) (by kernel_rfl) (by simp) ?_
                refine AllReadyH.cons (o := ⟨_, _, _, _, _, _⟩) rfl (fun K9 hK9 => ?_) (AllReadyH.nil)
                · go_simp
                  go_wp2_with fail
                  clear ck fk G7 hB7
                  generalize w7.setCell ⟨w1.heap.size, 5, none⟩ (.slice (some ⟨gq, 0, none⟩) (k + 1) cq) = w8 at G8 B8 O8 ⊢
                  refine hK9.out _ _ trivial (fun hHeld => ?_)
                  clear hK9 K9
                  try simp only [Act.put, List.setIfInBounds_toArray, List.set_cons_zero, List.set_cons_succ]
                  refine wpAnyH_done (by kernel_rfl) ?_ _
                  have lb2 := HLB.out _ (B1.out.trans (B8.out.mono B1.out.size))
                  obtain ⟨a2, ha2, lb⟩ := lb2
                  obtain rfl := Option.some.inj ha2
                  rcases hS.out with ⟨h0, hs1⟩ | ⟨h0, hs1⟩
                  · have hd : ¬ (stI l false k < 0) := by omega
                    generalize stI l false k = st at *
                    have HS1 := Lib.hid hs1
                    clear hs1
                    go_wp2_with fail
                    exact ⟨⟨k + 1, by omega, by go_num, by rw [HS1.out], _, G8, O8, B8⟩, by simp [intOf]; omega⟩
                  · rw [h0]
                    have HS1 := Lib.hid hs1
                    clear hs1 h0
                    cases b
                    · go_wp2_with fail
                      exact ⟨⟨k + 1, by omega, by go_num, by rw [HS1.out]; rfl, _, G8, O8, B8⟩, by simp [intOf]; omega⟩
                    · go_wp2_with fail
                      exact ⟨⟨k + 1, by omega, by go_num, by rw [HS1.out]; rfl, _, G8, O8, B8⟩, by simp [intOf]; omega⟩
          · go_simp
            go_wp2_with fail
            have F22 := Lib.hid (facts_below F20.out ((Below.refl (vv19).heap.size (vv19)).alloc (Nat.le_refl _) (.cells #[.int .i64 1, .int .i64 2, .int .i64 0, .string (sB b), .string ⟨#[]⟩, .slice none 0 0] 65)))
            have E23 := Lib.hid (heap_alloc_new (vv19) (.cells #[.int .i64 1, .int .i64 2, .int .i64 0, .string (sB b), .string ⟨#[]⟩, .slice none 0 0] 65))
            generalize (vv19).alloc (.cells #[.int .i64 1, .int .i64 2, .int .i64 0, .string (sB b), .string ⟨#[]⟩, .slice none 0 0] 65) = vv21 at F22 E23 ⊢
            refine hK9.out _ _ trivial (fun hHeld => ?_)
            clear hK9 K9
            try simp only [Act.put, List.setIfInBounds_toArray, List.set_cons_zero, List.set_cons_succ]
            refine wpAnyH_ready (rs := [1]) (by kernel_rfl) (by simp) ?_
            refine AllReadyH.cons (o := ⟨_, _, _, _, _, _⟩) rfl (fun K9 hK9 => ?_) (AllReadyH.nil)
            · have ck := block_cell (j := 5) F22.out.1 rfl
              go_simp
              go_wp2_with fail
              clear ck
              refine hK9.out _ _ trivial (fun hHeld => ?_)
              clear hK9 K9
              try simp only [Act.put, List.setIfInBounds_toArray, List.set_cons_zero, List.set_cons_succ]
              refine wpAnyH_ready (rs := [9]) (by kernel_rfl) (by simp) ?_
              refine AllReadyH.cons (o := ⟨_, _, _, _, _, _⟩) rfl (fun K9 hK9 => ?_) (AllReadyH.nil)
              · have N9 : ∀ j u, (e6 (kB b))[j]? = some u → (vv21).cell? ((⟨(vv19).heap.size, 0, none⟩ : Addr).add j) = some u := fun j u hu => by
                  rw [show (⟨(vv19).heap.size, 0, none⟩ : Addr).add j = ⟨(vv19).heap.size, j, none⟩ by simp [Addr.add]; omega]
                  exact block_cell E23.out (by have hu2 : ([.int .i64 1, .int .i64 2, .int .i64 0, .string (sB b), .string ⟨#[]⟩, .slice none 0 0] : List Value)[j]? = some u := hu; simpa using hu2)
                have hbl := (Array.getElem?_eq_some_iff.1 F22.out.1).1
                refine step_own rfl (.tmp 26) (.tmp 33) 63 rfl (w1.heap.size + 1) 65 i0 z6 6 80 Tryz.underlying63 hi hz0 hz1 hz2 rfl (by decide) _ k _ rfl F22.out.2.1 ⟨(vv19).heap.size, 0, none⟩ 1 1 (e6 (kB b)) rfl rfl N9 (by have := e6_flat [kB b]; simpa using this) (by unfold maxLen; omega) (by omega) (by omega) ?_
                intro v' w7 hown hgr
                obtain ⟨gq, cq, hvq⟩ := ownsRow_succ hown
                subst hvq
                have G7 := (hgr.block w1.heap.size hbl (fun e => by have := (F22.out.2.1.lt _ e.symm).1; omega)).trans F22.out.1
                have hB7 : Below w1.heap.size w1 w7 := F22.out.2.2.1.grown hgr F22.out.2.2.1.size (fun q hq => by have := (F22.out.2.1.lt q hq).1; omega)
                have O7 := Lib.hid (show w7.ownsRow (w1.heap.size + 1) 65 6 (.slice (some ⟨gq, 0, none⟩) (k + 1) cq) (k + 1) (((l.take (k + 1)).map kB).flatMap e6) from by rw [hT.out]; exact hown)
                have G8 := Lib.hid (block_set G7 (j := 5) (.slice (some ⟨gq, 0, none⟩) (k + 1) cq))
                have B8 := Lib.hid (hB7.setCell (p := ⟨w1.heap.size, 5, none⟩) (Nat.le_refl _) (.slice (some ⟨gq, 0, none⟩) (k + 1) cq))
                have O8 := Lib.hid (ownsRow_keep O7.out ((Keep.refl (fun q => q = w1.heap.size) w7).setCell (p := ⟨w1.heap.size, 5, none⟩) (.inl rfl) (.slice (some ⟨gq, 0, none⟩) (k + 1) cq)) (fun q hq e => by have := (O7.out.lt q hq).1; omega))
                have ck := block_cell (j := 5) G7 rfl
                have fk := block_free (j := 5) G7
                clear hown hgr N9 hbl
                refine hK9.out _ _ trivial (fun hHeld => ?_)
                clear hK9 K9
                try simp only [Act.put, List.setIfInBounds_toArray, List.set_cons_zero, List.set_cons_succ]
                refine wpAnyH_take (i := 10) (oi := ⟨_, _, _, _, _, _⟩) (v := ?_) rfl (by kernel_rfl) (by kernel_rfl) (by kernel_rfl) (fun _ _ _ h => h) (Or.inl ⟨by rfl, ?_⟩) (by assumption) ?_
                rotate_left
                · intro w' hSw; (try dsimp only at hSw); go_simp; (try with_reducible rfl)
                try simp only [Act.put, List.setIfInBounds_toArray, List.set_cons_zero, List.set_cons_succ]
                refine wpAnyH_ready (rs := [11]) (by kernel_rfl) (by simp) ?_
                refine AllReadyH.cons (o := ⟨_, _, _, _, _, _⟩) rfl (fun K9 hK9 => ?_) (AllReadyH.nil)
                · go_simp
                  go_wp2_with fail
                  clear ck fk G7 hB7
                  generalize w7.setCell ⟨w1.heap.size, 5, none⟩ (.slice (some ⟨gq, 0, none⟩) (k + 1) cq) = w8 at G8 B8 O8 ⊢
                  refine hK9.out _ _ trivial (fun hHeld => ?_)
                  clear hK9 K9
                  try simp only [Act.put, List.setIfInBounds_toArray, List.set_cons_zero, List.set_cons_succ]
                  refine wpAnyH_done (by kernel_rfl) ?_ _
                  have lb2 := HLB.out _ (B1.out.trans (B8.out.mono B1.out.size))
                  obtain ⟨a2, ha2, lb⟩ := lb2
                  obtain rfl := Option.some.inj ha2
                  rcases hS.out with ⟨h0, hs1⟩ | ⟨h0, hs1⟩
                  · have hd : ¬ (stI l false k < 0) := by omega
                    generalize stI l false k = st at *
                    have HS1 := Lib.hid hs1
                    clear hs1
                    go_wp2_with fail
                    exact ⟨⟨k + 1, by omega, by go_num, by rw [HS1.out], _, G8, O8, B8⟩, by simp [intOf]; omega⟩
                  · rw [h0]
                    have HS1 := Lib.hid hs1
                    clear hs1 h0
                    cases b
                    · go_wp2_with fail
                      exact ⟨⟨k + 1, by omega, by go_num, by rw [HS1.out]; rfl, _, G8, O8, B8⟩, by simp [intOf]; omega⟩
                    · go_wp2_with fail
                      exact ⟨⟨k + 1, by omega, by go_num, by rw [HS1.out]; rfl, _, G8, O8, B8⟩, by simp [intOf]; omega⟩
    · obtain rfl : k = l.length := by omega
      have hT2 : Hid ((l.map kB ++ [exNone]).flatMap e6 = (l.map kB).flatMap e6 ++ e6 exNone) := Lib.hid (by rw [List.flatMap_append]; simp)
      have ck := block_cell (j := 5) hG.out rfl
      have b9 := (Below.refl wr.heap.size wr).alloc (Nat.le_refl _) (.cells #[.int .i64 2, .int .i64 0, .int .i64 0, .string ⟨#[]⟩, .string ⟨#[110, 111, 110, 101]⟩, .slice none 0 0] 65)
      have O9 := Lib.hid (hO.out.alloc (.cells #[.int .i64 2, .int .i64 0, .int .i64 0, .string ⟨#[]⟩, .string ⟨#[110, 111, 110, 101]⟩, .slice none 0 0] 65))
      have hg9 := keepB hG.out b9
      have hB9 : Below w1.heap.size w1 (wr.alloc (.cells #[.int .i64 2, .int .i64 0, .int .i64 0, .string ⟨#[]⟩, .string ⟨#[110, 111, 110, 101]⟩, .slice none 0 0] 65)) := hB.out.trans (b9.mono hB.out.size)
      have HG9 := Lib.hid hg9
      have HB9 := Lib.hid hB9
      have hbl := Lib.hid (Array.getElem?_eq_some_iff.1 hG.out).1
      have N9 : Hid (∀ j u, (e6 exNone)[j]? = some u → (wr.alloc (.cells #[.int .i64 2, .int .i64 0, .int .i64 0, .string ⟨#[]⟩, .string ⟨#[110, 111, 110, 101]⟩, .slice none 0 0] 65)).cell? ((⟨wr.heap.size, 0, none⟩ : Addr).add j) = some u) := Lib.hid (fun j u hu => by
        rw [show (⟨wr.heap.size, 0, none⟩ : Addr).add j = ⟨wr.heap.size, j, none⟩ by simp [Addr.add]; omega]
        exact block_cell (heap_alloc_new wr _) (by have hu2 : ([.int .i64 2, .int .i64 0, .int .i64 0, .string ⟨#[]⟩, .string ⟨#[110, 111, 110, 101]⟩, .slice none 0 0] : List Value)[j]? = some u := hu; simpa using hu2))
      clear b9 hg9 hB9
      go_wp2_with (at_builtin; refine wpList_append_own _ rfl (.tmp 48) (.tmp 50) 63 rfl (w1.heap.size + 1) 65 i0 z6 6 80 Tryz.underlying63 hi hz0 hz1 hz2 rfl (by decide) _ l.length _ rfl O9.out ⟨wr.heap.size, 0, none⟩ 1 1 (e6 exNone) rfl rfl N9.out (by have := e6_flat [exNone]; simpa using this) (by unfold maxLen; omega) (by omega) (by have := hbl.out; simp; omega) ?_)
      intro v' w7 hown hgr _
      obtain ⟨gq, cq, hvq⟩ := ownsRow_succ hown
      subst hvq
      have hbl2 : w1.heap.size < (wr.alloc (.cells #[.int .i64 2, .int .i64 0, .int .i64 0, .string ⟨#[]⟩, .string ⟨#[110, 111, 110, 101]⟩, .slice none 0 0] 65)).heap.size := by have := hbl.out; simp; omega
      have G7 := (hgr.block w1.heap.size hbl2 (fun e => by have := (O9.out.lt _ e.symm).1; omega)).trans HG9.out
      have hB7 : Below w1.heap.size w1 w7 := HB9.out.grown hgr HB9.out.size (fun q hq => by have := (O9.out.lt q hq).1; omega)
      have O7 := Lib.hid (show w7.ownsRow (w1.heap.size + 1) 65 6 (.slice (some ⟨gq, 0, none⟩) (l.length + 1) cq) (l.length + 1) ((l.map kB ++ [exNone]).flatMap e6) from by rw [hT2.out]; exact hown)
      have G8 := Lib.hid (block_set G7 (j := 5) (.slice (some ⟨gq, 0, none⟩) (l.length + 1) cq))
      have B8 := Lib.hid (hB7.setCell (p := ⟨w1.heap.size, 5, none⟩) (Nat.le_refl _) (.slice (some ⟨gq, 0, none⟩) (l.length + 1) cq))
      have O8 := Lib.hid (ownsRow_keep O7.out ((Keep.refl (fun q => q = w1.heap.size) w7).setCell (p := ⟨w1.heap.size, 5, none⟩) (.inl rfl) (.slice (some ⟨gq, 0, none⟩) (l.length + 1) cq)) (fun q hq e => by have := (O7.out.lt q hq).1; omega))
      have ck7 := block_cell (j := 5) G7 rfl
      have fk7 := block_free (j := 5) G7
      clear hown hgr ck hbl2
      obtain ⟨w8, hw8⟩ : ∃ w8, w7.setCell ⟨w1.heap.size, 5, none⟩ (.slice (some ⟨gq, 0, none⟩) (l.length + 1) cq) = w8 := ⟨_, rfl⟩
      have G8 : Hid (w8.heap[w1.heap.size]? = some (.cells #[.int .i64 6, .int .i64 0, .int .i64 0, .string ⟨#[]⟩, .string ⟨#[]⟩, .slice (some ⟨gq, 0, none⟩) (l.length + 1) cq] 65 (0, 0))) := Lib.hid (hw8 ▸ G8.out)
      have B8 : Hid (Below w1.heap.size w1 w8) := Lib.hid (hw8 ▸ B8.out)
      have O8 : Hid (w8.ownsRow (w1.heap.size + 1) 65 6 (.slice (some ⟨gq, 0, none⟩) (l.length + 1) cq) (l.length + 1) ((l.map kB ++ [exNone]).flatMap e6)) := Lib.hid (hw8 ▸ O8.out)
      have hm9 := heap_alloc_new w8 (.cells #[.slice none 0 0, .slice none 0 0, .int .i64 100] 61)
      have b9 := (Below.refl w8.heap.size w8).alloc (Nat.le_refl _) (.cells #[.slice none 0 0, .slice none 0 0, .int .i64 100] 61)
      have G9 := keepB G8.out b9
      have B9 := Lib.hid (B8.out.trans (b9.mono B8.out.size))
      have hz9 : (w8.alloc (.cells #[.slice none 0 0, .slice none 0 0, .int .i64 100] 61)).heap.size = w8.heap.size + 1 := by simp
      have hEx : ExAt (fun k => k = w8.heap.size) (w8.alloc (.cells #[.slice none 0 0, .slice none 0 0, .int .i64 100] 61)) (shortE l false) (some ⟨gq, 0, none⟩) := by
        rcases O8.out.2 with ⟨h0, _⟩ | ⟨g', cap', cur', e', hg1, hg2, _, _, _, hg4⟩
        · cases h0
        · injection e' with e1 e2 e3
          injection e1 with e1
          injection e1 with e1 _ _
          subst e1
          have hl8 := (Array.getElem?_eq_some_iff.1 hg2).1
          refine leaves_own (keepB hg2 b9) hg4 (by omega) (fun e he => ?_)
          rw [List.mem_append] at he
          rcases he with he | he
          · obtain ⟨b, _, rfl⟩ := List.mem_map.1 he; rfl
          · simp only [List.mem_singleton] at he; subst he; rfl
      have XO := Xm_ok w8.heap.size none 0 [] w HT.out (Nat.le_trans B1.out.size B8.out.size) ⟨by simp, fun b hb => by cases hb⟩
      have hAt : At (Xm w8.heap.size none 0 []) (w8.alloc (.cells #[.slice none 0 0, .slice none 0 0, .int .i64 100] 61)) 100 := ⟨hm9, fun i hi => by simp at hi, BindsAt.nil _ _ _, HT.out.b (B1.out.trans (B9.out.mono B1.out.size)), by omega, fun k e => by have e : k = w8.heap.size := e; omega⟩
      have hEV := short_ev l false H30.out
      have hkl : (shortE l false).kids.length = l.length + 1 := by simp [shortE, Ex.kids]
      have EVC := fun r hr => Eval_c XO (shortE l false) (some ⟨gq, 0, none⟩) cq [] none 0 100 r _ hr hAt (BindsAt.nil _ _ _) hEx (short_good l false H30.out) ⟨by simp, fun b hb => by cases hb⟩
      unfold exV at EVC
      rw [hkl] at EVC
      have E0 := block_cell (j := 0) G9 rfl
      have E1 := block_cell (j := 1) G9 rfl
      have E2 := block_cell (j := 2) G9 rfl
      have E3 := block_cell (j := 3) G9 rfl
      have E4 := block_cell (j := 4) G9 rfl
      have E5 := block_cell (j := 5) G9 rfl
      have hgz : w1.heap.size < w8.heap.size := (Array.getElem?_eq_some_iff.1 G8.out).1
      have HGZ := Lib.hid hgz
      clear G9 hm9 b9 hEx XO hAt hkl hz9
      generalize hw9 : w8.alloc (.cells #[.slice none 0 0, .slice none 0 0, .int .i64 100] 61) = w9 at EVC B9 E0 E1 E2 E3 E4 E5
      have hst : stI l false l.length = match stopO l false with
        | some j => (j : Int)
        | none => -1 := by unfold stI; rw [List.take_length]
      rw [hst]
      cases hso : stopO l false with
      | some i =>
        rw [hso] at hEV
        dsimp only at hEV
        have EV := Lib.hid (EVC _ hEV)
        have hi30 : i < l.length := by
          unfold stopO at hso
          rw [List.findIdx?_eq_some_iff_getElem] at hso
          exact hso.1
        have hiI : (i : Int) ≤ 29 := by omega
        clear EVC hEV hst hso
        go_wp2_with fail
        refine EV.out.mono ?_
        rintro z w10 ⟨rfl, m10, k10⟩
        have b11 := (Below.refl w10.heap.size w10).alloc (Nat.le_refl _) (.cells #[.int .i64 2, .int .i64 0, .string (sB false)] 26)
        have hn11 := heap_alloc_new w10 (.cells #[.int .i64 2, .int .i64 0, .string (sB false)] 26)
        have M11 := m10.below b11
        have K11 := Lib.hid (KM.bel k10 b11)
        clear m10 k10 E0 E1 E2 E3 E4 E5
        go_wp2_with fail
        generalize w10.alloc (.cells #[.int .i64 2, .int .i64 0, .string (sB false)] 26) = w11 at hn11 M11 K11 ⊢
        have hfu : (((98 - i : Nat)) : Int) = 98 - (i : Int) := by omega
        have hu11 : w11.heap[w8.heap.size]? = some (.cells #[.slice none 0 0, .slice none 0 0, .int .i64 (98 - (i : Int))] 61 (0, 0)) := by have := M11; unfold FuelAt MachAt at this; rw [hfu] at this; exact this
        have HN11 := Lib.hid hn11
        have HU11 := Lib.hid hu11
        have HS : Hid (∀ W, Below w11.heap.size w11 W → (fun W => Below w11.heap.size w11 W ∧ W.cell? ⟨w10.heap.size, 0, none⟩ = some (.int .i64 2) ∧ W.cell? ⟨w10.heap.size, 1, none⟩ = some (.int .i64 0) ∧ W.cell? ⟨w10.heap.size, 2, none⟩ = some (.string (sB false)) ∧ W.cell? ⟨w8.heap.size, 2, none⟩ = some (.int .i64 (98 - (i : Int)))) W) := Lib.hid (fun W h => by
          have x := keepB HN11.out h
          have y := keepB HU11.out h
          exact ⟨h, block_cell x rfl, block_cell x rfl, block_cell x rfl, block_cell y rfl⟩)
        have D11 : Below w11.heap.size w11 w11.drew := ⟨rfl, rfl, rfl, Nat.le_refl _, fun _ _ => rfl⟩
        have SM : Hid (∀ W, Calls Tryz.prog 17 #[.agg #[.int .i64 2, .int .i64 0, .string (sB false)], .agg #[.int .i64 2, .int .i64 0, .string (sB false)]] W fun e w' => e = .returned (.bool true) ∧ Below W.heap.size W w') := Lib.hid (fun W => by have := rsame_c (vB false) (vB false) W; rwa [decide_eq_true rfl] at this)
        have hwr : IntKind.i64.wrap (98 - (i : Int)) = 98 - (i : Int) := IntWalk.i64_in _ (by omega)
        clear hn11 M11 hfu hu11
        refine wp_region_held_drew (S := (fun W => Below w11.heap.size w11 W ∧ W.cell? ⟨w10.heap.size, 0, none⟩ = some (.int .i64 2) ∧ W.cell? ⟨w10.heap.size, 1, none⟩ = some (.int .i64 0) ∧ W.cell? ⟨w10.heap.size, 2, none⟩ = some (.string (sB false)) ∧ W.cell? ⟨w8.heap.size, 2, none⟩ = some (.int .i64 (98 - (i : Int))))) (by kernel_rfl) (HS.out _ D11) (fun hHeld => ?_)
        refine wpAnyH_take (i := 0) (oi := ⟨_, _, _, _, _, _⟩) (v := ?_) rfl (by kernel_rfl) (by kernel_rfl) (by kernel_rfl) (fun _ _ _ h => h) (Or.inl ⟨by rfl, ?_⟩) (by assumption) ?_
        rotate_left
        · intro w' hSw; (try dsimp only at hSw); go_simp; (try with_reducible rfl)
        try simp only [Act.put, List.setIfInBounds_toArray, List.set_cons_zero, List.set_cons_succ]
        refine wpAnyH_take (i := 1) (oi := ⟨_, _, _, _, _, _⟩) (v := ?_) rfl (by kernel_rfl) (by kernel_rfl) (by kernel_rfl) (fun _ _ _ h => h) (Or.inl ⟨by rfl, ?_⟩) (by assumption) ?_
        rotate_left
        · intro w' hSw; (try dsimp only at hSw); go_simp; (try with_reducible rfl)
        try simp only [Act.put, List.setIfInBounds_toArray, List.set_cons_zero, List.set_cons_succ]
        refine wpAnyH_take (i := 2) (oi := ⟨_, _, _, _, _, _⟩) (v := ?_) rfl (by kernel_rfl) (by kernel_rfl) (by kernel_rfl) (fun _ _ _ h => h) (Or.inl ⟨by rfl, ?_⟩) (by assumption) ?_
        rotate_left
        · intro w' hSw; (try dsimp only at hSw); go_simp; (try with_reducible rfl)
        try simp only [Act.put, List.setIfInBounds_toArray, List.set_cons_zero, List.set_cons_succ]
        refine wpAnyH_take (i := 3) (oi := ⟨_, _, _, _, _, _⟩) (v := ?_) rfl (by kernel_rfl) (by kernel_rfl) (by kernel_rfl) (fun _ _ _ h => h) (Or.inl ⟨by rfl, ?_⟩) (by assumption) ?_
        rotate_left
        · intro w' hSw; (try dsimp only at hSw); go_simp; (try with_reducible rfl)
        try simp only [Act.put, List.setIfInBounds_toArray, List.set_cons_zero, List.set_cons_succ]
        refine wpAnyH_take (i := 4) (oi := ⟨_, _, _, _, _, _⟩) (v := ?_) rfl (by kernel_rfl) (by kernel_rfl) (by kernel_rfl) (fun _ _ _ h => h) (Or.inl ⟨by rfl, ?_⟩) (by assumption) ?_
        rotate_left
        · intro w' hSw; (try dsimp only at hSw); go_simp; (try with_reducible rfl)
        try simp only [Act.put, List.setIfInBounds_toArray, List.set_cons_zero, List.set_cons_succ]
        refine wpAnyH_ready (rs := [5]) (by kernel_rfl) (by simp) ?_
        refine AllReadyH.cons (o := ⟨_, _, _, _, _, _⟩) rfl (fun K9 hK9 => ?_) AllReadyH.nil
        go_simp
        (with_reducible refine ((belowW (W0 := w11) hHeld.1 (rBool_c false _))).mono ?_)
        rintro e u1 ⟨rfl, m1⟩
        have M1 := Lib.hid m1
        clear m1
        go_wp2_with fail
        refine hK9.out _ _ (HS.out _ M1.out) (fun hHeld => ?_)
        clear hK9 K9
        try simp only [Act.put, List.setIfInBounds_toArray, List.set_cons_zero, List.set_cons_succ]
        refine wpAnyH_ready (rs := [6]) (by kernel_rfl) (by simp) ?_
        refine AllReadyH.cons (o := ⟨_, _, _, _, _, _⟩) rfl (fun K9 hK9 => ?_) AllReadyH.nil
        go_simp
        (with_reducible refine ((belowW (W0 := w11) hHeld.1 (SM.out _))).mono ?_)
        rintro e u2 ⟨rfl, m2⟩
        have M2 := Lib.hid m2
        clear m2
        go_wp2_with fail
        refine hK9.out _ _ (HS.out _ M2.out) (fun hHeld => ?_)
        clear hK9 K9
        try simp only [Act.put, List.setIfInBounds_toArray, List.set_cons_zero, List.set_cons_succ]
        refine wpAnyH_take (i := 7) (oi := ⟨_, _, _, _, _, _⟩) (v := ?_) rfl (by kernel_rfl) (by kernel_rfl) (by kernel_rfl) (fun _ _ _ h => h) (Or.inl ⟨by rfl, ?_⟩) (by assumption) ?_
        rotate_left
        · intro w' hSw; (try dsimp only at hSw); go_simp; (try with_reducible rfl)
        try simp only [Act.put, List.setIfInBounds_toArray, List.set_cons_zero, List.set_cons_succ]
        refine wpAnyH_take (i := 8) (oi := ⟨_, _, _, _, _, _⟩) (v := ?_) rfl (by kernel_rfl) (by kernel_rfl) (by kernel_rfl) (fun _ _ _ h => h) (Or.inl ⟨by rfl, ?_⟩) (by assumption) ?_
        rotate_left
        · intro w' hSw; (try dsimp only at hSw); go_simp; (try with_reducible rfl)
        try simp only [Act.put, List.setIfInBounds_toArray, List.set_cons_zero, List.set_cons_succ]
        refine wpAnyH_take (i := 9) (oi := ⟨_, _, _, _, _, _⟩) (v := ?_) rfl (by kernel_rfl) (by kernel_rfl) (by kernel_rfl) (fun _ _ _ h => h) (Or.inl ⟨by rfl, ?_⟩) (by assumption) ?_
        rotate_left
        · intro w' hSw; (try dsimp only at hSw); go_simp; (try with_reducible rfl)
        try simp only [Act.put, List.setIfInBounds_toArray, List.set_cons_zero, List.set_cons_succ]
        refine wpAnyH_take (i := 10) (oi := ⟨_, _, _, _, _, _⟩) (v := ?_) rfl (by kernel_rfl) (by kernel_rfl) (by kernel_rfl) (fun _ _ _ h => h) (Or.inl ⟨by rfl, ?_⟩) (by assumption) ?_
        rotate_left
        · intro w' hSw; (try dsimp only at hSw); go_simp; (try with_reducible rfl)
        try simp only [Act.put, List.setIfInBounds_toArray, List.set_cons_zero, List.set_cons_succ]
        refine wpAnyH_take (i := 11) (oi := ⟨_, _, _, _, _, _⟩) (v := ?_) rfl (by kernel_rfl) (by kernel_rfl) (by kernel_rfl) (fun _ _ _ h => h) (Or.inl ⟨by rfl, ?_⟩) (by assumption) ?_
        rotate_left
        · intro w' hSw; (try dsimp only at hSw); go_simp; (try with_reducible rfl)
        try simp only [Act.put, List.setIfInBounds_toArray, List.set_cons_zero, List.set_cons_succ]
        refine wpAnyH_take (i := 12) (oi := ⟨_, _, _, _, _, _⟩) (v := ?_) rfl (by kernel_rfl) (by kernel_rfl) (by kernel_rfl) (fun _ _ _ h => h) (Or.inl ⟨by rfl, ?_⟩) (by assumption) ?_
        rotate_left
        · intro w' hSw; (try dsimp only at hSw); go_simp; (try with_reducible rfl)
        try simp only [Act.put, List.setIfInBounds_toArray, List.set_cons_zero, List.set_cons_succ]
        refine wpAnyH_take (i := 13) (oi := ⟨_, _, _, _, _, _⟩) (v := ?_) rfl (by kernel_rfl) (by kernel_rfl) (by kernel_rfl) (fun _ _ _ h => h) (Or.inl ⟨by rfl, ?_⟩) (by assumption) ?_
        rotate_left
        · intro w' hSw; (try dsimp only at hSw); go_simp; (try with_reducible rfl)
        try simp only [Act.put, List.setIfInBounds_toArray, List.set_cons_zero, List.set_cons_succ]
        refine wpAnyH_take (i := 14) (oi := ⟨_, _, _, _, _, _⟩) (v := ?_) rfl (by kernel_rfl) (by kernel_rfl) (by kernel_rfl) (fun _ _ _ h => h) (Or.inl ⟨by rfl, ?_⟩) (by assumption) ?_
        rotate_left
        · intro w' hSw; (try dsimp only at hSw); go_simp; (try with_reducible rfl)
        try simp only [Act.put, List.setIfInBounds_toArray, List.set_cons_zero, List.set_cons_succ]
        refine wpAnyH_take (i := 15) (oi := ⟨_, _, _, _, _, _⟩) (v := ?_) rfl (by kernel_rfl) (by kernel_rfl) (by kernel_rfl) (fun _ _ _ h => h) (Or.inl ⟨by rfl, ?_⟩) (by assumption) ?_
        rotate_left
        · intro w' hSw; (try dsimp only at hSw); go_simp; (try with_reducible rfl)
        try simp only [Act.put, List.setIfInBounds_toArray, List.set_cons_zero, List.set_cons_succ]
        refine wpAnyH_take (i := 16) (oi := ⟨_, _, _, _, _, _⟩) (v := ?_) rfl (by kernel_rfl) (by kernel_rfl) (by kernel_rfl) (fun _ _ _ h => h) (Or.inl ⟨by rfl, ?_⟩) (by assumption) ?_
        rotate_left
        · intro w' hSw; (try dsimp only at hSw); go_simp; (try with_reducible rfl)
        try simp only [Act.put, List.setIfInBounds_toArray, List.set_cons_zero, List.set_cons_succ]
        refine wpAnyH_take (i := 17) (oi := ⟨_, _, _, _, _, _⟩) (v := ?_) rfl (by kernel_rfl) (by kernel_rfl) (by kernel_rfl) (fun _ _ _ h => h) (Or.inl ⟨by rfl, ?_⟩) (by assumption) ?_
        rotate_left
        · intro w' hSw; (try dsimp only at hSw); go_simp; (try with_reducible rfl)
        try simp only [Act.put, List.setIfInBounds_toArray, List.set_cons_zero, List.set_cons_succ]
        refine wpAnyH_take (i := 18) (oi := ⟨_, _, _, _, _, _⟩) (v := ?_) rfl (by kernel_rfl) (by kernel_rfl) (by kernel_rfl) (fun _ _ _ h => h) (Or.inl ⟨by rfl, ?_⟩) (by assumption) ?_
        rotate_left
        · intro w' hSw; (try dsimp only at hSw); go_simp; (try with_reducible rfl)
        try simp only [Act.put, List.setIfInBounds_toArray, List.set_cons_zero, List.set_cons_succ]
        refine wpAnyH_done (by kernel_rfl) ?_ _
        have EM := Lib.hid hHeld.1
        clear hHeld
        go_wp2_with fail
        go_ret
        exact ⟨rfl, B1.out.trans ((B9.out.mono B1.out.size).trans ((Keep.below K11.out (N := w.heap.size) (by have := B1.out.size; have := B9.out.size; omega) (fun q e => by have e : q = w8.heap.size := e; have := B1.out.size; have := HGZ.out; omega)).trans (EM.out.mono (by have := B1.out.size; have := B9.out.size; have := K11.out.size; omega))))⟩
      | none =>
        rw [hso] at hEV
        dsimp only at hEV
        have EV := Lib.hid (EVC _ hEV)
        clear EVC hEV hst hso
        go_wp2_with fail
        refine EV.out.mono ?_
        rintro z w10 ⟨rfl, m10, k10⟩
        have b11 := (Below.refl w10.heap.size w10).alloc (Nat.le_refl _) (.cells #[.int .i64 0, .int .i64 0, .string ⟨#[]⟩] 26)
        have cu := (m10.below b11).u
        rw [show (((98 - l.length : Nat)) : Int) = 98 - (l.length : Int) by omega] at cu
        have K11 := Lib.hid (KM.bel k10 b11)
        clear m10 k10 b11 E0 E1 E2 E3 E4 E5
        go_wp2_with fail
        go_ret
        exact ⟨rfl, B1.out.trans ((B9.out.mono B1.out.size).trans (Keep.below K11.out (N := w.heap.size) (by have := B1.out.size; have := B9.out.size; omega) (fun q e => by have e : q = w8.heap.size := e; have := B1.out.size; have := HGZ.out; omega)))⟩
theorem evalShort_any (A : Option Addr) (c : Nat) (l : List Bool) (or : Bool) (w : World) (ht : Tab w) (hL : ∀ k (h : k < l.length), ∃ a, A = some a ∧ w.cell? (a.add k) = some (.bool l[k])) :
    Calls Tryz.prog 7 #[.slice A l.length c, .bool or] w fun e w' => e = .returned (.bool true) ∧ Below w.heap.size w w' := by
  by_cases h : 30 < l.length
  · exact short_long A c l or w ht h
  · cases or with
    | true => exact short_true A c l w ht (by omega) hL
    | false => exact short_false A c l w ht (by omega) hL
end Go.Proofs.YtmadnehipagakaaGreatDoor
