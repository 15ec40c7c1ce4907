/- eval's call: a function of the machine's, or what is built in. -/
import Derived.Test.YtmadnehipagakaaGreatDoorGe
namespace Go.Proofs.YtmadnehipagakaaGreatDoor
open Go.RowKit Go.Lib Go.Sort Go.Shelf KP
theorem isFun_c (n : ByteArray) (PA : Option Addr) (np pc : Nat) (BA : Option Addr) (nb2 bc : Nat) (nb : Nat) (s : ByteArray) (b : Bool) (hb : decide (n = s) = b) (w : World) (hc : w.cell? ⟨nb, 0, none⟩ = some (.string s)) : Calls Tryz.prog 106 #[.agg #[.string n, .slice PA np pc, .slice BA nb2 bc], .pointer (some ⟨nb, 0, none⟩)] w fun e w' => e = .returned (.bool b) ∧ Below w.heap.size w w' := by
  rw [← hb]
  have hnb := World.block_lt_of_cell? _ _ hc
  have E1 := Lib.hid ((Below.refl w.heap.size w).alloc (Nat.le_refl _) (.cells #[.string n, .slice PA np pc, .slice BA nb2 bc] 117))
  have hc2 := (E1.out.cell hnb).trans hc
  clear hc hnb hb
  by_cases h : n = s
  · have hq := str_eq h
    have HD : Hid (true = decide (n = s)) := Lib.hid (by simp [h])
    clear h
    go_enter Tryz.func106, Tryz.ntmps106
    go_wp2
    go_ret
    exact ⟨ret_bool HD.out, E1.out⟩
  · have hq := str_ne h
    have HD : Hid (false = decide (n = s)) := Lib.hid (by simp [h])
    clear h
    go_enter Tryz.func106, Tryz.ntmps106
    go_wp2
    go_ret
    exact ⟨ret_bool HD.out, E1.out⟩
def funI (F : List Fu) (s : ByteArray) : Int := match funO F s with
  | some k => k
  | none => -1
theorem fun_some {l : List Fu} {s : ByteArray} {k : Nat} (hk : k < l.length) (h : l[k].1 = s) (hb : ∀ j (hj : j < l.length), j < k → l[j].1 ≠ s) : funO l s = some k := by
  unfold funO
  rw [List.findIdx?_eq_some_iff_getElem]
  exact ⟨hk, by simpa using h, fun j hj => by simpa using hb j (by omega) hj⟩
theorem fun_none {l : List Fu} {s : ByteArray} (hb : ∀ j (hj : j < l.length), l[j].1 ≠ s) : funO l s = none := by
  unfold funO
  rw [List.findIdx?_eq_none_iff]
  intro b hm
  obtain ⟨j, hj, rfl⟩ := List.getElem_of_mem hm
  simpa using hb j hj
theorem fun_lt {l : List Fu} {s : ByteArray} {k : Nat} (h : funO l s = some k) : k < l.length := by
  unfold funO at h
  rw [List.findIdx?_eq_some_iff_getElem] at h
  exact h.1
set_option maxHeartbeats 2000000 in
theorem indexF_c (N : Nat → Prop) (A : Option Addr) (c : Nat) (l : List Fu) (nb : Nat) (s : ByteArray) (r : Int) (hr : funI l s = r) (w : World) (hc : w.cell? ⟨nb, 0, none⟩ = some (.string s)) (hI : FunsAt N w A l) (hl : l.length ≤ 1000000) :
    Calls Tryz.prog 105 #[.slice A l.length c, .func (.func 106) #[] #[.pointer (some ⟨nb, 0, none⟩)]] w fun e w' => e = .returned (.int .i64 r) ∧ Below w.heap.size w w' := by
  rw [← hr]
  clear hr
  have hnb := World.block_lt_of_cell? _ _ hc
  have V := Lib.hid (fun W (h : Below w.heap.size w W) => hI.keep (Keep.of_below h (fun _ => False)) (fun _ h => h.elim))
  have HC := Lib.hid (fun W (h : Below w.heap.size w W) (n : ByteArray) PA np pc BA nb2 bc b hb => isFun_c n PA np pc BA nb2 bc nb s b hb W ((h.cell hnb).trans hc))
  have hlI : (l.length : Int) ≤ 1000000 := by omega
  clear hI hc hnb
  go_enter Tryz.func105, Tryz.ntmps105
  go_wp2_with fail
  go_loopw [8] (fun i wr => ∃ k : Nat, k ≤ l.length ∧ i = .int .i64 k ∧ Hid (Below w.heap.size w wr) ∧ Hid (∀ j (hj : j < l.length), j < k → l[j].1 ≠ s)) (fun i _ => l.length - (intOf i).toNat)
  case atStart => exact ⟨0, by omega, rfl, Lib.hid (Below.refl _ _), Lib.hid (fun _ _ h => by omega)⟩
  case round =>
    obtain ⟨k, hk, rfl, hB, hJ⟩ := hrel
    by_cases hlt : k < l.length
    · have hltI : (k : Int) < (l.length : Int) := by omega
      obtain ⟨ad, PA, pc, BA, bc, rfl, _, ⟨c0, c1, c2⟩, _⟩ := V.out _ hB.out k hlt
      by_cases h : l[k].1 = s
      · have HK := Lib.hid (HC.out _ hB.out l[k].1 PA l[k].2.1.length pc BA l[k].2.2.length bc true (by simp [h]))
        have HR : Hid ((k : Int) = funI l s) := Lib.hid (by unfold funI; rw [fun_some hlt h hJ.out])
        clear h
        generalize l[k] = b at *
        go_wp2_with fail
        refine HK.out.mono ?_
        rintro e w2 ⟨rfl, q2⟩
        have E2 := Lib.hid (hB.out.trans (q2.mono hB.out.size))
        clear q2 c0 c1 c2
        go_wp2_with fail
        go_ret
        exact ⟨ret_int HR.out, E2.out⟩
      · have HK := Lib.hid (HC.out _ hB.out l[k].1 PA l[k].2.1.length pc BA l[k].2.2.length bc false (by simp [h]))
        have hJ2 : Hid (∀ j (hj : j < l.length), j < k + 1 → l[j].1 ≠ s) := Lib.hid (fun j hj hjk => by
          by_cases e : j = k
          · subst e; exact h
          · exact hJ.out j hj (by omega))
        clear h
        generalize hb : l[k] = b at *
        clear hb
        go_wp2_with fail
        refine HK.out.mono ?_
        rintro e w2 ⟨rfl, q2⟩
        have E2 := Lib.hid (hB.out.trans (q2.mono hB.out.size))
        clear q2 c0 c1 c2
        go_wp2_with fail
        exact ⟨⟨k + 1, by omega, by go_num, E2, hJ2⟩, by simp [intOf]; omega⟩
    · obtain rfl : k = l.length := by omega
      have HR : Hid (-1 = funI l s) := Lib.hid (by unfold funI; rw [fun_none (fun j hj => hJ.out j hj hj)])
      go_wp2_with fail
      go_ret
      exact ⟨ret_int HR.out, hB.out⟩
set_option maxHeartbeats 2000000 in
theorem call_none {X : Cx} (hX : CxOk X) {g : Nat} (s : ByteArray) (hs : funO X.F s = none) (LA : Option Addr) (lc : Nat) (l : List Vl) (d f : Nat) (W : World) (hA : At X W f) (hV : ValsAt W LA l) (hl : l.length ≤ 100000) (hg : ∀ v ∈ l, goodV v) :
    Calls Tryz.prog 68 #[.pointer (some ⟨X.m, 0, none⟩), .string s, .slice LA l.length lc, .int .i64 d] W (Ends X W (calO X.F (evG X.F X.G g) s l d f)) := by
  have hC : calO X.F (evG X.F X.G g) s l d f = (applyO s l, f) := by unfold calO; rw [hs]
  rw [hC]
  clear hC
  have hI : funI X.F s = -1 := by unfold funI; rw [hs]
  have B1 := Lib.hid (((Below.refl W.heap.size W).alloc (Nat.le_refl _) (.cells #[.string s] 9)).alloc (by simp) (.cells #[.int .i64 0, .int .i64 0, .string ⟨#[]⟩] 26))
  have hn0 := (Below.heap_alloc (W.alloc (.cells #[.string s] 9)) (.cells #[.int .i64 0, .int .i64 0, .string ⟨#[]⟩] 26) W.heap.size (by simp)).trans (heap_alloc_new W _)
  have hr0 := heap_alloc_new (W.alloc (.cells #[.string s] 9)) (.cells #[.int .i64 0, .int .i64 0, .string ⟨#[]⟩] 26)
  rw [World.size_alloc] at hr0
  have hF := hX.gF
  generalize hwb : (W.alloc (.cells #[.string s] 9)).alloc (.cells #[.int .i64 0, .int .i64 0, .string ⟨#[]⟩] 26) = wb at B1 hn0 hr0
  have A1 := Lib.hid (hA.bel hX B1.out)
  have IX := Lib.hid (indexF_c X.N X.FA X.fc X.F W.heap.size s (-1) hI wb (block_cell hn0 rfl) A1.out.funs (by have := hF.1; omega))
  have HAP := Lib.hid (fun w (h : Below W.heap.size W w) => apply_c s LA lc l w (hA.tab.b h) (hV.below h) (fun v hv => (hg v hv).ok) (by omega))
  have HN := Lib.hid hn0
  have HR := Lib.hid hr0
  have HX := Lib.hid hX
  have HA0 := Lib.hid hA
  have cf := A1.out.mach.f
  generalize applyO s l = r at *
  obtain ⟨⟨r1, r2, r3⟩, rc⟩ := r
  clear hA hV hg hX hI hs hn0 hr0 hF
  go_enter Tryz.func68, Tryz.ntmps68
  go_wp2_with fail
  refine IX.out.mono ?_
  rintro z w2 ⟨rfl, q2⟩
  have B2 := Lib.hid (B1.out.trans (q2.mono B1.out.size))
  have A2 := Lib.hid (A1.out.bel HX.out q2)
  have hn2 := block_cell (j := 0) (keepB HN.out q2) rfl
  have HR2 := Lib.hid (keepB HR.out q2)
  clear q2
  go_wp2_with fail
  refine (HAP.out _ B2.out).mono ?_
  rintro z w3 ⟨rfl, q3⟩
  have B3 := Lib.hid (B2.out.trans (q3.mono B2.out.size))
  have A3 := Lib.hid (A2.out.bel HX.out q3)
  have hr3 := keepB HR2.out q3
  have d0 := block_cell (j := 0) hr3 rfl
  have d1 := block_cell (j := 1) hr3 rfl
  have d2 := block_cell (j := 2) hr3 rfl
  have f0 := fun j => block_free (j := j) hr3
  have B4 := Lib.hid (((B3.out.setCell (p := ⟨W.heap.size + 1, 0, none⟩) (by simp) (.int .i64 r1)).setCell (p := ⟨W.heap.size + 1, 1, none⟩) (by simp) (.int .i64 r2)).setCell (p := ⟨W.heap.size + 1, 2, none⟩) (by simp) (.string r3))
  have hr4 := Lib.hid (block_set (block_set (block_set hr3 (j := 0) (.int .i64 r1)) (j := 1) (.int .i64 r2)) (j := 2) (.string r3))
  clear q3 hr3
  go_wp2_with fail
  have e0 := block_cell (j := 0) hr4.out rfl
  have e1 := block_cell (j := 1) hr4.out rfl
  have e2 := block_cell (j := 2) hr4.out rfl
  have hb4 := B4.out
  generalize ((w3.setCell ⟨W.heap.size + 1, 0, none⟩ (.int .i64 r1)).setCell ⟨W.heap.size + 1, 1, none⟩ (.int .i64 r2)).setCell ⟨W.heap.size + 1, 2, none⟩ (.string r3) = w4 at e0 e1 e2 hb4 ⊢
  have HA0' := HA0.out
  exact bodyPost_ret (v := pairV ((r1, r2, r3), rc)) (by simp [results, Tryz.results68, go_sem, e0, e1, e2]) rfl ⟨rfl, (HA0'.bel HX.out hb4).mach, Keep.of_below hb4 _⟩
/-- A row of parameters and values, cut. -/
theorem zip_take {ps : List ByteArray} {l : List Vl} {k : Nat} (hp : k < ps.length) (hl : k < l.length) : (ps.zip l).take (k + 1) = (ps.zip l).take k ++ [(ps[k], l[k])] := by
  have h : k < (ps.zip l).length := by rw [List.length_zip]; omega
  rw [List.take_succ_eq_append_getElem h, List.getElem_zip]
theorem last_of (vs : List Vl) (v : Vl) : (vs ++ [v]).getLast?.getD (vB false) = v := by simp
theorem call_at {X : Cx} {s : ByteArray} {i : Nat} (h : funO X.F s = some i) (hi : i < X.F.length) (ev : List Bd → Nat → Ex → Nat → Rs) (l : List Vl) (d f : Nat) :
    calO X.F ev s l d f = if l.length ≠ X.F[i].2.1.length then ((v0, 1), f) else if 32 ≤ d then ((v0, 4), f) else lastO (allO (ev (X.F[i].2.1.zip l) (d + 1)) X.F[i].2.2 f) := by
  unfold calO
  rw [h]
  dsimp only
  rw [List.getElem?_eq_getElem hi]
theorem own_len {w : World} {B : Nat} {e : TypeId} {size : Nat} {v : Value} {n : Nat} {xs : List Value} (h : w.ownsRow B e size v n xs) : n ≤ maxLen := by
  rcases h.2 with ⟨_, rfl⟩ | ⟨_, _, _, _, _, _, h1, h2, _⟩
  · exact Nat.zero_le _
  · omega
theorem keepNe {F : Nat → Prop} {W W' : World} {g : Nat} {o : Obj} (h : W.heap[g]? = some o) (k : Keep F W W') (hg : ¬ F g) : W'.heap[g]? = some o := (k.block g (Array.getElem?_eq_some_iff.1 h).1 hg).trans h
/-- The result's block, set. -/
theorem res3 {X : Cx} {W w' : World} {rf : Nat} (g : Nat) (T : TypeId) (hg : W.heap.size ≤ g) (hml : X.m < W.heap.size) (hK : KM X W w') (hM : FuelAt X w' rf) (hR : w'.heap[g]? = some (.cells #[.int .i64 0, .int .i64 0, .string ⟨#[]⟩] T (0, 0))) (a b c : Value) :
    (w'.cell? ⟨g, 0, none⟩ = some (.int .i64 0) ∧ w'.cell? ⟨g, 1, none⟩ = some (.int .i64 0) ∧ w'.cell? ⟨g, 2, none⟩ = some (.string ⟨#[]⟩)) ∧ (∀ j, w'.frozen? ⟨g, j, none⟩ = false) ∧
    ∀ w9, ((w'.setCell ⟨g, 0, none⟩ a).setCell ⟨g, 1, none⟩ b).setCell ⟨g, 2, none⟩ c = w9 → KM X W w9 ∧ FuelAt X w9 rf ∧ w9.cell? ⟨g, 0, none⟩ = some a ∧ w9.cell? ⟨g, 1, none⟩ = some b ∧ w9.cell? ⟨g, 2, none⟩ = some c := by
  refine ⟨⟨block_cell hR rfl, block_cell hR rfl, block_cell hR rfl⟩, fun j => block_free hR, ?_⟩
  rintro w9 rfl
  have h9 := block_set (block_set (block_set hR (j := 0) a) (j := 1) b) (j := 2) c
  refine ⟨((hK.setCell (p := ⟨g, 0, none⟩) (.inr hg) a).setCell (p := ⟨g, 1, none⟩) (.inr hg) b).setCell (p := ⟨g, 2, none⟩) (.inr hg) c, ?_, block_cell h9 rfl, block_cell h9 rfl, block_cell h9 rfl⟩
  have hne : X.m ≠ g := by omega
  exact ((Below.heap_setCell _ ⟨g, 2, none⟩ c X.m hne).trans ((Below.heap_setCell _ ⟨g, 1, none⟩ b X.m hne).trans (Below.heap_setCell _ ⟨g, 0, none⟩ a X.m hne))).trans hM
set_option maxRecDepth 100000 in
set_option maxHeartbeats 4000000 in
theorem call_some {X : Cx} (hX : CxOk X) {g : Nat} (hev : EvC X g) (s : ByteArray) (i : Nat) (hs : funO X.F s = some i) (LA : Option Addr) (lc : Nat) (l : List Vl) (d f : Nat) (W : World) (hf : f ≤ g) (hA : At X W f) (hV : ValsAt W LA l) (hl : l.length ≤ 100000) (hg : ∀ v ∈ l, goodV v) (hd : d ≤ 40) :
    Calls Tryz.prog 68 #[.pointer (some ⟨X.m, 0, none⟩), .string s, .slice LA l.length lc, .int .i64 d] W (Ends X W (calO X.F (evG X.F X.G g) s l d f)) := by
  have hi := fun_lt hs
  rw [call_at hs hi]
  have hI : funI X.F s = i := by unfold funI; rw [hs]
  have B1 := Lib.hid (((Below.refl W.heap.size W).alloc (Nat.le_refl _) (.cells #[.string s] 9)).alloc (by simp) (.cells #[.int .i64 0, .int .i64 0, .string ⟨#[]⟩] 26))
  have hn0 := (Below.heap_alloc (W.alloc (.cells #[.string s] 9)) (.cells #[.int .i64 0, .int .i64 0, .string ⟨#[]⟩] 26) W.heap.size (by simp)).trans (heap_alloc_new W _)
  have hr0 := heap_alloc_new (W.alloc (.cells #[.string s] 9)) (.cells #[.int .i64 0, .int .i64 0, .string ⟨#[]⟩] 26)
  rw [World.size_alloc] at hr0
  have hF := hX.gF
  generalize hwb : (W.alloc (.cells #[.string s] 9)).alloc (.cells #[.int .i64 0, .int .i64 0, .string ⟨#[]⟩] 26) = wb at B1 hn0 hr0
  have A1 := Lib.hid (hA.bel hX B1.out)
  have IX := Lib.hid (indexF_c X.N X.FA X.fc X.F W.heap.size s i hI wb (block_cell hn0 rfl) A1.out.funs (by have := hF.1; omega))
  have HV := Lib.hid (fun w (h : Below W.heap.size W w) => hV.below h)
  have HR := Lib.hid hr0
  have HX := Lib.hid hX
  have HEV := Lib.hid hev
  have HA0 := Lib.hid hA
  have HG := Lib.hid hg
  have HF := Lib.hid hf
  have cf := A1.out.mach.f
  have HFI := Lib.hid (hF.2 X.F[i] (List.getElem_mem hi))
  have HFN := Lib.hid (fun w (h : FunsAt X.N w X.FA X.F) => h i hi)
  have hiI : (i : Int) < (X.F.length : Int) := by omega
  have hlI : (l.length : Int) ≤ 100000 := by omega
  have hFI : (X.F.length : Int) ≤ 900000 := by have := hF.1; omega
  clear hA hV hg hX hI hs hn0 hr0 hF hev hf
  generalize X.F[i] = x at *
  obtain ⟨xn, xp, xb⟩ := x
  dsimp only at HFI HFN
  have hpI : (xp.length : Int) ≤ 100000 := by have := HFI.out.1; omega
  by_cases hlen : l.length ≠ xp.length
  · dsimp only
    rw [if_pos hlen]
    have e1 : ((l.length : Int) == (xp.length : Int)) = false := by simp; omega
    have e2 : ((l.length : Int) != (xp.length : Int)) = true := by simp; omega
    have e3 : ¬ (l.length : Int) = (xp.length : Int) := by omega
    go_enter Tryz.func68, Tryz.ntmps68
    go_wp2_with fail
    refine IX.out.mono ?_
    rintro z w2 ⟨rfl, q2⟩
    have B2 := Lib.hid (B1.out.trans (q2.mono B1.out.size))
    have A2 := Lib.hid (A1.out.bel HX.out q2)
    have HR2 := Lib.hid (keepB HR.out q2)
    clear q2 cf
    have cf := A2.out.mach.f
    obtain ⟨ad, PA, pc, BA, bc, hFA, _, ⟨c0, c1, c2⟩, _, _⟩ := HFN.out _ A2.out.funs
    rw [hFA] at cf
    have B3 := Lib.hid (B2.out.alloc B2.out.size (.cells #[.string xn, .slice PA xp.length pc, .slice BA xb.length bc] 117))
    have hr3 := (Below.heap_alloc w2 (.cells #[.string xn, .slice PA xp.length pc, .slice BA xb.length bc] 117) _ (Array.getElem?_eq_some_iff.1 HR2.out).1).trans HR2.out
    have d0 := block_cell (j := 0) hr3 rfl
    have d1 := block_cell (j := 1) hr3 rfl
    have d2 := block_cell (j := 2) hr3 rfl
    have f0 := fun j => block_free (j := j) hr3
    have B9 := Lib.hid ((((B3.out).setCell (p := ⟨W.heap.size + 1, 0, none⟩) (by simp) (.int .i64 0)).setCell (p := ⟨W.heap.size + 1, 1, none⟩) (by simp) (.int .i64 0)).setCell (p := ⟨W.heap.size + 1, 2, none⟩) (by simp) (.string ⟨#[]⟩))
    have hr9 := Lib.hid (block_set (block_set (block_set hr3 (j := 0) (.int .i64 0)) (j := 1) (.int .i64 0)) (j := 2) (.string ⟨#[]⟩))
    go_wp2_with fail
    have e0 := block_cell (j := 0) hr9.out rfl
    have e1 := block_cell (j := 1) hr9.out rfl
    have e2 := block_cell (j := 2) hr9.out rfl
    have hb9 := B9.out
    generalize (((w2.alloc (.cells #[.string xn, .slice PA xp.length pc, .slice BA xb.length bc] 117)).setCell ⟨W.heap.size + 1, 0, none⟩ (.int .i64 0)).setCell ⟨W.heap.size + 1, 1, none⟩ (.int .i64 0)).setCell ⟨W.heap.size + 1, 2, none⟩ (.string ⟨#[]⟩) = w9 at e0 e1 e2 hb9 ⊢
    exact bodyPost_ret (v := pairV (v0, 1)) (by simp [results, Tryz.results68, go_sem, e0, e1, e2]) rfl ⟨rfl, (HA0.out.bel HX.out hb9).mach, Keep.of_below hb9 _⟩
  · have hle : l.length = xp.length := by omega
    rw [if_neg (by simpa using hle)]
    have e3 : (l.length : Int) = (xp.length : Int) := by omega
    by_cases h32 : 32 ≤ d
    · rw [if_pos h32]
      have hdI : (32 : Int) ≤ (d : Int) := by omega
      have hd1 : decide ((32 : Int) ≤ (d : Int)) = true := decide_eq_true hdI
      go_enter Tryz.func68, Tryz.ntmps68
      go_wp2_with fail
      refine IX.out.mono ?_
      rintro z w2 ⟨rfl, q2⟩
      have B2 := Lib.hid (B1.out.trans (q2.mono B1.out.size))
      have A2 := Lib.hid (A1.out.bel HX.out q2)
      have HR2 := Lib.hid (keepB HR.out q2)
      clear q2 cf
      have cf := A2.out.mach.f
      obtain ⟨ad, PA, pc, BA, bc, hFA, _, ⟨c0, c1, c2⟩, _, _⟩ := HFN.out _ A2.out.funs
      rw [hFA] at cf
      have B3 := Lib.hid (B2.out.alloc B2.out.size (.cells #[.string xn, .slice PA xp.length pc, .slice BA xb.length bc] 117))
      have hr3 := (Below.heap_alloc w2 (.cells #[.string xn, .slice PA xp.length pc, .slice BA xb.length bc] 117) _ (Array.getElem?_eq_some_iff.1 HR2.out).1).trans HR2.out
      have d0 := block_cell (j := 0) hr3 rfl
      have d1 := block_cell (j := 1) hr3 rfl
      have d2 := block_cell (j := 2) hr3 rfl
      have f0 := fun j => block_free (j := j) hr3
      have B9 := Lib.hid ((((B3.out).setCell (p := ⟨W.heap.size + 1, 0, none⟩) (by simp) (.int .i64 0)).setCell (p := ⟨W.heap.size + 1, 1, none⟩) (by simp) (.int .i64 0)).setCell (p := ⟨W.heap.size + 1, 2, none⟩) (by simp) (.string ⟨#[]⟩))
      have hr9 := Lib.hid (block_set (block_set (block_set hr3 (j := 0) (.int .i64 0)) (j := 1) (.int .i64 0)) (j := 2) (.string ⟨#[]⟩))
      go_wp2_with fail
      have e0 := block_cell (j := 0) hr9.out rfl
      have e1 := block_cell (j := 1) hr9.out rfl
      have e2 := block_cell (j := 2) hr9.out rfl
      have hb9 := B9.out
      generalize (((w2.alloc (.cells #[.string xn, .slice PA xp.length pc, .slice BA xb.length bc] 117)).setCell ⟨W.heap.size + 1, 0, none⟩ (.int .i64 0)).setCell ⟨W.heap.size + 1, 1, none⟩ (.int .i64 0)).setCell ⟨W.heap.size + 1, 2, none⟩ (.string ⟨#[]⟩) = w9 at e0 e1 e2 hb9 ⊢
      exact bodyPost_ret (v := pairV (v0, 4)) (by simp [results, Tryz.results68, go_sem, e0, e1, e2]) rfl ⟨rfl, (HA0.out.bel HX.out hb9).mach, Keep.of_below hb9 _⟩
    · rw [if_neg h32]
      have hdI : (d : Int) < 32 := by omega
      have hd1 : decide ((32 : Int) ≤ (d : Int)) = false := decide_eq_false (by omega)
      obtain ⟨i0, hi0, hz0, hz1, hz2⟩ := info_parts infoB
      go_enter Tryz.func68, Tryz.ntmps68
      go_wp2_with fail
      refine IX.out.mono ?_
      rintro z w2 ⟨rfl, q2⟩
      have B2 := Lib.hid (B1.out.trans (q2.mono B1.out.size))
      have A2 := Lib.hid (A1.out.bel HX.out q2)
      have HR2 := Lib.hid (keepB HR.out q2)
      clear q2 cf
      have cf := A2.out.mach.f
      obtain ⟨ad, PA, pc, BA, bc, hFA, _, ⟨c0, c1, c2⟩, hPA, hBA⟩ := HFN.out _ A2.out.funs
      rw [hFA] at cf
      have hnew := heap_alloc_new w2 (.cells #[.string xn, .slice PA xp.length pc, .slice BA xb.length bc] 117)
      have B3 := Lib.hid (B2.out.alloc B2.out.size (.cells #[.string xn, .slice PA xp.length pc, .slice BA xb.length bc] 117))
      have BX := Lib.hid ((Below.refl w2.heap.size w2).alloc (Nat.le_refl _) (.cells #[.string xn, .slice PA xp.length pc, .slice BA xb.length bc] 117))
      have A3 := Lib.hid (A2.out.bel HX.out BX.out)
      have HR3 := Lib.hid (keepB HR2.out BX.out)
      have HPA := Lib.hid hPA
      have HBA := Lib.hid (hBA.bel BX.out)
      generalize hw3 : w2.alloc (.cells #[.string xn, .slice PA xp.length pc, .slice BA xb.length bc] 117) = w3 at B3 BX A3 HR3 HBA hnew
      have HNW := Lib.hid hnew
      have x1 := block_cell (j := 1) hnew rfl
      have x2 := block_cell (j := 2) hnew rfl
      have HZL : Hid ((xp.zip l).length = xp.length) := Lib.hid (by rw [List.length_zip]; omega)
      have HLT := Lib.hid A3.out.lt
      clear hPA hBA hnew
      go_wp2_with fail
      go_loopw [12, 52] (fun o ix wr => ∃ k : Nat, k ≤ xp.length ∧ ix = .int .i64 k ∧ Hid (wr.ownsRow w3.heap.size 73 4 o k (((xp.zip l).take k).flatMap b4)) ∧ Hid (Below w3.heap.size w3 wr)) (fun _ ix _ => xp.length - (intOf ix).toNat)
      case atStart => exact ⟨0, by omega, rfl, Lib.hid (World.ownsRow_nil _ _ _ _), Lib.hid (Below.refl _ _)⟩
      case round =>
        obtain ⟨k, hk, rfl, hO, hB⟩ := hrel
        by_cases hlt : k < xp.length
        · have hltI : (k : Int) < (xp.length : Int) := by omega
          have hlt2 : k < l.length := by omega
          have hZ := Lib.hid (zip_take hlt hlt2)
          obtain ⟨a, rfl, _, cp⟩ := HPA.out k hlt
          have cp1 := (hB.out.cell (World.block_lt_of_cell? _ _ (((BX.out.cell (World.block_lt_of_cell? _ _ cp)).trans cp)))).trans ((BX.out.cell (World.block_lt_of_cell? _ _ cp)).trans cp)
          have hBW := Lib.hid (B3.out.trans (hB.out.mono B3.out.size))
          obtain ⟨av, hav, v0c, v1c, v2c⟩ := (HV.out _ hBW.out).at hlt2
          subst hav
          clear cp
          generalize xp[k] = pn at *
          generalize l[k] = v at *
          obtain ⟨v1, v2, v3⟩ := v
          dsimp only at v0c v1c v2c
          have N5 : Hid (∀ j u, (b4 (pn, v1, v2, v3))[j]? = some u → (wr.alloc (.cells #[.string pn, .int .i64 v1, .int .i64 v2, .string v3] 73)).cell? ((⟨wr.heap.size, 0, none⟩ : Addr).add j) = some u) := Lib.hid (fun j u hu => by
            rw [show (⟨wr.heap.size, 0, none⟩ : Addr).add j = ⟨wr.heap.size, j, none⟩ by simp [Addr.add]; omega]
            exact block_cell (heap_alloc_new wr _) (by simpa using hu))
          have B5 := Lib.hid (hB.out.alloc hB.out.size (.cells #[.string pn, .int .i64 v1, .int .i64 v2, .string v3] 73))
          have O5 := Lib.hid (hO.out.alloc (.cells #[.string pn, .int .i64 v1, .int .i64 v2, .string v3] 73))
          go_wp2_with (at_builtin; refine wpList_append_own _ rfl (.tmp 57) (.tmp 64) 38 rfl w3.heap.size 73 i0 zB 4 48 Tryz.underlying38 hi0 hz0 hz1 hz2 rfl (by decide) _ k _ rfl O5.out ⟨wr.heap.size, 0, none⟩ 1 1 (b4 (pn, v1, v2, v3)) rfl rfl N5.out (by have := b4_flat [(pn, v1, v2, v3)]; simpa using this) (by unfold maxLen; omega) (by omega) B5.out.size ?_)
          intro v' w5 hown hg hnil
          have hown2 : Hid (w5.ownsRow w3.heap.size 73 4 v' (k + 1) (((xp.zip l).take (k + 1)).flatMap b4)) := Lib.hid (by rw [hZ.out]; simpa using hown)
          have hB5 := Lib.hid (B5.out.grown hg B5.out.size (fun q hq => (O5.out.lt q hq).1))
          clear hown hg hnil
          go_wp2_with fail
          exact ⟨⟨k + 1, by omega, by go_num, hown2, hB5⟩, by simp [intOf]; omega⟩
        · obtain rfl : k = xp.length := by omega
          have hO2 := hO.out
          rw [List.take_of_length_le (by rw [HZL.out]; exact Nat.le_refl _)] at hO2
          have hNl : ∀ q, X.N q → q < w3.heap.size := HLT.out
          obtain ⟨A5, c5, hv5, hb5, hl5, _, _⟩ := owns_binds (N := X.N) hO2 hNl
          subst hv5
          have A6 := Lib.hid (A3.out.bel HX.out hB.out)
          have hml := HA0.out.mach.lt
          have K6 := Lib.hid (Keep.of_below (B3.out.trans (hB.out.mono B3.out.size)) (fun k => k = X.m))
          have HR6 := Lib.hid (keepB HR3.out hB.out)
          have cb := (hB.out.cell (World.block_lt_of_cell? _ _ x2)).trans x2
          have HGZ : Hid (goodB (xp.zip l)) := Lib.hid ⟨by rw [hl5]; omega, zip_good HG.out⟩
          have AL := Lib.hid (all_c HX.out HEV.out BA bc xb (xp.zip l) A5 c5 (d + 1) f wr HF.out A6.out hb5 (HBA.out.bel hB.out) HFI.out.2 HGZ.out (by omega))
          rw [hl5] at AL
          have hR9 := fun (w' : World) rf => res3 (X := X) (W := W) (w' := w') (rf := rf) (W.heap.size + 1) 26 (by omega) hml
          have HRS := Lib.hid hR9
          clear hR9 hb5 hO2 hNl hO
          generalize hr : allO (evG X.F X.G g (xp.zip l) (d + 1)) xb f = r at *
          obtain ⟨⟨vs, rc⟩, rf⟩ := r
          clear hr
          rw [hl5]
          by_cases hrc : rc = 0
          · subst hrc
            rcases List.eq_nil_or_concat vs with rfl | ⟨ws, vl, hvs⟩
            · have HLA : Hid (lastO (([], 0), rf) = ((vB false, 0), rf)) := Lib.hid rfl
              go_wp2_with fail
              refine AL.out.mono ?_
              rintro z w6 ⟨v, rfl, hO6, m6, k6⟩
              obtain ⟨A7, c7, rfl⟩ : ∃ A7 c7, v = .slice A7 0 c7 := by
                rcases hO6.2 with ⟨rfl, _⟩ | ⟨q, cap, cur, rfl, _⟩
                · exact ⟨none, 0, rfl⟩
                · exact ⟨_, cap, rfl⟩
              have HR7 := Lib.hid (keepNe HR6.out k6 (by omega))
              have M6 := Lib.hid m6
              have K7 := Lib.hid (KM.tr K6.out k6)
              clear m6 k6 hO6
              go_wp2_with fail
              refine (ofBool_c false _).mono ?_
              rintro z w7 ⟨rfl, q7⟩
              obtain ⟨⟨d0, d1, d2⟩, f0, h9⟩ := HRS.out w7 rf (KM.bel K7.out q7) (M6.out.below q7) (keepB HR7.out q7) (.int .i64 2) (.int .i64 0) (.string (sB false))
              have H9 := Lib.hid h9
              clear h9 q7
              go_wp2_with fail
              generalize hw9 : ((w7.setCell ⟨W.heap.size + 1, 0, none⟩ (.int .i64 2)).setCell ⟨W.heap.size + 1, 1, none⟩ (.int .i64 0)).setCell ⟨W.heap.size + 1, 2, none⟩ (.string (sB false)) = w9 at *
              obtain ⟨k9, m9, e0, e1, e2⟩ := H9.out w9 rfl
              exact bodyPost_ret (v := pairV (vB false, 0)) (by simp [results, Tryz.results68, go_sem, e0, e1, e2]) rfl (by rw [HLA.out]; exact ⟨rfl, m9, k9⟩)
            · rw [List.concat_eq_append] at hvs
              subst hvs
              have HLA : Hid (lastO ((ws ++ [vl], 0), rf) = ((vl, 0), rf)) := Lib.hid (by unfold lastO; rw [if_neg (by simp)]; simp)
              go_wp2_with fail
              refine AL.out.mono ?_
              rintro z w6 ⟨v, rfl, hO6, m6, k6⟩
              obtain ⟨hln, ho⟩ := vals_owns hO6
              dsimp only at hln ho
              rw [List.length_append, List.length_singleton] at ho
              rcases ho with ⟨h0, _⟩ | ⟨gq, cp, cur, rfl, hgq, _, hcp, hcur⟩
              · exfalso; omega
              have hVL := (vals_at_own hgq hcur).at (k := ws.length) (by simp)
              obtain ⟨av, hav, c0, c1, c2⟩ := hVL
              rw [List.getElem_append_right (Nat.le_refl _)] at c0 c1 c2
              simp only [Nat.sub_self, List.getElem_cons_zero] at c0 c1 c2
              obtain rfl := Option.some.inj hav
              rw [show (⟨gq, 0, none⟩ : Addr).add (ws.length * 3) = ⟨gq, ws.length * 3, none⟩ by simp [Addr.add]; omega] at c0 c1 c2
              obtain ⟨v1, v2, v3⟩ := vl
              dsimp only at c0 c1 c2
              have HR7 := keepNe HR6.out k6 (by omega)
              obtain ⟨⟨d0, d1, d2⟩, f0, h9⟩ := HRS.out w6 rf (KM.tr K6.out k6) m6 HR7 (.int .i64 v1) (.int .i64 v2) (.string v3)
              have H9 := Lib.hid h9
              have hwI : (ws.length : Int) ≤ 9223372036854775806 := by
                have h1 := own_len hO6
                dsimp only at h1
                rw [List.length_append, List.length_singleton] at h1
                unfold maxLen at h1
                omega
              have hp1 : ((ws.length + 1 : Nat) : Int) = (ws.length : Int) + 1 := by omega
              clear h9 HR7 m6 k6 hln hO6 hgq hcur hav
              go_wp2_with fail
              generalize hw9 : ((w6.setCell ⟨W.heap.size + 1, 0, none⟩ (.int .i64 v1)).setCell ⟨W.heap.size + 1, 1, none⟩ (.int .i64 v2)).setCell ⟨W.heap.size + 1, 2, none⟩ (.string v3) = w9 at *
              obtain ⟨k9, m9, e0, e1, e2⟩ := H9.out w9 rfl
              exact bodyPost_ret (v := pairV ((v1, v2, v3), 0)) (by simp [results, Tryz.results68, go_sem, e0, e1, e2]) rfl (by rw [HLA.out]; exact ⟨rfl, m9, k9⟩)
          · have e4 : (rc == 0) = false := by simp [hrc]
            have e5 : (rc != 0) = true := by simp [hrc]
            have HLA : Hid (lastO ((vs, rc), rf) = ((v0, rc), rf)) := Lib.hid (by unfold lastO; rw [if_pos hrc])
            clear hrc
            go_wp2_with fail
            refine AL.out.mono ?_
            rintro z w6 ⟨v, rfl, _, m6, k6⟩
            have HR7 := keepNe HR6.out k6 (by omega)
            obtain ⟨⟨d0, d1, d2⟩, f0, h9⟩ := HRS.out w6 rf (KM.tr K6.out k6) m6 HR7 (.int .i64 0) (.int .i64 0) (.string ⟨#[]⟩)
            have H9 := Lib.hid h9
            clear h9 HR7 m6 k6
            go_wp2_with fail
            generalize hw9 : ((w6.setCell ⟨W.heap.size + 1, 0, none⟩ (.int .i64 0)).setCell ⟨W.heap.size + 1, 1, none⟩ (.int .i64 0)).setCell ⟨W.heap.size + 1, 2, none⟩ (.string ⟨#[]⟩) = w9 at *
            obtain ⟨k9, m9, e0, e1, e2⟩ := H9.out w9 rfl
            exact bodyPost_ret (v := pairV (v0, rc)) (by simp [results, Tryz.results68, go_sem, e0, e1, e2]) rfl (by rw [HLA.out]; exact ⟨rfl, m9, k9⟩)
end Go.Proofs.YtmadnehipagakaaGreatDoor
