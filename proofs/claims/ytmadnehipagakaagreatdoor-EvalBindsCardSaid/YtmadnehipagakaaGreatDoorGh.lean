/- eval itself, kind by kind, at an evaluator that keeps its contract for less fuel. -/
import Derived.Test.YtmadnehipagakaaGreatDoorGg
namespace Go.Proofs.YtmadnehipagakaaGreatDoor
open Go.RowKit Go.Lib Go.Sort Go.Shelf KP
theorem found_w (r : Vl × Bool) (q : Vl × Int) (h : foundO r = q) (w : World) : Calls Tryz.prog 98 #[r.1.val, .bool r.2] w fun e w' => e = .returned (pairV q) ∧ Below w.heap.size w w' := by
  rw [← h]; exact found_c r.1 r.2 w
theorem get_w (A : Option Addr) (c : Nat) (l : List Bd) (s : ByteArray) (r : Vl × Bool) (hr : getO l s = r) (hl : l.length ≤ 1000000) (w : World) (hI : BindsAt (fun _ => False) w A l) :
    Calls Tryz.prog 31 #[.slice A l.length c, .string s] w fun e W' => e = .returned (.tuple #[r.1.val, .bool r.2]) ∧ Below w.heap.size w W' := by
  rw [← hr]; exact get_c A c l s hl w hI
theorem ev_succ (F : List Fu) (G : List Bd) (g : Nat) (env : List Bd) (d : Nat) (e : Ex) (f : Nat) : evG F G (g + 1) env d e (f + 1) = evS F G (evG F G g) env d e f := by
  show (if f + 1 = 0 then _ else _) = _
  rw [if_neg (by omega)]; rfl
theorem all_len {ev : Ex → Nat → Rs} (l : List Ex) (f : Nat) : (allO ev l f).1.1.length ≤ l.length := by
  have : ∀ (l : List Ex) (st : (List Vl × Int) × Nat), (l.foldl (allS ev) st).1.1.length ≤ st.1.1.length + l.length := by
    intro l
    induction l with
    | nil => intro st; simp
    | cons e l ih =>
      intro st
      rw [List.foldl_cons]
      refine Nat.le_trans (ih _) ?_
      have h : (allS ev st e).1.1.length ≤ st.1.1.length + 1 := by
        unfold allS
        split
        · omega
        · split <;> simp
      simp
      omega
  have h := this l (([], 0), f)
  unfold allO
  simpa using h
set_option maxRecDepth 100000 in
set_option maxHeartbeats 4000000 in
theorem eval_0 {X : Cx} (hX : CxOk X) {g : Nat} (e : Ex) (B : Option Addr) (c : Nat) (env : List Bd) (EA : Option Addr) (ec d : Nat) (W : World) (hA : At X W 0) :
    Calls Tryz.prog 62 #[.pointer (some ⟨X.m, 0, none⟩), exV e B c, .slice EA env.length ec, .int .i64 d] W (Ends X W (evG X.F X.G g env d e 0)) := by
  have HQ : Hid (evG X.F X.G g env d e 0 = ((v0, 9), 0)) := Lib.hid (by cases g with | zero => rfl | succ g => show (if (0 : Nat) = 0 then _ else _) = _; rw [if_pos rfl])
  have hml := hA.mach.lt
  obtain ⟨wb, hwb, hB1, hA1, hK1, hx1, hr1⟩ := ebox hX e B c W 0 hA
  have K1 := Lib.hid hK1
  have HR1 := Lib.hid hr1
  have UN := Lib.hid (use_no X.m (.slice X.FA X.F.length X.fc) X.GA X.G.length X.gc wb hA1.mach)
  have HRS := Lib.hid (fun (w' : World) rf => res3 (X := X) (W := W) (w' := w') (rf := rf) (W.heap.size + 1) 26 (by omega) hml)
  clear hX hA hB1 hA1 hK1 hx1 hr1
  go_enter Tryz.func62, Tryz.ntmps62
  go_wp2_with fail
  refine UN.out.mono ?_
  rintro z w2 ⟨rfl, m2, k2⟩
  obtain ⟨⟨d0, d1, d2⟩, f0, h9⟩ := HRS.out w2 0 (KM.tr K1.out k2) m2 (keepNe HR1.out k2 (by omega)) (.int .i64 0) (.int .i64 0) (.string ⟨#[]⟩)
  have H9 := Lib.hid h9
  clear h9 m2 k2
  go_wp2_with fail
  generalize hw9 : ((w2.setCell ⟨W.heap.size + 1, 0, none⟩ (.int .i64 0)).setCell ⟨W.heap.size + 1, 1, none⟩ (.int .i64 0)).setCell ⟨W.heap.size + 1, 2, none⟩ (.string ⟨#[]⟩) = w9 at *
  obtain ⟨k9, m9, q0, q1, q2⟩ := H9.out w9 rfl
  exact bodyPost_ret (v := pairV (v0, 9)) (by simp [results, Tryz.results62, go_sem, q0, q1, q2]) rfl (by rw [HQ.out]; exact ⟨rfl, m9, k9⟩)
set_option maxRecDepth 100000 in
set_option maxHeartbeats 4000000 in
theorem eval_1 {X : Cx} (hX : CxOk X) {g : Nat} (hev : EvC X g) (e : Ex) (B : Option Addr) (c : Nat) (env : List Bd) (EA : Option Addr) (ec d f : Nat) (W : World) (hf : f ≤ g) (hA : At X W (f + 1)) (hE : BindsAt X.N W EA env) (hL : ExAt X.N W e B) (he : goodE e) (henv : goodB env) (hd : d ≤ 40) (hk : e.k = 1) :
    Calls Tryz.prog 62 #[.pointer (some ⟨X.m, 0, none⟩), exV e B c, .slice EA env.length ec, .int .i64 d] W (Ends X W (evG X.F X.G (g + 1) env d e (f + 1))) := by
  have HQ : Hid (evG X.F X.G (g + 1) env d e (f + 1) = ((e.v, 0), f)) := Lib.hid (by rw [ev_succ]; unfold evS; rw [if_pos hk])
  have g1 : (e.k == 1) = true := by simp [hk]
  have hml := hA.mach.lt
  obtain ⟨wb, hwb, hB1, hA1, hK1, hx1, hr1⟩ := ebox hX e B c W (f + 1) hA
  have K1 := Lib.hid hK1
  have A1 := Lib.hid hA1
  have HX1 := Lib.hid hx1
  have HR1 := Lib.hid hr1
  have UY := Lib.hid (use_yes X.m (.slice X.FA X.F.length X.fc) X.GA X.G.length X.gc f wb hA.few hA1.mach)
  have HE := Lib.hid (fun W' (h : KM X W W') => hE.keep h (fun k e => by subst e; exact hX.hm))
  have HL := Lib.hid (fun W' (h : KM X W W') => hL.keep h (fun k e => by subst e; exact hX.hm))
  have HX := Lib.hid hX
  have HEV := Lib.hid hev
  have HGE := Lib.hid henv
  have HG := Lib.hid (ev_good hX.gF hX.gG.2 g)
  have HD := Lib.hid hd
  have HF := Lib.hid hf
  have HEE := Lib.hid he
  have HRS := Lib.hid (fun (w' : World) rf => res3 (X := X) (W := W) (w' := w') (rf := rf) (W.heap.size + 1) 26 (by omega) hml)
  have hlI : (e.kids.length : Int) ≤ 100000 := by have := he.len; omega
  clear hX hE hL hev he henv hA hd hf hB1 hA1 hK1 hx1 hr1 hk
  go_enter Tryz.func62, Tryz.ntmps62
  go_wp2_with fail
  refine UY.out.mono ?_
  rintro z w2 ⟨rfl, m2, k2⟩
  have A2 := Lib.hid (A1.out.step HX.out k2 m2 (Nat.le_succ f))
  have K2 := Lib.hid (KM.tr K1.out k2)
  have HX2 := Lib.hid (keepNe HX1.out k2 (by omega))
  have HR2 := Lib.hid (keepNe HR1.out k2 (by omega))
  obtain ⟨c0, c1, c2, c3, c4, c5⟩ := ecells HX2.out
  clear m2 k2 hwb
  obtain ⟨⟨d0, d1, d2⟩, f0, h9⟩ := HRS.out w2 _ K2.out A2.out.mach HR2.out (.int .i64 e.v.1) (.int .i64 e.v.2.1) (.string e.v.2.2)
  have H9 := Lib.hid h9
  clear h9
  go_wp2_with fail
  generalize hw9 : ((w2.setCell ⟨W.heap.size + 1, 0, none⟩ (.int .i64 e.v.1)).setCell ⟨W.heap.size + 1, 1, none⟩ (.int .i64 e.v.2.1)).setCell ⟨W.heap.size + 1, 2, none⟩ (.string e.v.2.2) = w9 at *
  obtain ⟨k9, m9, q0, q1, q2⟩ := H9.out w9 rfl
  exact bodyPost_ret (v := pairV (e.v, 0)) (by simp [results, Tryz.results62, go_sem, q0, q1, q2]) rfl (by rw [HQ.out]; exact ⟨rfl, m9, k9⟩)
set_option maxRecDepth 100000 in
set_option maxHeartbeats 4000000 in
theorem eval_2 {X : Cx} (hX : CxOk X) {g : Nat} (hev : EvC X g) (e : Ex) (B : Option Addr) (c : Nat) (env : List Bd) (EA : Option Addr) (ec d f : Nat) (W : World) (hf : f ≤ g) (hA : At X W (f + 1)) (hE : BindsAt X.N W EA env) (hL : ExAt X.N W e B) (he : goodE e) (henv : goodB env) (hd : d ≤ 40) (hk : e.k = 2) :
    Calls Tryz.prog 62 #[.pointer (some ⟨X.m, 0, none⟩), exV e B c, .slice EA env.length ec, .int .i64 d] W (Ends X W (evG X.F X.G (g + 1) env d e (f + 1))) := by
  have HQ : Hid (evG X.F X.G (g + 1) env d e (f + 1) = (foundO (getO env e.s), f)) := Lib.hid (by rw [ev_succ]; unfold evS; rw [if_neg (by rw [hk]; decide)]; rw [if_pos hk])
  have g1 : (e.k == 1) = false := by simp [hk]
  have g2 : (e.k == 2) = true := by simp [hk]
  have hml := hA.mach.lt
  obtain ⟨wb, hwb, hB1, hA1, hK1, hx1, hr1⟩ := ebox hX e B c W (f + 1) hA
  have K1 := Lib.hid hK1
  have A1 := Lib.hid hA1
  have HX1 := Lib.hid hx1
  have HR1 := Lib.hid hr1
  have UY := Lib.hid (use_yes X.m (.slice X.FA X.F.length X.fc) X.GA X.G.length X.gc f wb hA.few hA1.mach)
  have HE := Lib.hid (fun W' (h : KM X W W') => hE.keep h (fun k e => by subst e; exact hX.hm))
  have HL := Lib.hid (fun W' (h : KM X W W') => hL.keep h (fun k e => by subst e; exact hX.hm))
  have HX := Lib.hid hX
  have HEV := Lib.hid hev
  have HGE := Lib.hid henv
  have HG := Lib.hid (ev_good hX.gF hX.gG.2 g)
  have HD := Lib.hid hd
  have HF := Lib.hid hf
  have HEE := Lib.hid he
  have HRS := Lib.hid (fun (w' : World) rf => res3 (X := X) (W := W) (w' := w') (rf := rf) (W.heap.size + 1) 26 (by omega) hml)
  have hlI : (e.kids.length : Int) ≤ 100000 := by have := he.len; omega
  clear hX hE hL hev he henv hA hd hf hB1 hA1 hK1 hx1 hr1 hk
  go_enter Tryz.func62, Tryz.ntmps62
  go_wp2_with fail
  refine UY.out.mono ?_
  rintro z w2 ⟨rfl, m2, k2⟩
  have A2 := Lib.hid (A1.out.step HX.out k2 m2 (Nat.le_succ f))
  have K2 := Lib.hid (KM.tr K1.out k2)
  have HX2 := Lib.hid (keepNe HX1.out k2 (by omega))
  have HR2 := Lib.hid (keepNe HR1.out k2 (by omega))
  obtain ⟨c0, c1, c2, c3, c4, c5⟩ := ecells HX2.out
  clear m2 k2 hwb
  generalize hrr : getO env e.s = r at HQ
  have GT := Lib.hid (get_w EA ec env e.s r hrr (by have := HGE.out.1; omega) w2 ((HE.out _ K2.out).mono (fun _ h => h.elim)))
  have FO := Lib.hid (fun q h w => found_w r q h w)
  clear hrr
  obtain ⟨⟨r1, r2, r3⟩, r4⟩ := r
  generalize hqq : foundO ((r1, r2, r3), r4) = q at HQ
  have FO := Lib.hid (FO.out q hqq)
  clear hqq
  obtain ⟨⟨s1, s2, s3⟩, sc⟩ := q
  go_wp2_with fail
  refine GT.out.mono ?_
  rintro z w3 ⟨rfl, q3⟩
  go_wp2_with fail
  refine (FO.out _).mono ?_
  rintro z w4 ⟨rfl, q4⟩
  have B4 := Lib.hid (q3.trans (q4.mono q3.size))
  clear q3 q4
  obtain ⟨⟨d0, d1, d2⟩, f0, h9⟩ := HRS.out w4 _ (KM.bel K2.out B4.out) (A2.out.mach.below B4.out) (keepB HR2.out B4.out) (.int .i64 s1) (.int .i64 s2) (.string s3)
  have H9 := Lib.hid h9
  clear h9
  go_wp2_with fail
  generalize hw9 : ((w4.setCell ⟨W.heap.size + 1, 0, none⟩ (.int .i64 s1)).setCell ⟨W.heap.size + 1, 1, none⟩ (.int .i64 s2)).setCell ⟨W.heap.size + 1, 2, none⟩ (.string s3) = w9 at *
  obtain ⟨k9, m9, q0, q1, q2⟩ := H9.out w9 rfl
  exact bodyPost_ret (v := pairV ((s1, s2, s3), sc)) (by simp [results, Tryz.results62, go_sem, q0, q1, q2]) rfl (by rw [HQ.out]; exact ⟨rfl, m9, k9⟩)
set_option maxRecDepth 100000 in
set_option maxHeartbeats 4000000 in
theorem eval_3 {X : Cx} (hX : CxOk X) {g : Nat} (hev : EvC X g) (e : Ex) (B : Option Addr) (c : Nat) (env : List Bd) (EA : Option Addr) (ec d f : Nat) (W : World) (hf : f ≤ g) (hA : At X W (f + 1)) (hE : BindsAt X.N W EA env) (hL : ExAt X.N W e B) (he : goodE e) (henv : goodB env) (hd : d ≤ 40) (hk : e.k = 3) :
    Calls Tryz.prog 62 #[.pointer (some ⟨X.m, 0, none⟩), exV e B c, .slice EA env.length ec, .int .i64 d] W (Ends X W (evG X.F X.G (g + 1) env d e (f + 1))) := by
  have HQ : Hid (evG X.F X.G (g + 1) env d e (f + 1) = (foundO (getO X.G e.s), f)) := Lib.hid (by rw [ev_succ]; unfold evS; rw [if_neg (by rw [hk]; decide)]; rw [if_neg (by rw [hk]; decide)]; rw [if_pos hk])
  have g1 : (e.k == 1) = false := by simp [hk]
  have g2 : (e.k == 2) = false := by simp [hk]
  have g3 : (e.k == 3) = true := by simp [hk]
  have hml := hA.mach.lt
  obtain ⟨wb, hwb, hB1, hA1, hK1, hx1, hr1⟩ := ebox hX e B c W (f + 1) hA
  have K1 := Lib.hid hK1
  have A1 := Lib.hid hA1
  have HX1 := Lib.hid hx1
  have HR1 := Lib.hid hr1
  have UY := Lib.hid (use_yes X.m (.slice X.FA X.F.length X.fc) X.GA X.G.length X.gc f wb hA.few hA1.mach)
  have HE := Lib.hid (fun W' (h : KM X W W') => hE.keep h (fun k e => by subst e; exact hX.hm))
  have HL := Lib.hid (fun W' (h : KM X W W') => hL.keep h (fun k e => by subst e; exact hX.hm))
  have HX := Lib.hid hX
  have HEV := Lib.hid hev
  have HGE := Lib.hid henv
  have HG := Lib.hid (ev_good hX.gF hX.gG.2 g)
  have HD := Lib.hid hd
  have HF := Lib.hid hf
  have HEE := Lib.hid he
  have HRS := Lib.hid (fun (w' : World) rf => res3 (X := X) (W := W) (w' := w') (rf := rf) (W.heap.size + 1) 26 (by omega) hml)
  have hlI : (e.kids.length : Int) ≤ 100000 := by have := he.len; omega
  clear hX hE hL hev he henv hA hd hf hB1 hA1 hK1 hx1 hr1 hk
  go_enter Tryz.func62, Tryz.ntmps62
  go_wp2_with fail
  refine UY.out.mono ?_
  rintro z w2 ⟨rfl, m2, k2⟩
  have A2 := Lib.hid (A1.out.step HX.out k2 m2 (Nat.le_succ f))
  have K2 := Lib.hid (KM.tr K1.out k2)
  have HX2 := Lib.hid (keepNe HX1.out k2 (by omega))
  have HR2 := Lib.hid (keepNe HR1.out k2 (by omega))
  obtain ⟨c0, c1, c2, c3, c4, c5⟩ := ecells HX2.out
  clear m2 k2 hwb
  generalize hrr : getO X.G e.s = r at HQ
  have GT := Lib.hid (glob_w X.m (.slice X.FA X.F.length X.fc) X.GA X.gc f X.G e.s r hrr (by have := HX.out.gG.1; omega) w2 A2.out.mach (A2.out.globs.mono (fun _ h => h.elim)))
  have FO := Lib.hid (fun q h w => found_w r q h w)
  clear hrr
  obtain ⟨⟨r1, r2, r3⟩, r4⟩ := r
  generalize hqq : foundO ((r1, r2, r3), r4) = q at HQ
  have FO := Lib.hid (FO.out q hqq)
  clear hqq
  obtain ⟨⟨s1, s2, s3⟩, sc⟩ := q
  go_wp2_with fail
  refine GT.out.mono ?_
  rintro z w3 ⟨rfl, q3⟩
  go_wp2_with fail
  refine (FO.out _).mono ?_
  rintro z w4 ⟨rfl, q4⟩
  have B4 := Lib.hid (q3.trans (q4.mono q3.size))
  clear q3 q4
  obtain ⟨⟨d0, d1, d2⟩, f0, h9⟩ := HRS.out w4 _ (KM.bel K2.out B4.out) (A2.out.mach.below B4.out) (keepB HR2.out B4.out) (.int .i64 s1) (.int .i64 s2) (.string s3)
  have H9 := Lib.hid h9
  clear h9
  go_wp2_with fail
  generalize hw9 : ((w4.setCell ⟨W.heap.size + 1, 0, none⟩ (.int .i64 s1)).setCell ⟨W.heap.size + 1, 1, none⟩ (.int .i64 s2)).setCell ⟨W.heap.size + 1, 2, none⟩ (.string s3) = w9 at *
  obtain ⟨k9, m9, q0, q1, q2⟩ := H9.out w9 rfl
  exact bodyPost_ret (v := pairV ((s1, s2, s3), sc)) (by simp [results, Tryz.results62, go_sem, q0, q1, q2]) rfl (by rw [HQ.out]; exact ⟨rfl, m9, k9⟩)
set_option maxRecDepth 100000 in
set_option maxHeartbeats 4000000 in
theorem eval_5 {X : Cx} (hX : CxOk X) {g : Nat} (hev : EvC X g) (e : Ex) (B : Option Addr) (c : Nat) (env : List Bd) (EA : Option Addr) (ec d f : Nat) (W : World) (hf : f ≤ g) (hA : At X W (f + 1)) (hE : BindsAt X.N W EA env) (hL : ExAt X.N W e B) (he : goodE e) (henv : goodB env) (hd : d ≤ 40) (hk : e.k = 5) :
    Calls Tryz.prog 62 #[.pointer (some ⟨X.m, 0, none⟩), exV e B c, .slice EA env.length ec, .int .i64 d] W (Ends X W (evG X.F X.G (g + 1) env d e (f + 1))) := by
  have HQ : Hid (evG X.F X.G (g + 1) env d e (f + 1) = chO (evG X.F X.G g env d) e.kids f) := Lib.hid (by rw [ev_succ]; unfold evS; rw [if_neg (by rw [hk]; decide)]; rw [if_neg (by rw [hk]; decide)]; rw [if_neg (by rw [hk]; decide)]; rw [if_neg (by rw [hk]; decide)]; rw [if_pos hk])
  have g1 : (e.k == 1) = false := by simp [hk]
  have g2 : (e.k == 2) = false := by simp [hk]
  have g3 : (e.k == 3) = false := by simp [hk]
  have g4 : (e.k == 4) = false := by simp [hk]
  have g5 : (e.k == 5) = true := by simp [hk]
  have hml := hA.mach.lt
  obtain ⟨wb, hwb, hB1, hA1, hK1, hx1, hr1⟩ := ebox hX e B c W (f + 1) hA
  have K1 := Lib.hid hK1
  have A1 := Lib.hid hA1
  have HX1 := Lib.hid hx1
  have HR1 := Lib.hid hr1
  have UY := Lib.hid (use_yes X.m (.slice X.FA X.F.length X.fc) X.GA X.G.length X.gc f wb hA.few hA1.mach)
  have HE := Lib.hid (fun W' (h : KM X W W') => hE.keep h (fun k e => by subst e; exact hX.hm))
  have HL := Lib.hid (fun W' (h : KM X W W') => hL.keep h (fun k e => by subst e; exact hX.hm))
  have HX := Lib.hid hX
  have HEV := Lib.hid hev
  have HGE := Lib.hid henv
  have HG := Lib.hid (ev_good hX.gF hX.gG.2 g)
  have HD := Lib.hid hd
  have HF := Lib.hid hf
  have HEE := Lib.hid he
  have HRS := Lib.hid (fun (w' : World) rf => res3 (X := X) (W := W) (w' := w') (rf := rf) (W.heap.size + 1) 26 (by omega) hml)
  have hlI : (e.kids.length : Int) ≤ 100000 := by have := he.len; omega
  clear hX hE hL hev he henv hA hd hf hB1 hA1 hK1 hx1 hr1 hk
  go_enter Tryz.func62, Tryz.ntmps62
  go_wp2_with fail
  refine UY.out.mono ?_
  rintro z w2 ⟨rfl, m2, k2⟩
  have A2 := Lib.hid (A1.out.step HX.out k2 m2 (Nat.le_succ f))
  have K2 := Lib.hid (KM.tr K1.out k2)
  have HX2 := Lib.hid (keepNe HX1.out k2 (by omega))
  have HR2 := Lib.hid (keepNe HR1.out k2 (by omega))
  obtain ⟨c0, c1, c2, c3, c4, c5⟩ := ecells HX2.out
  clear m2 k2 hwb
  have CH := Lib.hid (choose_c HX.out HEV.out e B c env EA ec d f w2 HF.out A2.out (HE.out _ K2.out) (HL.out _ K2.out) HEE.out HGE.out HD.out)
  generalize chO (evG X.F X.G g env d) e.kids f = q at *
  obtain ⟨⟨⟨s1, s2, s3⟩, sc⟩, sf⟩ := q
  go_wp2_with fail
  refine CH.out.mono ?_
  rintro z w4 ⟨rfl, m4, k4⟩
  have M4 := Lib.hid m4
  have K4 := Lib.hid (KM.tr K2.out k4)
  have HR4 := Lib.hid (keepNe HR2.out k4 (by omega))
  clear m4 k4
  obtain ⟨⟨d0, d1, d2⟩, f0, h9⟩ := HRS.out w4 _ K4.out M4.out HR4.out (.int .i64 s1) (.int .i64 s2) (.string s3)
  have H9 := Lib.hid h9
  clear h9
  go_wp2_with fail
  generalize hw9 : ((w4.setCell ⟨W.heap.size + 1, 0, none⟩ (.int .i64 s1)).setCell ⟨W.heap.size + 1, 1, none⟩ (.int .i64 s2)).setCell ⟨W.heap.size + 1, 2, none⟩ (.string s3) = w9 at *
  obtain ⟨k9, m9, q0, q1, q2⟩ := H9.out w9 rfl
  exact bodyPost_ret (v := pairV ((s1, s2, s3), sc)) (by simp [results, Tryz.results62, go_sem, q0, q1, q2]) rfl (by rw [HQ.out]; exact ⟨rfl, m9, k9⟩)
set_option maxRecDepth 100000 in
set_option maxHeartbeats 4000000 in
theorem eval_6 {X : Cx} (hX : CxOk X) {g : Nat} (hev : EvC X g) (e : Ex) (B : Option Addr) (c : Nat) (env : List Bd) (EA : Option Addr) (ec d f : Nat) (W : World) (hf : f ≤ g) (hA : At X W (f + 1)) (hE : BindsAt X.N W EA env) (hL : ExAt X.N W e B) (he : goodE e) (henv : goodB env) (hd : d ≤ 40) (hk : e.k = 6) :
    Calls Tryz.prog 62 #[.pointer (some ⟨X.m, 0, none⟩), exV e B c, .slice EA env.length ec, .int .i64 d] W (Ends X W (evG X.F X.G (g + 1) env d e (f + 1))) := by
  have HQ : Hid (evG X.F X.G (g + 1) env d e (f + 1) = truthO false (firO (evG X.F X.G g env d) false e.kids f)) := Lib.hid (by rw [ev_succ]; unfold evS; rw [if_neg (by rw [hk]; decide)]; rw [if_neg (by rw [hk]; decide)]; rw [if_neg (by rw [hk]; decide)]; rw [if_neg (by rw [hk]; decide)]; rw [if_neg (by rw [hk]; decide)]; rw [if_pos hk])
  have g1 : (e.k == 1) = false := by simp [hk]
  have g2 : (e.k == 2) = false := by simp [hk]
  have g3 : (e.k == 3) = false := by simp [hk]
  have g4 : (e.k == 4) = false := by simp [hk]
  have g5 : (e.k == 5) = false := by simp [hk]
  have g7 : (e.k == 7) = false := by simp [hk]
  have g6 : (e.k == 6) = true := by simp [hk]
  have hml := hA.mach.lt
  obtain ⟨wb, hwb, hB1, hA1, hK1, hx1, hr1⟩ := ebox hX e B c W (f + 1) hA
  have K1 := Lib.hid hK1
  have A1 := Lib.hid hA1
  have HX1 := Lib.hid hx1
  have HR1 := Lib.hid hr1
  have UY := Lib.hid (use_yes X.m (.slice X.FA X.F.length X.fc) X.GA X.G.length X.gc f wb hA.few hA1.mach)
  have HE := Lib.hid (fun W' (h : KM X W W') => hE.keep h (fun k e => by subst e; exact hX.hm))
  have HL := Lib.hid (fun W' (h : KM X W W') => hL.keep h (fun k e => by subst e; exact hX.hm))
  have HX := Lib.hid hX
  have HEV := Lib.hid hev
  have HGE := Lib.hid henv
  have HG := Lib.hid (ev_good hX.gF hX.gG.2 g)
  have HD := Lib.hid hd
  have HF := Lib.hid hf
  have HEE := Lib.hid he
  have HRS := Lib.hid (fun (w' : World) rf => res3 (X := X) (W := W) (w' := w') (rf := rf) (W.heap.size + 1) 26 (by omega) hml)
  have hlI : (e.kids.length : Int) ≤ 100000 := by have := he.len; omega
  clear hX hE hL hev he henv hA hd hf hB1 hA1 hK1 hx1 hr1 hk
  go_enter Tryz.func62, Tryz.ntmps62
  go_wp2_with fail
  refine UY.out.mono ?_
  rintro z w2 ⟨rfl, m2, k2⟩
  have A2 := Lib.hid (A1.out.step HX.out k2 m2 (Nat.le_succ f))
  have K2 := Lib.hid (KM.tr K1.out k2)
  have HX2 := Lib.hid (keepNe HX1.out k2 (by omega))
  have HR2 := Lib.hid (keepNe HR1.out k2 (by omega))
  obtain ⟨c0, c1, c2, c3, c4, c5⟩ := ecells HX2.out
  clear m2 k2 hwb
  have FI := Lib.hid (fir_c HX.out HEV.out B c e.kids env EA ec d f false w2 HF.out A2.out (HE.out _ K2.out) (by have := HL.out _ K2.out; cases this with | mk B c hc hk => exact .mk B c hc hk) (by have := HEE.out; cases this with | mk hv hl hk => exact .mk (fun h => by cases h) hl hk) HGE.out HD.out)
  generalize firO (evG X.F X.G g env d) false e.kids f = q at *
  obtain ⟨⟨b, sc⟩, sf⟩ := q
  go_wp2_with fail
  refine FI.out.mono ?_
  rintro z w4 ⟨rfl, m4, k4⟩
  have M4 := Lib.hid m4
  have K4 := Lib.hid (KM.tr K2.out k4)
  have HR4 := Lib.hid (keepNe HR2.out k4 (by omega))
  clear m4 k4
  by_cases hsc : sc = 0
  · subst hsc
    have HT : Hid (truthO false ((b, 0), sf) = ((vB (b == false), 0), sf)) := Lib.hid (by unfold truthO; rw [if_neg (by simp)])
    have HQ := Lib.hid (HQ.out.trans HT.out)
    clear HT
    cases b
    all_goals
      go_wp2_with fail
      refine (truth_ok _ _).mono ?_
      rintro z w5 ⟨rfl, q5⟩
      have B5 := Lib.hid q5
      clear q5
    · skip
      obtain ⟨⟨d0, d1, d2⟩, f0, h9⟩ := HRS.out w5 _ (KM.bel K4.out B5.out) (M4.out.below B5.out) (keepB HR4.out B5.out) (.int .i64 2) (.int .i64 0) (.string (sB true))
      have H9 := Lib.hid h9
      clear h9
      go_wp2_with fail
      generalize hw9 : ((w5.setCell ⟨W.heap.size + 1, 0, none⟩ (.int .i64 2)).setCell ⟨W.heap.size + 1, 1, none⟩ (.int .i64 0)).setCell ⟨W.heap.size + 1, 2, none⟩ (.string (sB true)) = w9 at *
      obtain ⟨k9, m9, q0, q1, q2⟩ := H9.out w9 rfl
      exact bodyPost_ret (v := pairV (vB true, 0)) (by simp [results, Tryz.results62, go_sem, q0, q1, q2]) rfl (by rw [HQ.out]; exact ⟨rfl, m9, k9⟩)
    · skip
      obtain ⟨⟨d0, d1, d2⟩, f0, h9⟩ := HRS.out w5 _ (KM.bel K4.out B5.out) (M4.out.below B5.out) (keepB HR4.out B5.out) (.int .i64 2) (.int .i64 0) (.string (sB false))
      have H9 := Lib.hid h9
      clear h9
      go_wp2_with fail
      generalize hw9 : ((w5.setCell ⟨W.heap.size + 1, 0, none⟩ (.int .i64 2)).setCell ⟨W.heap.size + 1, 1, none⟩ (.int .i64 0)).setCell ⟨W.heap.size + 1, 2, none⟩ (.string (sB false)) = w9 at *
      obtain ⟨k9, m9, q0, q1, q2⟩ := H9.out w9 rfl
      exact bodyPost_ret (v := pairV (vB false, 0)) (by simp [results, Tryz.results62, go_sem, q0, q1, q2]) rfl (by rw [HQ.out]; exact ⟨rfl, m9, k9⟩)
  · have HT : Hid (truthO false ((b, sc), sf) = ((v0, sc), sf)) := Lib.hid (by unfold truthO; rw [if_pos hsc])
    have HQ := Lib.hid (HQ.out.trans HT.out)
    have TB := Lib.hid (fun x w => truth_bad x sc hsc w)
    clear HT hsc
    go_wp2_with fail
    refine (TB.out _ _).mono ?_
    rintro z w5 ⟨rfl, q5⟩
    have B5 := Lib.hid q5
    clear q5
    obtain ⟨⟨d0, d1, d2⟩, f0, h9⟩ := HRS.out w5 _ (KM.bel K4.out B5.out) (M4.out.below B5.out) (keepB HR4.out B5.out) (.int .i64 0) (.int .i64 0) (.string ⟨#[]⟩)
    have H9 := Lib.hid h9
    clear h9
    go_wp2_with fail
    generalize hw9 : ((w5.setCell ⟨W.heap.size + 1, 0, none⟩ (.int .i64 0)).setCell ⟨W.heap.size + 1, 1, none⟩ (.int .i64 0)).setCell ⟨W.heap.size + 1, 2, none⟩ (.string ⟨#[]⟩) = w9 at *
    obtain ⟨k9, m9, q0, q1, q2⟩ := H9.out w9 rfl
    exact bodyPost_ret (v := pairV (v0, sc)) (by simp [results, Tryz.results62, go_sem, q0, q1, q2]) rfl (by rw [HQ.out]; exact ⟨rfl, m9, k9⟩)
set_option maxRecDepth 100000 in
set_option maxHeartbeats 4000000 in
theorem eval_7 {X : Cx} (hX : CxOk X) {g : Nat} (hev : EvC X g) (e : Ex) (B : Option Addr) (c : Nat) (env : List Bd) (EA : Option Addr) (ec d f : Nat) (W : World) (hf : f ≤ g) (hA : At X W (f + 1)) (hE : BindsAt X.N W EA env) (hL : ExAt X.N W e B) (he : goodE e) (henv : goodB env) (hd : d ≤ 40) (hk : e.k = 7) :
    Calls Tryz.prog 62 #[.pointer (some ⟨X.m, 0, none⟩), exV e B c, .slice EA env.length ec, .int .i64 d] W (Ends X W (evG X.F X.G (g + 1) env d e (f + 1))) := by
  have HQ : Hid (evG X.F X.G (g + 1) env d e (f + 1) = truthO true (firO (evG X.F X.G g env d) true e.kids f)) := Lib.hid (by rw [ev_succ]; unfold evS; rw [if_neg (by rw [hk]; decide)]; rw [if_neg (by rw [hk]; decide)]; rw [if_neg (by rw [hk]; decide)]; rw [if_neg (by rw [hk]; decide)]; rw [if_neg (by rw [hk]; decide)]; rw [if_neg (by rw [hk]; decide)]; rw [if_pos hk])
  have g1 : (e.k == 1) = false := by simp [hk]
  have g2 : (e.k == 2) = false := by simp [hk]
  have g3 : (e.k == 3) = false := by simp [hk]
  have g4 : (e.k == 4) = false := by simp [hk]
  have g5 : (e.k == 5) = false := by simp [hk]
  have g7 : (e.k == 7) = true := by simp [hk]
  have hml := hA.mach.lt
  obtain ⟨wb, hwb, hB1, hA1, hK1, hx1, hr1⟩ := ebox hX e B c W (f + 1) hA
  have K1 := Lib.hid hK1
  have A1 := Lib.hid hA1
  have HX1 := Lib.hid hx1
  have HR1 := Lib.hid hr1
  have UY := Lib.hid (use_yes X.m (.slice X.FA X.F.length X.fc) X.GA X.G.length X.gc f wb hA.few hA1.mach)
  have HE := Lib.hid (fun W' (h : KM X W W') => hE.keep h (fun k e => by subst e; exact hX.hm))
  have HL := Lib.hid (fun W' (h : KM X W W') => hL.keep h (fun k e => by subst e; exact hX.hm))
  have HX := Lib.hid hX
  have HEV := Lib.hid hev
  have HGE := Lib.hid henv
  have HG := Lib.hid (ev_good hX.gF hX.gG.2 g)
  have HD := Lib.hid hd
  have HF := Lib.hid hf
  have HEE := Lib.hid he
  have HRS := Lib.hid (fun (w' : World) rf => res3 (X := X) (W := W) (w' := w') (rf := rf) (W.heap.size + 1) 26 (by omega) hml)
  have hlI : (e.kids.length : Int) ≤ 100000 := by have := he.len; omega
  clear hX hE hL hev he henv hA hd hf hB1 hA1 hK1 hx1 hr1 hk
  go_enter Tryz.func62, Tryz.ntmps62
  go_wp2_with fail
  refine UY.out.mono ?_
  rintro z w2 ⟨rfl, m2, k2⟩
  have A2 := Lib.hid (A1.out.step HX.out k2 m2 (Nat.le_succ f))
  have K2 := Lib.hid (KM.tr K1.out k2)
  have HX2 := Lib.hid (keepNe HX1.out k2 (by omega))
  have HR2 := Lib.hid (keepNe HR1.out k2 (by omega))
  obtain ⟨c0, c1, c2, c3, c4, c5⟩ := ecells HX2.out
  clear m2 k2 hwb
  have FI := Lib.hid (fir_c HX.out HEV.out B c e.kids env EA ec d f true w2 HF.out A2.out (HE.out _ K2.out) (by have := HL.out _ K2.out; cases this with | mk B c hc hk => exact .mk B c hc hk) (by have := HEE.out; cases this with | mk hv hl hk => exact .mk (fun h => by cases h) hl hk) HGE.out HD.out)
  generalize firO (evG X.F X.G g env d) true e.kids f = q at *
  obtain ⟨⟨b, sc⟩, sf⟩ := q
  go_wp2_with fail
  refine FI.out.mono ?_
  rintro z w4 ⟨rfl, m4, k4⟩
  have M4 := Lib.hid m4
  have K4 := Lib.hid (KM.tr K2.out k4)
  have HR4 := Lib.hid (keepNe HR2.out k4 (by omega))
  clear m4 k4
  by_cases hsc : sc = 0
  · subst hsc
    have HT : Hid (truthO true ((b, 0), sf) = ((vB (b == true), 0), sf)) := Lib.hid (by unfold truthO; rw [if_neg (by simp)])
    have HQ := Lib.hid (HQ.out.trans HT.out)
    clear HT
    cases b
    all_goals
      go_wp2_with fail
      refine (truth_ok _ _).mono ?_
      rintro z w5 ⟨rfl, q5⟩
      have B5 := Lib.hid q5
      clear q5
    · skip
      obtain ⟨⟨d0, d1, d2⟩, f0, h9⟩ := HRS.out w5 _ (KM.bel K4.out B5.out) (M4.out.below B5.out) (keepB HR4.out B5.out) (.int .i64 2) (.int .i64 0) (.string (sB false))
      have H9 := Lib.hid h9
      clear h9
      go_wp2_with fail
      generalize hw9 : ((w5.setCell ⟨W.heap.size + 1, 0, none⟩ (.int .i64 2)).setCell ⟨W.heap.size + 1, 1, none⟩ (.int .i64 0)).setCell ⟨W.heap.size + 1, 2, none⟩ (.string (sB false)) = w9 at *
      obtain ⟨k9, m9, q0, q1, q2⟩ := H9.out w9 rfl
      exact bodyPost_ret (v := pairV (vB false, 0)) (by simp [results, Tryz.results62, go_sem, q0, q1, q2]) rfl (by rw [HQ.out]; exact ⟨rfl, m9, k9⟩)
    · skip
      obtain ⟨⟨d0, d1, d2⟩, f0, h9⟩ := HRS.out w5 _ (KM.bel K4.out B5.out) (M4.out.below B5.out) (keepB HR4.out B5.out) (.int .i64 2) (.int .i64 0) (.string (sB true))
      have H9 := Lib.hid h9
      clear h9
      go_wp2_with fail
      generalize hw9 : ((w5.setCell ⟨W.heap.size + 1, 0, none⟩ (.int .i64 2)).setCell ⟨W.heap.size + 1, 1, none⟩ (.int .i64 0)).setCell ⟨W.heap.size + 1, 2, none⟩ (.string (sB true)) = w9 at *
      obtain ⟨k9, m9, q0, q1, q2⟩ := H9.out w9 rfl
      exact bodyPost_ret (v := pairV (vB true, 0)) (by simp [results, Tryz.results62, go_sem, q0, q1, q2]) rfl (by rw [HQ.out]; exact ⟨rfl, m9, k9⟩)
  · have HT : Hid (truthO true ((b, sc), sf) = ((v0, sc), sf)) := Lib.hid (by unfold truthO; rw [if_pos hsc])
    have HQ := Lib.hid (HQ.out.trans HT.out)
    have TB := Lib.hid (fun x w => truth_bad x sc hsc w)
    clear HT hsc
    go_wp2_with fail
    refine (TB.out _ _).mono ?_
    rintro z w5 ⟨rfl, q5⟩
    have B5 := Lib.hid q5
    clear q5
    obtain ⟨⟨d0, d1, d2⟩, f0, h9⟩ := HRS.out w5 _ (KM.bel K4.out B5.out) (M4.out.below B5.out) (keepB HR4.out B5.out) (.int .i64 0) (.int .i64 0) (.string ⟨#[]⟩)
    have H9 := Lib.hid h9
    clear h9
    go_wp2_with fail
    generalize hw9 : ((w5.setCell ⟨W.heap.size + 1, 0, none⟩ (.int .i64 0)).setCell ⟨W.heap.size + 1, 1, none⟩ (.int .i64 0)).setCell ⟨W.heap.size + 1, 2, none⟩ (.string ⟨#[]⟩) = w9 at *
    obtain ⟨k9, m9, q0, q1, q2⟩ := H9.out w9 rfl
    exact bodyPost_ret (v := pairV (v0, sc)) (by simp [results, Tryz.results62, go_sem, q0, q1, q2]) rfl (by rw [HQ.out]; exact ⟨rfl, m9, k9⟩)
set_option maxRecDepth 100000 in
set_option maxHeartbeats 4000000 in
theorem eval_9 {X : Cx} (hX : CxOk X) {g : Nat} (hev : EvC X g) (e : Ex) (B : Option Addr) (c : Nat) (env : List Bd) (EA : Option Addr) (ec d f : Nat) (W : World) (hf : f ≤ g) (hA : At X W (f + 1)) (hE : BindsAt X.N W EA env) (hL : ExAt X.N W e B) (he : goodE e) (henv : goodB env) (hd : d ≤ 40) (hk : ∀ j : Int, 1 ≤ j → j ≤ 7 → ¬ e.k = j) :
    Calls Tryz.prog 62 #[.pointer (some ⟨X.m, 0, none⟩), exV e B c, .slice EA env.length ec, .int .i64 d] W (Ends X W (evG X.F X.G (g + 1) env d e (f + 1))) := by
  have HQ : Hid (evG X.F X.G (g + 1) env d e (f + 1) = ((v0, 2), f)) := Lib.hid (by rw [ev_succ]; unfold evS; rw [if_neg (hk 1 (by decide) (by decide))]; rw [if_neg (hk 2 (by decide) (by decide))]; rw [if_neg (hk 3 (by decide) (by decide))]; rw [if_neg (hk 4 (by decide) (by decide))]; rw [if_neg (hk 5 (by decide) (by decide))]; rw [if_neg (hk 6 (by decide) (by decide))]; rw [if_neg (hk 7 (by decide) (by decide))])
  have g1 : (e.k == 1) = false := by simp; exact (hk 1 (by decide) (by decide))
  have g2 : (e.k == 2) = false := by simp; exact (hk 2 (by decide) (by decide))
  have g3 : (e.k == 3) = false := by simp; exact (hk 3 (by decide) (by decide))
  have g4 : (e.k == 4) = false := by simp; exact (hk 4 (by decide) (by decide))
  have g5 : (e.k == 5) = false := by simp; exact (hk 5 (by decide) (by decide))
  have g7 : (e.k == 7) = false := by simp; exact (hk 7 (by decide) (by decide))
  have g6 : (e.k == 6) = false := by simp; exact (hk 6 (by decide) (by decide))
  have hml := hA.mach.lt
  obtain ⟨wb, hwb, hB1, hA1, hK1, hx1, hr1⟩ := ebox hX e B c W (f + 1) hA
  have K1 := Lib.hid hK1
  have A1 := Lib.hid hA1
  have HX1 := Lib.hid hx1
  have HR1 := Lib.hid hr1
  have UY := Lib.hid (use_yes X.m (.slice X.FA X.F.length X.fc) X.GA X.G.length X.gc f wb hA.few hA1.mach)
  have HE := Lib.hid (fun W' (h : KM X W W') => hE.keep h (fun k e => by subst e; exact hX.hm))
  have HL := Lib.hid (fun W' (h : KM X W W') => hL.keep h (fun k e => by subst e; exact hX.hm))
  have HX := Lib.hid hX
  have HEV := Lib.hid hev
  have HGE := Lib.hid henv
  have HG := Lib.hid (ev_good hX.gF hX.gG.2 g)
  have HD := Lib.hid hd
  have HF := Lib.hid hf
  have HEE := Lib.hid he
  have HRS := Lib.hid (fun (w' : World) rf => res3 (X := X) (W := W) (w' := w') (rf := rf) (W.heap.size + 1) 26 (by omega) hml)
  have hlI : (e.kids.length : Int) ≤ 100000 := by have := he.len; omega
  clear hX hE hL hev he henv hA hd hf hB1 hA1 hK1 hx1 hr1 hk
  go_enter Tryz.func62, Tryz.ntmps62
  go_wp2_with fail
  refine UY.out.mono ?_
  rintro z w2 ⟨rfl, m2, k2⟩
  have A2 := Lib.hid (A1.out.step HX.out k2 m2 (Nat.le_succ f))
  have K2 := Lib.hid (KM.tr K1.out k2)
  have HX2 := Lib.hid (keepNe HX1.out k2 (by omega))
  have HR2 := Lib.hid (keepNe HR1.out k2 (by omega))
  obtain ⟨c0, c1, c2, c3, c4, c5⟩ := ecells HX2.out
  clear m2 k2 hwb
  obtain ⟨⟨d0, d1, d2⟩, f0, h9⟩ := HRS.out w2 _ K2.out A2.out.mach HR2.out (.int .i64 0) (.int .i64 0) (.string ⟨#[]⟩)
  have H9 := Lib.hid h9
  clear h9
  go_wp2_with fail
  generalize hw9 : ((w2.setCell ⟨W.heap.size + 1, 0, none⟩ (.int .i64 0)).setCell ⟨W.heap.size + 1, 1, none⟩ (.int .i64 0)).setCell ⟨W.heap.size + 1, 2, none⟩ (.string ⟨#[]⟩) = w9 at *
  obtain ⟨k9, m9, q0, q1, q2⟩ := H9.out w9 rfl
  exact bodyPost_ret (v := pairV (v0, 2)) (by simp [results, Tryz.results62, go_sem, q0, q1, q2]) rfl (by rw [HQ.out]; exact ⟨rfl, m9, k9⟩)
set_option maxRecDepth 100000 in
set_option maxHeartbeats 4000000 in
theorem eval_4 {X : Cx} (hX : CxOk X) {g : Nat} (hev : EvC X g) (e : Ex) (B : Option Addr) (c : Nat) (env : List Bd) (EA : Option Addr) (ec d f : Nat) (W : World) (hf : f ≤ g) (hA : At X W (f + 1)) (hE : BindsAt X.N W EA env) (hL : ExAt X.N W e B) (he : goodE e) (henv : goodB env) (hd : d ≤ 40) (hk : e.k = 4) :
    Calls Tryz.prog 62 #[.pointer (some ⟨X.m, 0, none⟩), exV e B c, .slice EA env.length ec, .int .i64 d] W (Ends X W (evG X.F X.G (g + 1) env d e (f + 1))) := by
  have HQ : Hid (evG X.F X.G (g + 1) env d e (f + 1) = if (allO (evG X.F X.G g env d) e.kids f).1.2 ≠ 0 then ((v0, (allO (evG X.F X.G g env d) e.kids f).1.2), (allO (evG X.F X.G g env d) e.kids f).2) else calO X.F (evG X.F X.G g) e.s (allO (evG X.F X.G g env d) e.kids f).1.1 d (allO (evG X.F X.G g env d) e.kids f).2) := Lib.hid (by rw [ev_succ]; unfold evS; rw [if_neg (by rw [hk]; decide)]; rw [if_neg (by rw [hk]; decide)]; rw [if_neg (by rw [hk]; decide)]; rw [if_pos hk])
  have g1 : (e.k == 1) = false := by simp [hk]
  have g2 : (e.k == 2) = false := by simp [hk]
  have g3 : (e.k == 3) = false := by simp [hk]
  have g4 : (e.k == 4) = true := by simp [hk]
  have hml := hA.mach.lt
  obtain ⟨wb, hwb, hB1, hA1, hK1, hx1, hr1⟩ := ebox hX e B c W (f + 1) hA
  have K1 := Lib.hid hK1
  have A1 := Lib.hid hA1
  have HX1 := Lib.hid hx1
  have HR1 := Lib.hid hr1
  have UY := Lib.hid (use_yes X.m (.slice X.FA X.F.length X.fc) X.GA X.G.length X.gc f wb hA.few hA1.mach)
  have HE := Lib.hid (fun W' (h : KM X W W') => hE.keep h (fun k e => by subst e; exact hX.hm))
  have HL := Lib.hid (fun W' (h : KM X W W') => hL.keep h (fun k e => by subst e; exact hX.hm))
  have HX := Lib.hid hX
  have HEV := Lib.hid hev
  have HGE := Lib.hid henv
  have HG := Lib.hid (ev_good hX.gF hX.gG.2 g)
  have HD := Lib.hid hd
  have HF := Lib.hid hf
  have HEE := Lib.hid he
  have HRS := Lib.hid (fun (w' : World) rf => res3 (X := X) (W := W) (w' := w') (rf := rf) (W.heap.size + 1) 26 (by omega) hml)
  have hlI : (e.kids.length : Int) ≤ 100000 := by have := he.len; omega
  clear hX hE hL hev he henv hA hd hf hB1 hA1 hK1 hx1 hr1 hk
  go_enter Tryz.func62, Tryz.ntmps62
  go_wp2_with fail
  refine UY.out.mono ?_
  rintro z w2 ⟨rfl, m2, k2⟩
  have A2 := Lib.hid (A1.out.step HX.out k2 m2 (Nat.le_succ f))
  have K2 := Lib.hid (KM.tr K1.out k2)
  have HX2 := Lib.hid (keepNe HX1.out k2 (by omega))
  have HR2 := Lib.hid (keepNe HR1.out k2 (by omega))
  obtain ⟨c0, c1, c2, c3, c4, c5⟩ := ecells HX2.out
  clear m2 k2 hwb
  have hGR := all_good (f := f) e.kids (ev := evG X.F X.G g env d) (fun x hx f' _ => by
    obtain ⟨i, hi, rfl⟩ := List.getElem_of_mem hx
    exact HG.out env d _ f' (HEE.out.kid hi) HGE.out.2)
  have hLN := all_len (ev := evG X.F X.G g env d) e.kids f
  have AL := Lib.hid (all_c HX.out HEV.out B c e.kids env EA ec d f w2 HF.out A2.out (HE.out _ K2.out) (by have := HL.out _ K2.out; cases this with | mk B c hc hk => exact .mk B c hc hk) (by have := HEE.out; cases this with | mk hv hl hk => exact .mk (fun h => by cases h) hl hk) HGE.out HD.out)
  generalize allO (evG X.F X.G g env d) e.kids f = q at *
  obtain ⟨⟨vs, sc⟩, sf⟩ := q
  have HGV := Lib.hid hGR.1
  have HSF := Lib.hid hGR.2
  have HLN := Lib.hid (Nat.le_trans hLN (by omega : e.kids.length ≤ 100000))
  clear hGR hLN
  by_cases hsc : sc = 0
  · subst hsc
    have HQ := Lib.hid (HQ.out.trans (if_neg (by simp)))
    dsimp only at HQ
    have CA := Lib.hid (fun LA lc w3 h1 h2 => call_c HX.out HEV.out e.s LA lc vs d sf w3 (Nat.le_trans HSF.out HF.out) h1 h2 HLN.out HGV.out HD.out)
    generalize calO X.F (evG X.F X.G g) e.s vs d sf = r at *
    obtain ⟨⟨⟨r1, r2, r3⟩, rc⟩, rf⟩ := r
    go_wp2_with fail
    refine AL.out.mono ?_
    rintro z w4 ⟨v, rfl, hO4, m4, k4⟩
    dsimp only at hO4 m4
    have A4 := Lib.hid (A2.out.step HX.out k4 m4 HSF.out)
    have K4 := Lib.hid (KM.tr K2.out k4)
    have HR4 := Lib.hid (keepNe HR2.out k4 (by omega))
    have hx4 := keepNe HX2.out k4 (by omega)
    clear c0 c1 c2 c3 c4 c5
    obtain ⟨c0, c1, c2, c3, c4, c5⟩ := ecells hx4
    obtain ⟨LA, lc, rfl, hV4⟩ : ∃ LA lc, v = .slice LA vs.length lc ∧ ValsAt w4 LA vs := by
      obtain ⟨_, ho⟩ := vals_owns hO4
      rcases ho with ⟨h0, rfl⟩ | ⟨gq, cp, cur, rfl, hgq, _, _, hcur⟩
      · have : vs = [] := List.eq_nil_of_length_eq_zero h0
        subst this
        exact ⟨none, 0, rfl, vals_nil _ _⟩
      · exact ⟨_, cp, rfl, vals_at_own hgq hcur⟩
    have CB := Lib.hid (CA.out LA lc w4 A4.out hV4)
    clear m4 k4 hO4 hV4 hx4
    go_wp2_with fail
    refine CB.out.mono ?_
    rintro z w5 ⟨rfl, m5, k5⟩
    have M5 := Lib.hid m5
    have K5 := Lib.hid (KM.tr K4.out k5)
    have HR5 := Lib.hid (keepNe HR4.out k5 (by omega))
    clear m5 k5
    obtain ⟨⟨d0, d1, d2⟩, f0, h9⟩ := HRS.out w5 _ K5.out M5.out HR5.out (.int .i64 r1) (.int .i64 r2) (.string r3)
    have H9 := Lib.hid h9
    clear h9
    go_wp2_with fail
    generalize hw9 : ((w5.setCell ⟨W.heap.size + 1, 0, none⟩ (.int .i64 r1)).setCell ⟨W.heap.size + 1, 1, none⟩ (.int .i64 r2)).setCell ⟨W.heap.size + 1, 2, none⟩ (.string r3) = w9 at *
    obtain ⟨k9, m9, q0, q1, q2⟩ := H9.out w9 rfl
    exact bodyPost_ret (v := pairV ((r1, r2, r3), rc)) (by simp [results, Tryz.results62, go_sem, q0, q1, q2]) rfl (by rw [HQ.out]; exact ⟨rfl, m9, k9⟩)
  · replace HQ : Hid (evG X.F X.G (g + 1) env d e (f + 1) = ((v0, sc), sf)) := Lib.hid (HQ.out.trans (if_pos hsc))
    have e1 : (sc == 0) = false := by simp [hsc]
    have e2 : (sc != 0) = true := by simp [hsc]
    clear hsc
    go_wp2_with fail
    refine AL.out.mono ?_
    rintro z w4 ⟨v, rfl, _, m4, k4⟩
    have M4 := Lib.hid m4
    have K4 := Lib.hid (KM.tr K2.out k4)
    have HR4 := Lib.hid (keepNe HR2.out k4 (by omega))
    clear m4 k4
    obtain ⟨⟨d0, d1, d2⟩, f0, h9⟩ := HRS.out w4 _ K4.out M4.out HR4.out (.int .i64 0) (.int .i64 0) (.string ⟨#[]⟩)
    have H9 := Lib.hid h9
    clear h9
    go_wp2_with fail
    generalize hw9 : ((w4.setCell ⟨W.heap.size + 1, 0, none⟩ (.int .i64 0)).setCell ⟨W.heap.size + 1, 1, none⟩ (.int .i64 0)).setCell ⟨W.heap.size + 1, 2, none⟩ (.string ⟨#[]⟩) = w9 at *
    obtain ⟨k9, m9, q0, q1, q2⟩ := H9.out w9 rfl
    exact bodyPost_ret (v := pairV (v0, sc)) (by simp [results, Tryz.results62, go_sem, q0, q1, q2]) rfl (by rw [HQ.out]; exact ⟨rfl, m9, k9⟩)
/-- The evaluator keeps its contract, whatever the fuel. -/
theorem ev_c {X : Cx} (hX : CxOk X) : ∀ g, EvC X g
  | 0 => by
    intro e B c env EA ec d f W hf hA _ _ _ _ _
    obtain rfl : f = 0 := by omega
    exact eval_0 hX e B c env EA ec d W hA
  | g + 1 => by
    have ih := ev_c hX g
    intro e B c env EA ec d f W hf hA hE hL he henv hd
    cases f with
    | zero => exact eval_0 hX e B c env EA ec d W hA
    | succ f =>
      by_cases h1 : e.k = 1
      · exact eval_1 hX ih e B c env EA ec d f W (by omega) hA hE hL he henv hd h1
      by_cases h2 : e.k = 2
      · exact eval_2 hX ih e B c env EA ec d f W (by omega) hA hE hL he henv hd h2
      by_cases h3 : e.k = 3
      · exact eval_3 hX ih e B c env EA ec d f W (by omega) hA hE hL he henv hd h3
      by_cases h4 : e.k = 4
      · exact eval_4 hX ih e B c env EA ec d f W (by omega) hA hE hL he henv hd h4
      by_cases h5 : e.k = 5
      · exact eval_5 hX ih e B c env EA ec d f W (by omega) hA hE hL he henv hd h5
      by_cases h6 : e.k = 6
      · exact eval_6 hX ih e B c env EA ec d f W (by omega) hA hE hL he henv hd h6
      by_cases h7 : e.k = 7
      · exact eval_7 hX ih e B c env EA ec d f W (by omega) hA hE hL he henv hd h7
      exact eval_9 hX ih e B c env EA ec d f W (by omega) hA hE hL he henv hd (fun j _ _ => by
        rcases (by omega : j = 1 ∨ j = 2 ∨ j = 3 ∨ j = 4 ∨ j = 5 ∨ j = 6 ∨ j = 7) with rfl | rfl | rfl | rfl | rfl | rfl | rfl <;> assumption)
end Go.Proofs.YtmadnehipagakaaGreatDoor
