/- eval's choose, eval itself, by induction on the fuel; Eval, Call. -/
import Derived.Test.YtmadnehipagakaaGreatDoorGf
namespace Go.Proofs.YtmadnehipagakaaGreatDoor
open Go.RowKit Go.Lib Go.Sort Go.Shelf KP
theorem call_c {X : Cx} (hX : CxOk X) {g : Nat} (hev : EvC X g) (s : ByteArray) (LA : Option Addr) (lc : Nat) (l : List Vl) (d f : Nat) (W : World) (hf : f ≤ g) (hA : At X W f) (hV : ValsAt W LA l) (hl : l.length ≤ 100000) (hg : ∀ v ∈ l, goodV v) (hd : d ≤ 40) :
    Calls Tryz.prog 68 #[.pointer (some ⟨X.m, 0, none⟩), .string s, .slice LA l.length lc, .int .i64 d] W (Ends X W (calO X.F (evG X.F X.G g) s l d f)) := by
  cases h : funO X.F s with
  | none => exact call_none hX s h LA lc l d f W hA hV hl hg
  | some i => exact call_some hX hev s i h LA lc l d f W hf hA hV hl hg hd
/-- The two boxes with which eval and choose begin: the tree's, the result's. -/
theorem ebox {X : Cx} (hX : CxOk X) (e : Ex) (B : Option Addr) (c : Nat) (W : World) (f : Nat) (hA : At X W f) :
    ∃ wb, (W.alloc (.cells (exC e B c) 65)).alloc (.cells #[.int .i64 0, .int .i64 0, .string ⟨#[]⟩] 26) = wb ∧ Below W.heap.size W wb ∧ At X wb f ∧ KM X W wb ∧ wb.heap[W.heap.size]? = some (.cells (exC e B c) 65 (0, 0)) ∧ wb.heap[W.heap.size + 1]? = some (.cells #[.int .i64 0, .int .i64 0, .string ⟨#[]⟩] 26 (0, 0)) := by
  refine ⟨_, rfl, ?_⟩
  have b := ((Below.refl W.heap.size W).alloc (Nat.le_refl _) (.cells (exC e B c) 65)).alloc (by simp) (.cells #[.int .i64 0, .int .i64 0, .string ⟨#[]⟩] 26)
  refine ⟨b, hA.bel hX b, Keep.of_below b _, (Below.heap_alloc _ _ W.heap.size (by simp)).trans (heap_alloc_new W _), ?_⟩
  have := heap_alloc_new (W.alloc (.cells (exC e B c) 65)) (.cells #[.int .i64 0, .int .i64 0, .string ⟨#[]⟩] 26)
  rwa [World.size_alloc] at this
theorem ecells {W wb : World} {e : Ex} {B : Option Addr} {c : Nat} {T : TypeId} (h : wb.heap[W.heap.size]? = some (.cells (exC e B c) T (0, 0))) :
    wb.cell? ⟨W.heap.size, 0, none⟩ = some (.int .i64 e.k) ∧ wb.cell? ⟨W.heap.size, 1, none⟩ = some (.int .i64 e.v.1) ∧ wb.cell? ⟨W.heap.size, 2, none⟩ = some (.int .i64 e.v.2.1) ∧ wb.cell? ⟨W.heap.size, 3, none⟩ = some (.string e.v.2.2) ∧ wb.cell? ⟨W.heap.size, 4, none⟩ = some (.string e.s) ∧ wb.cell? ⟨W.heap.size, 5, none⟩ = some (.slice B e.kids.length c) :=
  ⟨block_cell h rfl, block_cell h rfl, block_cell h rfl, block_cell h rfl, block_cell h rfl, block_cell h rfl⟩
set_option maxRecDepth 100000 in
set_option maxHeartbeats 4000000 in
theorem choose_c {X : Cx} (hX : CxOk X) {g : Nat} (hev : EvC X g) (e : Ex) (B : Option Addr) (c : Nat) (env : List Bd) (EA : Option Addr) (ec d f : Nat) (W : World) (hf : f ≤ g) (hA : At X W f) (hE : BindsAt X.N W EA env) (hL : ExAt X.N W e B) (he : goodE e) (henv : goodB env) (hd : d ≤ 40) :
    Calls Tryz.prog 100 #[.pointer (some ⟨X.m, 0, none⟩), exV e B c, .slice EA env.length ec, .int .i64 d] W (Ends X W (chO (evG X.F X.G g env d) e.kids f)) := by
  have hml := hA.mach.lt
  obtain ⟨wb, hwb, hB1, hA1, hK1, hx1, hr1⟩ := ebox hX e B c W f hA
  obtain ⟨c0, c1, c2, c3, c4, c5⟩ := ecells hx1
  have B1 := Lib.hid hB1
  have K1 := Lib.hid hK1
  have A1 := Lib.hid hA1
  have HX1 := Lib.hid hx1
  have HR1 := Lib.hid hr1
  have HE := Lib.hid (fun W' (h : KM X W W') => hE.keep h (fun k e => by subst e; exact hX.hm))
  have HL := Lib.hid (fun W' (h : KM X W W') => hL.keep h (fun k e => by subst e; exact hX.hm))
  have HX := Lib.hid hX
  have HEV := Lib.hid hev
  have HGE := Lib.hid henv
  have HG := Lib.hid (ev_good hX.gF hX.gG.2 g)
  have HD := Lib.hid hd
  have HF := Lib.hid hf
  have HEE := Lib.hid he
  have HRS := Lib.hid (fun (w' : World) rf => res3 (X := X) (W := W) (w' := w') (rf := rf) (W.heap.size + 1) 26 (by omega) hml)
  have hlen := he.len
  have hlI : (e.kids.length : Int) ≤ 100000 := by omega
  clear hX hE hL hev he henv hA hlen hd hf hB1 hA1 hK1 hx1 hr1
  by_cases h3 : e.kids.length = 3
  · obtain ⟨a, b, c', hab⟩ : ∃ a b c', e.kids = [a, b, c'] := by
      match hq : e.kids, h3 with
      | [a, b, c'], _ => exact ⟨a, b, c', rfl⟩
    have hEx0 := fun W' h => (HL.out W' h).kid (i := 0) (by omega)
    have hEx1 := fun W' h => (HL.out W' h).kid (i := 1) (by omega)
    have hEx2 := fun W' h => (HL.out W' h).kid (i := 2) (by omega)
    have hG0 := HEE.out.kid (i := 0) (by omega)
    have hG1 := HEE.out.kid (i := 1) (by omega)
    have hG2 := HEE.out.kid (i := 2) (by omega)
    simp only [hab, List.getElem_cons_zero, List.getElem_cons_succ] at hEx0 hEx1 hEx2 hG0 hG1 hG2
    have HE0 := Lib.hid hEx0
    have HE1 := Lib.hid hEx1
    have HE2 := Lib.hid hEx2
    have HG0 := Lib.hid hG0
    have HG1 := Lib.hid hG1
    have HG2 := Lib.hid hG2
    clear hEx0 hEx1 hEx2 hG0 hG1 hG2
    rw [h3] at c5
    have hwb3 : (W.alloc (.cells #[.int .i64 e.k, .int .i64 e.v.1, .int .i64 e.v.2.1, .string e.v.2.2, .string e.s, .slice B 3 c] 65)).alloc (.cells #[.int .i64 0, .int .i64 0, .string ⟨#[]⟩] 26) = wb := by rw [← h3]; exact hwb
    clear hwb
    rw [hab]
    obtain ⟨ad, B0, cc0, rfl, _, ⟨z0, z1, z2, z3, z4, z5⟩, hX0⟩ := HE0.out _ K1.out
    have CE := Lib.hid (HEV.out a B0 cc0 env EA ec d f wb HF.out A1.out (HE.out _ K1.out) hX0 HG0.out HGE.out HD.out)
    have hGR := HG.out env d a f HG0.out HGE.out.2
    have hU : chO (evG X.F X.G g env d) [a, b, c'] f = if (evG X.F X.G g env d a f).1.2 ≠ 0 then ((v0, (evG X.F X.G g env d a f).1.2), (evG X.F X.G g env d a f).2) else if trueB (evG X.F X.G g env d a f).1.1 then evG X.F X.G g env d b (evG X.F X.G g env d a f).2 else evG X.F X.G g env d c' (evG X.F X.G g env d a f).2 := rfl
    rw [hU]
    clear hU hX0
    rw [show ad.add (0 * 6) = ad by simp [Addr.add]] at z0 z1 z2 z3 z4 z5
    generalize hr : evG X.F X.G g env d a f = r at *
    obtain ⟨⟨⟨r1, r2, r3⟩, rc⟩, rf⟩ := r
    clear hr
    have HRF := Lib.hid hGR.2
    clear hGR
    by_cases hrc : rc = 0
    · subst hrc
      rw [if_neg (by simp)]
      dsimp only
      cases hq : trueB (r1, r2, r3)
      · rw [if_neg (by simp)]
        have TC := Lib.hid (fun w => true_w (r1, r2, r3) false hq w)
        clear hq
        go_enter Tryz.func100, Tryz.ntmps100
        go_wp2_with fail
        refine CE.out.mono ?_
        rintro z w3 ⟨rfl, m3, k3⟩
        have A3 := Lib.hid (A1.out.step HX.out k3 m3 HRF.out)
        have K3 := Lib.hid (KM.tr K1.out k3)
        have HR3 := Lib.hid (keepNe HR1.out k3 (by omega))
        have HX3 := Lib.hid (keepNe HX1.out k3 (by omega))
        clear m3 k3 z0 z1 z2 z3 z4 z5 c0 c1 c2 c3 c4 c5
        have B4 := Lib.hid ((Below.refl w3.heap.size w3).alloc (Nat.le_refl _) (.cells #[.int .i64 r1, .int .i64 r2, .string r3] 26))
        go_wp2_with fail
        refine (TC.out _).mono ?_
        rintro z w5 ⟨rfl, q5⟩
        have B5 := Lib.hid (B4.out.trans (q5.mono B4.out.size))
        clear q5
        have A5 := Lib.hid (A3.out.bel HX.out B5.out)
        have K5 := Lib.hid (KM.bel K3.out B5.out)
        have HR5 := Lib.hid (keepB HR3.out B5.out)
        have cx := (ecells (W := W) (c := c) (B := some ad) (keepB HX3.out B5.out)).2.2.2.2.2
        rw [h3] at cx
        obtain ⟨ad5, B5k, cc5, had5, _, ⟨z0, z1, z2, z3, z4, z5⟩, hX5⟩ := HE2.out _ K5.out
        obtain rfl := Option.some.inj had5
        rw [show ad.add (2 * 6) = ⟨ad.block, ad.off + 12, none⟩ by simp [Addr.add]] at z0 z1 z2 z3 z4 z5
        have CE2 := Lib.hid (HEV.out c' B5k cc5 env EA ec d rf w5 (Nat.le_trans HRF.out HF.out) A5.out (HE.out _ K5.out) hX5 HG2.out HGE.out HD.out)
        clear hX5 had5
        generalize evG X.F X.G g env d c' rf = r' at *
        obtain ⟨⟨⟨s1, s2, s3⟩, sc⟩, sf⟩ := r'
        go_wp2_with fail
        refine CE2.out.mono ?_
        rintro z w6 ⟨rfl, m6, k6⟩
        obtain ⟨⟨d0, d1, d2⟩, f0, h9⟩ := HRS.out w6 sf (KM.tr K5.out k6) m6 (keepNe HR5.out k6 (by omega)) (.int .i64 s1) (.int .i64 s2) (.string s3)
        have H9 := Lib.hid h9
        clear h9 m6 k6 z0 z1 z2 z3 z4 z5
        go_wp2_with fail
        generalize hw9 : ((w6.setCell ⟨W.heap.size + 1, 0, none⟩ (.int .i64 s1)).setCell ⟨W.heap.size + 1, 1, none⟩ (.int .i64 s2)).setCell ⟨W.heap.size + 1, 2, none⟩ (.string s3) = w9 at *
        obtain ⟨k9, m9, q0, q1, q2⟩ := H9.out w9 rfl
        exact bodyPost_ret (v := pairV ((s1, s2, s3), sc)) (by simp [results, Tryz.results100, go_sem, q0, q1, q2]) rfl (⟨rfl, m9, k9⟩)
      · rw [if_pos rfl]
        have TC := Lib.hid (fun w => true_w (r1, r2, r3) true hq w)
        clear hq
        go_enter Tryz.func100, Tryz.ntmps100
        go_wp2_with fail
        refine CE.out.mono ?_
        rintro z w3 ⟨rfl, m3, k3⟩
        have A3 := Lib.hid (A1.out.step HX.out k3 m3 HRF.out)
        have K3 := Lib.hid (KM.tr K1.out k3)
        have HR3 := Lib.hid (keepNe HR1.out k3 (by omega))
        have HX3 := Lib.hid (keepNe HX1.out k3 (by omega))
        clear m3 k3 z0 z1 z2 z3 z4 z5 c0 c1 c2 c3 c4 c5
        have B4 := Lib.hid ((Below.refl w3.heap.size w3).alloc (Nat.le_refl _) (.cells #[.int .i64 r1, .int .i64 r2, .string r3] 26))
        go_wp2_with fail
        refine (TC.out _).mono ?_
        rintro z w5 ⟨rfl, q5⟩
        have B5 := Lib.hid (B4.out.trans (q5.mono B4.out.size))
        clear q5
        have A5 := Lib.hid (A3.out.bel HX.out B5.out)
        have K5 := Lib.hid (KM.bel K3.out B5.out)
        have HR5 := Lib.hid (keepB HR3.out B5.out)
        have cx := (ecells (W := W) (c := c) (B := some ad) (keepB HX3.out B5.out)).2.2.2.2.2
        rw [h3] at cx
        obtain ⟨ad5, B5k, cc5, had5, _, ⟨z0, z1, z2, z3, z4, z5⟩, hX5⟩ := HE1.out _ K5.out
        obtain rfl := Option.some.inj had5
        rw [show ad.add (1 * 6) = ⟨ad.block, ad.off + 6, none⟩ by simp [Addr.add]] at z0 z1 z2 z3 z4 z5
        have CE2 := Lib.hid (HEV.out b B5k cc5 env EA ec d rf w5 (Nat.le_trans HRF.out HF.out) A5.out (HE.out _ K5.out) hX5 HG1.out HGE.out HD.out)
        clear hX5 had5
        generalize evG X.F X.G g env d b rf = r' at *
        obtain ⟨⟨⟨s1, s2, s3⟩, sc⟩, sf⟩ := r'
        go_wp2_with fail
        refine CE2.out.mono ?_
        rintro z w6 ⟨rfl, m6, k6⟩
        obtain ⟨⟨d0, d1, d2⟩, f0, h9⟩ := HRS.out w6 sf (KM.tr K5.out k6) m6 (keepNe HR5.out k6 (by omega)) (.int .i64 s1) (.int .i64 s2) (.string s3)
        have H9 := Lib.hid h9
        clear h9 m6 k6 z0 z1 z2 z3 z4 z5
        go_wp2_with fail
        generalize hw9 : ((w6.setCell ⟨W.heap.size + 1, 0, none⟩ (.int .i64 s1)).setCell ⟨W.heap.size + 1, 1, none⟩ (.int .i64 s2)).setCell ⟨W.heap.size + 1, 2, none⟩ (.string s3) = w9 at *
        obtain ⟨k9, m9, q0, q1, q2⟩ := H9.out w9 rfl
        exact bodyPost_ret (v := pairV ((s1, s2, s3), sc)) (by simp [results, Tryz.results100, go_sem, q0, q1, q2]) rfl (⟨rfl, m9, k9⟩)
    · rw [if_pos hrc]
      have e1 : (rc == 0) = false := by simp [hrc]
      have e2 : (rc != 0) = true := by simp [hrc]
      clear hrc
      go_enter Tryz.func100, Tryz.ntmps100
      go_wp2_with fail
      refine CE.out.mono ?_
      rintro z w3 ⟨rfl, m3, k3⟩
      have A3 := Lib.hid (A1.out.step HX.out k3 m3 HRF.out)
      have K3 := Lib.hid (KM.tr K1.out k3)
      have HR3 := Lib.hid (keepNe HR1.out k3 (by omega))
      have HX3 := Lib.hid (keepNe HX1.out k3 (by omega))
      clear m3 k3 z0 z1 z2 z3 z4 z5 c0 c1 c2 c3 c4 c5
      have B4 := Lib.hid ((Below.refl w3.heap.size w3).alloc (Nat.le_refl _) (.cells #[.int .i64 r1, .int .i64 r2, .string r3] 26))
      obtain ⟨⟨d0, d1, d2⟩, f0, h9⟩ := HRS.out _ rf (KM.bel K3.out B4.out) (A3.out.mach.below B4.out) (keepB HR3.out B4.out) (.int .i64 0) (.int .i64 0) (.string ⟨#[]⟩)
      have H9 := Lib.hid h9
      clear h9
      go_wp2_with fail
      generalize hw9 : (((w3.alloc (.cells #[.int .i64 r1, .int .i64 r2, .string r3] 26)).setCell ⟨W.heap.size + 1, 0, none⟩ (.int .i64 0)).setCell ⟨W.heap.size + 1, 1, none⟩ (.int .i64 0)).setCell ⟨W.heap.size + 1, 2, none⟩ (.string ⟨#[]⟩) = w9 at *
      obtain ⟨k9, m9, q0, q1, q2⟩ := H9.out w9 rfl
      exact bodyPost_ret (v := pairV (v0, rc)) (by simp [results, Tryz.results100, go_sem, q0, q1, q2]) rfl (⟨rfl, m9, k9⟩)
  · have hC : Hid (chO (evG X.F X.G g env d) e.kids f = ((v0, 1), f)) := Lib.hid (by
      unfold chO
      split
      · rename_i hq; rw [hq] at h3; simp at h3
      · rfl)
    have e1 : ((e.kids.length : Int) == 3) = false := by simp; omega
    have e2 : ((e.kids.length : Int) != 3) = true := by simp; omega
    have e3 : ¬ (e.kids.length : Int) = 3 := by omega
    obtain ⟨⟨d0, d1, d2⟩, f0, h9⟩ := HRS.out wb f K1.out A1.out.mach HR1.out (.int .i64 0) (.int .i64 0) (.string ⟨#[]⟩)
    have H9 := Lib.hid h9
    clear h9 h3
    go_enter Tryz.func100, Tryz.ntmps100
    go_wp2_with fail
    generalize hw9 : ((wb.setCell ⟨W.heap.size + 1, 0, none⟩ (.int .i64 0)).setCell ⟨W.heap.size + 1, 1, none⟩ (.int .i64 0)).setCell ⟨W.heap.size + 1, 2, none⟩ (.string ⟨#[]⟩) = w9 at *
    obtain ⟨k9, m9, q0, q1, q2⟩ := H9.out w9 rfl
    exact bodyPost_ret (v := pairV (v0, 1)) (by simp [results, Tryz.results100, go_sem, q0, q1, q2]) rfl (by rw [hC.out]; exact ⟨rfl, m9, k9⟩)
end Go.Proofs.YtmadnehipagakaaGreatDoor
