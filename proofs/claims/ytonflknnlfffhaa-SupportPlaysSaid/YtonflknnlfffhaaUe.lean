/- slices.DeleteFunc at supports: the walks. -/
import Derived.Test.YtonflknnlfffhaaUd
namespace Go.Proofs.Ytonflknnlfffhaa
open Go.RowKit Go.Lib KP MR RW
set_option maxRecDepth 100000 in
set_option maxHeartbeats 8000000 in
theorem delI_c (B b : Nat) (v : Value) (L : List Wf) (p : Wf → Bool) (Iv : World → Prop) (W : World) (hO : OwnY W B v L) (h0 : Iv W) (hkp : ∀ w1 w2, Iv w1 → Keep (fun k => v.ownBlock = some k) w1 w2 → Iv w2)
    (hp : ∀ W' y, y ∈ L → Iv W' → Calls Try.prog 59 #[y.val, .pointer (some ⟨b, 0, none⟩)] W' fun e w' => e = .returned (.bool (p y)) ∧ Below W'.heap.size W' w') (hl : L.length ≤ 100000) :
    Calls Try.prog 52 #[v, .func (.func 59) #[] #[.pointer (some ⟨b, 0, none⟩)]] W (DelR L p v B W) := by
  obtain ⟨A, c, ev, hr, hA, hLc⟩ := OwnY.row hO
  have HX := Lib.hid (indexI_c A c b L p Iv W hr h0 (fun w1 w2 h hb => hkp w1 w2 h (Keep.of_below hb _)) hp hl)
  subst ev
  obtain ⟨n, hn⟩ : ∃ n : Nat, Hid (n = L.length) := ⟨_, Lib.hid rfl⟩
  have HO := Lib.hid hO
  have HP := Lib.hid hp
  have HK := Lib.hid hkp
  have H0 := Lib.hid h0
  rw [← hn.out] at HX HO hl hLc ⊢
  have hnI : (n : Int) ≤ 100000 := by omega
  clear hO hp hkp h0 hr hA
  go_enter Try.func52, Try.ntmps52
  go_wp2_with fail
  refine HX.out.mono ?_
  rintro e w1 ⟨a, rfl, hcase, b1⟩
  rcases hcase with ⟨rfl, hall⟩ | ⟨i, hi, rfl, hpi, hbef⟩
  · have HE : Hid (DelR L p (.slice A n c) B W (.returned (.slice A n c)) w1) := Lib.hid ⟨_, rfl, by
      have e : L.filter (fun y => !p y) = L := List.filter_eq_self.2 (fun y hy => by rw [hall y hy]; rfl)
      rw [e]
      exact OwnW.below HO.out b1, rfl, Keep.of_below b1 _⟩
    clear b1 HX hall
    go_wp2_with fail
    go_ret
    exact HE.out
  · obtain ⟨g, cap, hA, hc, hnc, hcm⟩ : ∃ g cap, A = some ⟨g, 0, none⟩ ∧ c = cap ∧ n ≤ cap ∧ cap ≤ maxLen := by
      rcases HO.out.2 with ⟨e, hz⟩ | ⟨g, cap, cur, e, -, -, hnc, hcm, -, -⟩
      · omega
      · injection e with e1 _ e2
        exact ⟨g, cap, e1, e2, by rw [hn.out]; exact hnc, hcm⟩
    subst hA hc
    have hcm2 : c ≤ 9223372036854775807 := by unfold maxLen at hcm; omega
    have hncI : (n : Int) ≤ (c : Int) := by omega
    have hcmI : (c : Int) ≤ 9223372036854775807 := by omega
    clear hcm hLc
    have ne1 : ((i : Int) == -1) = false := by simp
    have hin : i < n := by rw [hn.out]; exact hi
    have hiI : (i : Int) + 1 ≤ (n : Int) := by omega
    have HS : Hid (Ds L p g c B W i (i + 1) w1) := Lib.hid (Ds.start (by rw [← hn.out]; exact HO.out) hi hpi hbef b1)
    have V1 := Lib.hid (HK.out _ _ H0.out (Keep.of_below b1 _))
    clear b1 HX hpi hbef HO H0
    go_wp2_with fail
    go_loopw [5, 6] (fun iv jv wr => ∃ i j : Nat, i < j ∧ j ≤ n ∧ iv = .int .i64 i ∧ jv = .int .i64 j ∧ Hid (Ds L p g c B W i j wr) ∧ Hid (Iv wr)) (fun _ jv _ => n - (RowKit.intOf jv).toNat)
    case atStart => exact ⟨i, i + 1, by omega, by omega, rfl, by go_num, HS, V1⟩
    case round =>
      obtain ⟨i, j, hij, hjn, rfl, rfl, HS, HV⟩ := hrel
      clear ne1
      by_cases hlt : j < n
      · have hjI : (j : Int) < (n : Int) := by omega
        have hiI : (i : Int) < (n : Int) := by omega
        have hjL : j < L.length := by rw [← hn.out]; exact hlt
        have d0 := HS.out.at0 hjL 0 _ rfl
        rw [Nat.add_zero] at d0
        have d1 := HS.out.at0 hjL 1 _ rfl
        have d2 := HS.out.at0 hjL 2 _ rfl
        obtain ⟨f0, f1, f2, g0, g1, g2⟩ := HS.out.room hjL hij
        obtain ⟨r, hr⟩ : ∃ r, Hid (r = p L[j]) := ⟨_, Lib.hid rfl⟩
        have DB := Lib.hid ((Below.refl wr.heap.size wr).alloc (Nat.le_refl _) (.cells (whyc L[j]).toArray 50))
        have S5 := Lib.hid (HS.out.below DB.out)
        have V5 := Lib.hid (HK.out _ _ HV.out (Keep.of_below DB.out _))
        have HC := Lib.hid (HP.out _ L[j] (List.getElem_mem hjL) V5.out)
        rw [← hr.out] at HC
        have HY : Hid (r = true → ∀ w', Below (wr.alloc (.cells (whyc L[j]).toArray 50)).heap.size (wr.alloc (.cells (whyc L[j]).toArray 50)) w' → Ds L p g c B W i (j + 1) w') := Lib.hid (fun h w' hb => (S5.out.below hb).skip hjL (by rw [← hr.out]; exact h))
        have HN : Hid (r = false → ∀ w', Below (wr.alloc (.cells (whyc L[j]).toArray 50)).heap.size (wr.alloc (.cells (whyc L[j]).toArray 50)) w' → Ds L p g c B W (i + 1) (j + 1) (((w'.setCell ⟨g, i * 3, none⟩ (.int .i64 L[j].1.1)).setCell ⟨g, i * 3 + 1, none⟩ (.int .i64 L[j].1.2.1)).setCell ⟨g, i * 3 + 2, none⟩ L[j].sl)) := Lib.hid (fun h w' hb => (S5.out.below hb).put hjL hij (by rw [← hr.out]; exact h))
        have HR2 : Hid (∀ w', Below (wr.alloc (.cells (whyc L[j]).toArray 50)).heap.size (wr.alloc (.cells (whyc L[j]).toArray 50)) w' → ((∃ v, w'.cell? ⟨g, i * 3, none⟩ = some v) ∧ (∃ v, w'.cell? ⟨g, i * 3 + 1, none⟩ = some v) ∧ (∃ v, w'.cell? ⟨g, i * 3 + 2, none⟩ = some v) ∧ w'.frozen? ⟨g, i * 3, none⟩ = false ∧ w'.frozen? ⟨g, i * 3 + 1, none⟩ = false ∧ w'.frozen? ⟨g, i * 3 + 2, none⟩ = false)) := Lib.hid (fun w' hb => (S5.out.below hb).room hjL hij)
        have NB := Lib.hid (fun w' (hb : Below (wr.alloc (.cells (whyc L[j]).toArray 50)).heap.size (wr.alloc (.cells (whyc L[j]).toArray 50)) w') => keepB (heap_alloc_new wr (.cells (whyc L[j]).toArray 50)) hb)
        clear f0 f1 f2 g0 g1 g2 hr
        generalize L[j] = y at *
        obtain ⟨⟨y1, y2, y3⟩, yA, yc⟩ := y
        dsimp only at d0 d1 d2 HC HN HY NB V5 S5 DB HR2
        go_wp2_with fail
        refine HC.out.mono ?_
        rintro e w3 ⟨rfl, b3⟩
        have V3 := Lib.hid (HK.out _ _ V5.out (Keep.of_below b3 _))
        cases r with
        | true =>
          have HD := Lib.hid (HY.out rfl w3 b3)
          clear b3 HY HN HC NB HR2
          go_wp2_with fail
          go_roundw
          case rel => exact ⟨i, j + 1, by omega, by omega, by go_num, by go_num, HD, V3⟩
          case measure => first | (simp [RowKit.intOf]; done) | (simp [RowKit.intOf]; omega)
        | false =>
          have HD := Lib.hid (HN.out rfl w3 b3)
          have n3 := NB.out w3 b3
          have k0 := block_cell (j := 0) n3 rfl
          have k1 := block_cell (j := 1) n3 rfl
          have k2 := block_cell (j := 2) n3 rfl
          obtain ⟨⟨q0, f0⟩, ⟨q1, f1⟩, ⟨q2, f2⟩, g0, g1, g2⟩ := HR2.out w3 b3
          have VK : Hid (Iv (((w3.setCell ⟨g, i * 3, none⟩ (.int .i64 y1)).setCell ⟨g, i * 3 + 1, none⟩ (.int .i64 y2)).setCell ⟨g, i * 3 + 2, none⟩ (.slice yA y3.length yc))) := Lib.hid (HK.out _ _ V3.out (keep3 w3 g n c _ _ _ _ _ _))
          clear b3 HY HN HC NB HR2 n3 V3
          go_wp2_with fail
          go_roundw
          case rel => exact ⟨i + 1, j + 1, by omega, by omega, by go_num, by go_num, HD, VK⟩
          case measure => first | (simp [RowKit.intOf]; done) | (simp [RowKit.intOf]; omega)
      · obtain rfl : j = n := by omega
        have hjL : j = L.length := hn.out
        obtain ⟨w4, hrun, HE⟩ := HS.out.finish hjL hij
        have HR := Lib.hid hrun
        have HF := Lib.hid HE
        have hjc : (i : Int) < (c : Int) := by omega
        have hij2 : (i : Int) < (j : Int) := by omega
        have hne : (c == i) = false := by simp; omega
        have hcs := hn.out
        clear hrun HE hcs HS hjL
        go_wp2_with fail
        all_goals
          rw [HR.out]
          simp only [Result.andThen]
          rw [Oper.upon_value]
          go_wp2_with fail
          go_ret
          exact HF.out
set_option maxRecDepth 100000 in
set_option maxHeartbeats 8000000 in
theorem delS_c (B b : Nat) (v : Value) (L : List Wf) (p : Wf → Bool) (Iv : World → Prop) (W : World) (hO : OwnY W B v L) (h0 : Iv W) (hkp : ∀ w1 w2, Iv w1 → Keep (fun k => v.ownBlock = some k) w1 w2 → Iv w2)
    (hp : ∀ W' y, y ∈ L → Iv W' → Calls Try.prog 61 #[y.val, .pointer (some ⟨b, 0, none⟩)] W' fun e w' => e = .returned (.bool (p y)) ∧ Below W'.heap.size W' w') (hl : L.length ≤ 100000) :
    Calls Try.prog 52 #[v, .func (.func 61) #[] #[.pointer (some ⟨b, 0, none⟩)]] W (DelR L p v B W) := by
  obtain ⟨A, c, ev, hr, hA, hLc⟩ := OwnY.row hO
  have HX := Lib.hid (indexS_c A c b L p Iv W hr h0 (fun w1 w2 h hb => hkp w1 w2 h (Keep.of_below hb _)) hp hl)
  subst ev
  obtain ⟨n, hn⟩ : ∃ n : Nat, Hid (n = L.length) := ⟨_, Lib.hid rfl⟩
  have HO := Lib.hid hO
  have HP := Lib.hid hp
  have HK := Lib.hid hkp
  have H0 := Lib.hid h0
  rw [← hn.out] at HX HO hl hLc ⊢
  have hnI : (n : Int) ≤ 100000 := by omega
  clear hO hp hkp h0 hr hA
  go_enter Try.func52, Try.ntmps52
  go_wp2_with fail
  refine HX.out.mono ?_
  rintro e w1 ⟨a, rfl, hcase, b1⟩
  rcases hcase with ⟨rfl, hall⟩ | ⟨i, hi, rfl, hpi, hbef⟩
  · have HE : Hid (DelR L p (.slice A n c) B W (.returned (.slice A n c)) w1) := Lib.hid ⟨_, rfl, by
      have e : L.filter (fun y => !p y) = L := List.filter_eq_self.2 (fun y hy => by rw [hall y hy]; rfl)
      rw [e]
      exact OwnW.below HO.out b1, rfl, Keep.of_below b1 _⟩
    clear b1 HX hall
    go_wp2_with fail
    go_ret
    exact HE.out
  · obtain ⟨g, cap, hA, hc, hnc, hcm⟩ : ∃ g cap, A = some ⟨g, 0, none⟩ ∧ c = cap ∧ n ≤ cap ∧ cap ≤ maxLen := by
      rcases HO.out.2 with ⟨e, hz⟩ | ⟨g, cap, cur, e, -, -, hnc, hcm, -, -⟩
      · omega
      · injection e with e1 _ e2
        exact ⟨g, cap, e1, e2, by rw [hn.out]; exact hnc, hcm⟩
    subst hA hc
    have hcm2 : c ≤ 9223372036854775807 := by unfold maxLen at hcm; omega
    have hncI : (n : Int) ≤ (c : Int) := by omega
    have hcmI : (c : Int) ≤ 9223372036854775807 := by omega
    clear hcm hLc
    have ne1 : ((i : Int) == -1) = false := by simp
    have hin : i < n := by rw [hn.out]; exact hi
    have hiI : (i : Int) + 1 ≤ (n : Int) := by omega
    have HS : Hid (Ds L p g c B W i (i + 1) w1) := Lib.hid (Ds.start (by rw [← hn.out]; exact HO.out) hi hpi hbef b1)
    have V1 := Lib.hid (HK.out _ _ H0.out (Keep.of_below b1 _))
    clear b1 HX hpi hbef HO H0
    go_wp2_with fail
    go_loopw [5, 6] (fun iv jv wr => ∃ i j : Nat, i < j ∧ j ≤ n ∧ iv = .int .i64 i ∧ jv = .int .i64 j ∧ Hid (Ds L p g c B W i j wr) ∧ Hid (Iv wr)) (fun _ jv _ => n - (RowKit.intOf jv).toNat)
    case atStart => exact ⟨i, i + 1, by omega, by omega, rfl, by go_num, HS, V1⟩
    case round =>
      obtain ⟨i, j, hij, hjn, rfl, rfl, HS, HV⟩ := hrel
      clear ne1
      by_cases hlt : j < n
      · have hjI : (j : Int) < (n : Int) := by omega
        have hiI : (i : Int) < (n : Int) := by omega
        have hjL : j < L.length := by rw [← hn.out]; exact hlt
        have d0 := HS.out.at0 hjL 0 _ rfl
        rw [Nat.add_zero] at d0
        have d1 := HS.out.at0 hjL 1 _ rfl
        have d2 := HS.out.at0 hjL 2 _ rfl
        obtain ⟨f0, f1, f2, g0, g1, g2⟩ := HS.out.room hjL hij
        obtain ⟨r, hr⟩ : ∃ r, Hid (r = p L[j]) := ⟨_, Lib.hid rfl⟩
        have DB := Lib.hid ((Below.refl wr.heap.size wr).alloc (Nat.le_refl _) (.cells (whyc L[j]).toArray 50))
        have S5 := Lib.hid (HS.out.below DB.out)
        have V5 := Lib.hid (HK.out _ _ HV.out (Keep.of_below DB.out _))
        have HC := Lib.hid (HP.out _ L[j] (List.getElem_mem hjL) V5.out)
        rw [← hr.out] at HC
        have HY : Hid (r = true → ∀ w', Below (wr.alloc (.cells (whyc L[j]).toArray 50)).heap.size (wr.alloc (.cells (whyc L[j]).toArray 50)) w' → Ds L p g c B W i (j + 1) w') := Lib.hid (fun h w' hb => (S5.out.below hb).skip hjL (by rw [← hr.out]; exact h))
        have HN : Hid (r = false → ∀ w', Below (wr.alloc (.cells (whyc L[j]).toArray 50)).heap.size (wr.alloc (.cells (whyc L[j]).toArray 50)) w' → Ds L p g c B W (i + 1) (j + 1) (((w'.setCell ⟨g, i * 3, none⟩ (.int .i64 L[j].1.1)).setCell ⟨g, i * 3 + 1, none⟩ (.int .i64 L[j].1.2.1)).setCell ⟨g, i * 3 + 2, none⟩ L[j].sl)) := Lib.hid (fun h w' hb => (S5.out.below hb).put hjL hij (by rw [← hr.out]; exact h))
        have HR2 : Hid (∀ w', Below (wr.alloc (.cells (whyc L[j]).toArray 50)).heap.size (wr.alloc (.cells (whyc L[j]).toArray 50)) w' → ((∃ v, w'.cell? ⟨g, i * 3, none⟩ = some v) ∧ (∃ v, w'.cell? ⟨g, i * 3 + 1, none⟩ = some v) ∧ (∃ v, w'.cell? ⟨g, i * 3 + 2, none⟩ = some v) ∧ w'.frozen? ⟨g, i * 3, none⟩ = false ∧ w'.frozen? ⟨g, i * 3 + 1, none⟩ = false ∧ w'.frozen? ⟨g, i * 3 + 2, none⟩ = false)) := Lib.hid (fun w' hb => (S5.out.below hb).room hjL hij)
        have NB := Lib.hid (fun w' (hb : Below (wr.alloc (.cells (whyc L[j]).toArray 50)).heap.size (wr.alloc (.cells (whyc L[j]).toArray 50)) w') => keepB (heap_alloc_new wr (.cells (whyc L[j]).toArray 50)) hb)
        clear f0 f1 f2 g0 g1 g2 hr
        generalize L[j] = y at *
        obtain ⟨⟨y1, y2, y3⟩, yA, yc⟩ := y
        dsimp only at d0 d1 d2 HC HN HY NB V5 S5 DB HR2
        go_wp2_with fail
        refine HC.out.mono ?_
        rintro e w3 ⟨rfl, b3⟩
        have V3 := Lib.hid (HK.out _ _ V5.out (Keep.of_below b3 _))
        cases r with
        | true =>
          have HD := Lib.hid (HY.out rfl w3 b3)
          clear b3 HY HN HC NB HR2
          go_wp2_with fail
          go_roundw
          case rel => exact ⟨i, j + 1, by omega, by omega, by go_num, by go_num, HD, V3⟩
          case measure => first | (simp [RowKit.intOf]; done) | (simp [RowKit.intOf]; omega)
        | false =>
          have HD := Lib.hid (HN.out rfl w3 b3)
          have n3 := NB.out w3 b3
          have k0 := block_cell (j := 0) n3 rfl
          have k1 := block_cell (j := 1) n3 rfl
          have k2 := block_cell (j := 2) n3 rfl
          obtain ⟨⟨q0, f0⟩, ⟨q1, f1⟩, ⟨q2, f2⟩, g0, g1, g2⟩ := HR2.out w3 b3
          have VK : Hid (Iv (((w3.setCell ⟨g, i * 3, none⟩ (.int .i64 y1)).setCell ⟨g, i * 3 + 1, none⟩ (.int .i64 y2)).setCell ⟨g, i * 3 + 2, none⟩ (.slice yA y3.length yc))) := Lib.hid (HK.out _ _ V3.out (keep3 w3 g n c _ _ _ _ _ _))
          clear b3 HY HN HC NB HR2 n3 V3
          go_wp2_with fail
          go_roundw
          case rel => exact ⟨i + 1, j + 1, by omega, by omega, by go_num, by go_num, HD, VK⟩
          case measure => first | (simp [RowKit.intOf]; done) | (simp [RowKit.intOf]; omega)
      · obtain rfl : j = n := by omega
        have hjL : j = L.length := hn.out
        obtain ⟨w4, hrun, HE⟩ := HS.out.finish hjL hij
        have HR := Lib.hid hrun
        have HF := Lib.hid HE
        have hjc : (i : Int) < (c : Int) := by omega
        have hij2 : (i : Int) < (j : Int) := by omega
        have hne : (c == i) = false := by simp; omega
        have hcs := hn.out
        clear hrun HE hcs HS hjL
        go_wp2_with fail
        all_goals
          rw [HR.out]
          simp only [Result.andThen]
          rw [Oper.upon_value]
          go_wp2_with fail
          go_ret
          exact HF.out

end Go.Proofs.Ytonflknnlfffhaa
