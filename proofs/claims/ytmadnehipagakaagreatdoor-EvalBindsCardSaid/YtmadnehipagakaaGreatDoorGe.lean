/- eval's all and first, at an evaluator that keeps its contract. -/
import Derived.Test.YtmadnehipagakaaGreatDoorGd
import Derived.Test.YtmadnehipagakaaGreatDoorLv
namespace Go.Proofs.YtmadnehipagakaaGreatDoor
open Go.RowKit Go.Lib Go.Sort Go.Shelf KP
/-- What a machine is made of. -/
structure Cx where
  m : Nat
  FA : Option Addr
  fc : Nat
  F : List Fu
  GA : Option Addr
  gc : Nat
  G : List Bd
  N : Nat → Prop
structure CxOk (X : Cx) : Prop where
  hm : X.N X.m
  tb : ∀ g, Tryz.prog.globalNamed "internal/strconv.uint64pow10" = some g → g ≠ X.m
  gF : goodF X.F
  gG : goodB X.G
abbrev FuelAt (X : Cx) (W : World) (f : Nat) : Prop := MachAt W X.m (.slice X.FA X.F.length X.fc) X.GA X.G.length X.gc (f : Int)
structure At (X : Cx) (W : World) (f : Nat) : Prop where
  mach : FuelAt X W f
  funs : FunsAt X.N W X.FA X.F
  globs : BindsAt X.N W X.GA X.G
  tab : Tab W
  few : f ≤ 1000000
  lt : ∀ k, X.N k → k < W.heap.size
abbrev KM (X : Cx) (W W' : World) : Prop := Keep (fun k => k = X.m) W W'
section
variable {X : Cx} {W W' W0 : World} {f f' : Nat}
theorem At.step (hX : CxOk X) (h : At X W f) (hk : KM X W W') (hm : FuelAt X W' f') (hf : f' ≤ f) : At X W' f' :=
  ⟨hm, h.funs.keep hk (fun k e => by subst e; exact hX.hm), h.globs.keep hk (fun k e => by subst e; exact hX.hm), h.tab.keep hk (fun g hg e => hX.tb g hg e), Nat.le_trans hf h.few, fun k hk' => Nat.lt_of_lt_of_le (h.lt k hk') hk.size⟩
theorem At.bel (hX : CxOk X) (h : At X W f) (hb : Below W.heap.size W W') : At X W' f := h.step hX (Keep.of_below hb _) (h.mach.below hb) (Nat.le_refl _)
theorem KM.tr (h : KM X W W0) (h2 : KM X W0 W') : KM X W W' := h.trans h2 (fun _ h => .inl h)
theorem KM.bel (h : KM X W W0) (hb : Below W0.heap.size W0 W') : KM X W W' := h.tr (Keep.of_below hb _)
end
def Ends (X : Cx) (W : World) (r : Rs) (z : Ending) (W' : World) : Prop := z = .returned (pairV r.1) ∧ FuelAt X W' r.2 ∧ KM X W W'
/-- The evaluator's contract, for so much fuel. -/
def EvC (X : Cx) (g : Nat) : Prop := ∀ (e : Ex) (B : Option Addr) (c : Nat) (env : List Bd) (EA : Option Addr) (ec d f : Nat) (W : World), f ≤ g → At X W f → BindsAt X.N W EA env → ExAt X.N W e B → goodE e → goodB env → d ≤ 40 →
  Calls Tryz.prog 62 #[.pointer (some ⟨X.m, 0, none⟩), exV e B c, .slice EA env.length ec, .int .i64 d] W (Ends X W (evG X.F X.G g env d e f))
theorem all_take {ev : Ex → Nat → Rs} {l : List Ex} {f k : Nat} (hk : k < l.length) : allO ev (l.take (k + 1)) f = allS ev (allO ev (l.take k) f) l[k] := by
  unfold allO
  rw [List.take_succ_eq_append_getElem hk, List.foldl_append]
  rfl
theorem all_stuck {ev : Ex → Nat → Rs} : ∀ (l : List Ex) (st : (List Vl × Int) × Nat), st.1.2 ≠ 0 → l.foldl (allS ev) st = st
  | [], _, _ => rfl
  | e :: l, st, h => by
    rw [List.foldl_cons, show allS ev st e = st by unfold allS; rw [if_pos h]]
    exact all_stuck l st h
theorem all_err {ev : Ex → Nat → Rs} {l : List Ex} {f k : Nat} {st : (List Vl × Int) × Nat} (h : allO ev (l.take k) f = st) (hs : st.1.2 ≠ 0) : allO ev l f = st := by
  conv => lhs; rw [← List.take_append_drop k l]
  unfold allO at h ⊢
  rw [List.foldl_append, h]
  exact all_stuck _ _ hs
theorem allS_ok {ev : Ex → Nat → Rs} {vs : List Vl} {f f' : Nat} {e : Ex} {v : Vl} (h : ev e f = ((v, 0), f')) : allS ev ((vs, 0), f) e = ((vs ++ [v], 0), f') := by
  unfold allS
  rw [if_neg (by simp)]
  dsimp only
  rw [h]
  rw [if_neg (by simp)]
theorem allS_bad {ev : Ex → Nat → Rs} {vs : List Vl} {f f' : Nat} {e : Ex} {v : Vl} {c : Int} (h : ev e f = ((v, c), f')) (hc : c ≠ 0) : allS ev ((vs, 0), f) e = (([], c), f') := by
  unfold allS
  rw [if_neg (by simp)]
  dsimp only
  rw [h]
  rw [if_pos hc]
/-- What all leaves: nil and an error, or a row of its own. -/
def AllEnds (X : Cx) (W : World) (r : (List Vl × Int) × Nat) (z : Ending) (W' : World) : Prop := ∃ v, z = .returned (.tuple #[v, .int .i64 r.1.2]) ∧ W'.ownsRow W.heap.size 26 3 v r.1.1.length (valsC r.1.1) ∧ FuelAt X W' r.2 ∧ KM X W W'
set_option maxRecDepth 100000 in
set_option maxHeartbeats 4000000 in
theorem all_c {X : Cx} (hX : CxOk X) {g : Nat} (hev : EvC X g) (KA : Option Addr) (kc : Nat) (l : List Ex) (env : List Bd) (EA : Option Addr) (ec d f : Nat) (W : World) (hf : f ≤ g) (hA : At X W f) (hE : BindsAt X.N W EA env) (hL : ExAt X.N W (body l) KA) (hl : goodE (body l)) (henv : goodB env) (hd : d ≤ 40) :
    Calls Tryz.prog 99 #[.pointer (some ⟨X.m, 0, none⟩), .slice KA l.length kc, .slice EA env.length ec, .int .i64 d] W (AllEnds X W (allO (evG X.F X.G g env d) l f)) := by
  obtain ⟨i0, hi, hz0, hz1, hz2⟩ := info_parts infoV
  have hml := hA.mach.lt
  have HE := Lib.hid (fun W' (h : KM X W W') => hE.keep h (fun k e => by subst e; exact hX.hm))
  have HL := Lib.hid (fun W' (h : KM X W W') => hL.keep h (fun k e => by subst e; exact hX.hm))
  have HX := Lib.hid hX
  have HEV := Lib.hid hev
  have HGL := Lib.hid hl
  have HGE := Lib.hid henv
  have HG := Lib.hid (ev_good hX.gF hX.gG.2 g)
  have HA := Lib.hid hA
  have HD := Lib.hid hd
  have HF := Lib.hid hf
  have hlen := hl.len
  have hlI : (l.length : Int) ≤ 100000 := by have : l.length ≤ 100000 := hlen; omega
  clear hX hE hL hev hl henv hA hlen hd hf
  go_enter Tryz.func99, Tryz.ntmps99
  go_wp2_with fail
  go_loopw [10, 17] (fun o i wr => ∃ k : Nat, k ≤ l.length ∧ i = .int .i64 k ∧ ∃ (vs : List Vl) (fu : Nat), Hid (allO (evG X.F X.G g env d) (l.take k) f = ((vs, 0), fu)) ∧ Hid (wr.ownsRow W.heap.size 26 3 o k (valsC vs)) ∧ Hid (At X wr fu) ∧ Hid (KM X W wr) ∧ Hid (fu ≤ f)) (fun _ i _ => l.length - (intOf i).toNat)
  case atStart => exact ⟨0, by omega, rfl, [], f, Lib.hid rfl, Lib.hid (World.ownsRow_nil _ _ _ _), HA, Lib.hid (Keep.refl _ _), Lib.hid (Nat.le_refl _)⟩
  case round =>
    obtain ⟨k, hk, rfl, vs, fu, hS, hO, hAt, hK, hfu⟩ := hrel
    by_cases hlt : k < l.length
    · have hltI : (k : Int) < (l.length : Int) := by omega
      obtain ⟨ad, B, c, rfl, _, ⟨c0, c1, c2, c3, c4, c5⟩, hEx⟩ := (HL.out _ hK.out).kid (i := k) hlt
      have hGe := HGL.out.kid (i := k) hlt
      have hEx2 := Lib.hid hEx
      have hGe2 := Lib.hid hGe
      have hTk := Lib.hid (all_take (ev := evG X.F X.G g env d) (f := f) hlt)
      change Hid (ExAt X.N wr l[k] B) at hEx2
      change Hid (goodE l[k]) at hGe2
      change wr.cell? _ = some (.int .i64 l[k].k) at c0
      change wr.cell? _ = some (.int .i64 l[k].v.1) at c1
      change wr.cell? _ = some (.int .i64 l[k].v.2.1) at c2
      change wr.cell? _ = some (.string l[k].v.2.2) at c3
      change wr.cell? _ = some (.string l[k].s) at c4
      change wr.cell? _ = some (.slice B l[k].kids.length c) at c5
      clear hEx hGe
      generalize l[k] = e at *
      have B2 := Lib.hid ((Below.refl wr.heap.size wr).alloc (Nat.le_refl _) (.cells (exC e B c) 65))
      have K2 := Lib.hid (hK.out.bel B2.out)
      have CE := Lib.hid (HEV.out e B c env EA ec d fu (wr.alloc (.cells (exC e B c) 65)) (Nat.le_trans hfu.out HF.out) (hAt.out.bel HX.out B2.out) (HE.out _ K2.out) (hEx2.out.bel B2.out) hGe2.out HGE.out HD.out)
      have hGR := HG.out env d e fu hGe2.out HGE.out.2
      have hTk2 := Lib.hid (hTk.out.trans (by rw [hS.out]))
      clear hTk
      generalize hr : evG X.F X.G g env d e fu = r at *
      obtain ⟨⟨⟨r1, r2, r3⟩, rc⟩, rf⟩ := r
      by_cases hrc : rc = 0
      · subst hrc
        have HR := Lib.hid (hTk2.out.trans (allS_ok hr))
        have HFU := Lib.hid (Nat.le_trans hGR.2 hfu.out)
        have HGF := Lib.hid hGR.2
        clear hr hTk2 hGR
        go_wp2_with fail
        refine CE.out.mono ?_
        rintro z w3 ⟨rfl, hm3, k3⟩
        have K3 := Lib.hid (K2.out.tr k3)
        have A3 := Lib.hid ((hAt.out.bel HX.out B2.out).step HX.out k3 hm3 HGF.out)
        have O3 := Lib.hid (ownsRow_keep ((hO.out.alloc (.cells (exC e B c) 65))) k3 (fun q hq e => by have := (hO.out.lt q hq).1; omega))
        clear hm3 k3
        have BX := Lib.hid ((Below.refl w3.heap.size w3).alloc (Nat.le_refl _) (.cells #[.int .i64 r1, .int .i64 r2, .string r3] 26))
        generalize hw4 : w3.alloc (.cells #[.int .i64 r1, .int .i64 r2, .string r3] 26) = w4 at BX
        have O4 := Lib.hid (show w4.ownsRow W.heap.size 26 3 _ k (valsC vs) from hw4 ▸ O3.out.alloc (.cells #[.int .i64 r1, .int .i64 r2, .string r3] 26))
        have K4 := Lib.hid (K3.out.bel BX.out)
        have A4 := Lib.hid (A3.out.bel HX.out BX.out)
        have hb4 : w4.heap[w3.heap.size]? = some (.cells #[.int .i64 r1, .int .i64 r2, .string r3] 26 (0, 0)) := hw4 ▸ heap_alloc_new w3 _
        have s4 : w4.heap.size = w3.heap.size + 1 := by rw [← hw4]; simp
        have x0 := block_cell (j := 0) hb4 rfl
        have x1 := block_cell (j := 1) hb4 rfl
        have x2 := block_cell (j := 2) hb4 rfl
        have HB4 := Lib.hid hb4
        clear hb4
        have hsW : W.heap.size ≤ w4.heap.size := K4.out.size
        have HS4 := Lib.hid s4
        have B5 := Lib.hid ((Below.refl w4.heap.size w4).alloc (Nat.le_refl _) (.cells #[.int .i64 r1, .int .i64 r2, .string r3] 26))
        have O5 := Lib.hid (O4.out.alloc (.cells #[.int .i64 r1, .int .i64 r2, .string r3] 26))
        have N5 : Hid (∀ j u, (v3 (r1, r2, r3))[j]? = some u → (w4.alloc (.cells #[.int .i64 r1, .int .i64 r2, .string r3] 26)).cell? ((⟨w4.heap.size, 0, none⟩ : Addr).add j) = some u) := Lib.hid (fun j u hu => by
          rw [show (⟨w4.heap.size, 0, none⟩ : Addr).add j = ⟨w4.heap.size, j, none⟩ by simp [Addr.add]; omega]
          exact block_cell (heap_alloc_new w4 _) (by simpa using hu))
        clear s4
        go_wp2_with (at_builtin; refine wpList_append_own _ rfl (.tmp 32) (.tmp 34) 22 rfl W.heap.size 26 i0 zV 3 32 Tryz.underlying22 hi hz0 hz1 hz2 rfl (by decide) _ k _ rfl O5.out ⟨w4.heap.size, 0, none⟩ 1 1 (v3 (r1, r2, r3)) rfl rfl N5.out (v3_flat (r1, r2, r3)) (by unfold maxLen; omega) (by omega) (by simp; omega) ?_)
        intro v' w5 hown hg hnil
        have hN5 := ((Below.refl W.heap.size w4).alloc hsW (.cells #[.int .i64 r1, .int .i64 r2, .string r3] 26)).grown hg (by simp; omega) (fun q hq => (O5.out.lt q hq).1)
        have K5 := Lib.hid ((K4.out.alloc (.cells #[.int .i64 r1, .int .i64 r2, .string r3] 26)).grown hg (fun q hq => .inr (O5.out.lt q hq).1))
        have M5 : FuelAt X w5 rf := (hN5.block X.m hml).trans A4.out.mach
        have A5 := Lib.hid (HA.out.step HX.out K5.out M5 HFU.out)
        have O6 : Hid (w5.ownsRow W.heap.size 26 3 v' (k + 1) (valsC (vs ++ [(r1, r2, r3)]))) := Lib.hid (by rw [valsC_snoc]; exact hown)
        clear hown hg hnil hN5 M5
        go_wp2_with fail
        exact ⟨⟨k + 1, by omega, by go_num, _, _, HR, O6, A5, K5, HFU⟩, by simp [intOf]; omega⟩
      · have HR := Lib.hid (hTk2.out.trans (allS_bad hr hrc))
        have HFU := Lib.hid (Nat.le_trans hGR.2 hfu.out)
        have HGF := Lib.hid hGR.2
        have HER := Lib.hid (all_err HR.out hrc)
        have e1 : (rc == 0) = false := by simp [hrc]
        have e2 : (rc != 0) = true := by simp [hrc]
        clear hr hTk2 hGR
        go_wp2_with fail
        refine CE.out.mono ?_
        rintro z w3 ⟨rfl, hm3, k3⟩
        have K3 := Lib.hid (K2.out.tr k3)
        have M3 := Lib.hid hm3
        have B4 := Lib.hid ((Below.refl w3.heap.size w3).alloc (Nat.le_refl _) (.cells #[.int .i64 r1, .int .i64 r2, .string r3] 26))
        clear hm3 k3
        go_wp2_with fail
        refine bodyPost_ret (v := .tuple #[.slice none 0 0, .int .i64 rc]) (by simp [results, Tryz.results99, go_sem]) rfl ?_
        rw [HER.out]
        exact ⟨_, rfl, World.ownsRow_nil _ _ _ _, M3.out.below B4.out, K3.out.bel B4.out⟩
    · obtain rfl : k = l.length := by omega
      have HR := Lib.hid (show allO (evG X.F X.G g env d) l f = ((vs, 0), fu) from by have := hS.out; rwa [List.take_length] at this)
      have hvl : Hid (vs.length = l.length) := Lib.hid (by have := hO.out.1; rw [valsC_len] at this; omega)
      go_wp2_with fail
      refine bodyPost_ret (v := .tuple #[_, .int .i64 0]) (by simp [results, Tryz.results99, go_sem]; rfl) rfl ?_
      rw [HR.out]
      exact ⟨_, rfl, by show wr.ownsRow _ _ _ _ vs.length _; rw [hvl.out]; exact hO.out, hAt.out.mach, hK.out⟩
theorem fir_take {ev : Ex → Nat → Rs} {want : Bool} {l : List Ex} {f k : Nat} (hk : k < l.length) : firO ev want (l.take (k + 1)) f = firS ev want (firO ev want (l.take k) f) l[k] := by
  unfold firO
  rw [List.take_succ_eq_append_getElem hk, List.foldl_append]
  rfl
theorem fir_stuck {ev : Ex → Nat → Rs} {want : Bool} : ∀ (l : List Ex) (st : (Bool × Int) × Nat), st.1.1 = true → l.foldl (firS ev want) st = st
  | [], _, _ => rfl
  | e :: l, st, h => by
    rw [List.foldl_cons, show firS ev want st e = st by unfold firS; rw [if_pos h]]
    exact fir_stuck l st h
theorem fir_end {ev : Ex → Nat → Rs} {want : Bool} {l : List Ex} {f k : Nat} {st : (Bool × Int) × Nat} (h : firO ev want (l.take k) f = st) (hs : st.1.1 = true) : firO ev want l f = st := by
  conv => lhs; rw [← List.take_append_drop k l]
  unfold firO at h ⊢
  rw [List.foldl_append, h]
  exact fir_stuck _ _ hs
theorem firS_ok {ev : Ex → Nat → Rs} {want : Bool} {f f' : Nat} {e : Ex} {v : Vl} (h : ev e f = ((v, 0), f')) : firS ev want ((false, 0), f) e = ((trueB v == want, 0), f') := by
  unfold firS
  rw [if_neg (by simp)]
  dsimp only
  rw [h]
  rw [if_neg (by simp)]
theorem firS_bad {ev : Ex → Nat → Rs} {want : Bool} {f f' : Nat} {e : Ex} {v : Vl} {c : Int} (h : ev e f = ((v, c), f')) (hc : c ≠ 0) : firS ev want ((false, 0), f) e = ((true, c), f') := by
  unfold firS
  rw [if_neg (by simp)]
  dsimp only
  rw [h]
  rw [if_pos hc]
theorem true_w (a : Vl) (b : Bool) (h : trueB a = b) (w : World) : Calls Tryz.prog 72 #[a.val] w fun e w' => e = .returned (.bool b) ∧ Below w.heap.size w w' := by rw [← h]; exact true_c a w
def FirEnds (X : Cx) (W : World) (r : (Bool × Int) × Nat) (z : Ending) (W' : World) : Prop := z = .returned (.tuple #[.bool r.1.1, .int .i64 r.1.2]) ∧ FuelAt X W' r.2 ∧ KM X W W'
set_option maxRecDepth 100000 in
set_option maxHeartbeats 4000000 in
theorem fir_c {X : Cx} (hX : CxOk X) {g : Nat} (hev : EvC X g) (KA : Option Addr) (kc : Nat) (l : List Ex) (env : List Bd) (EA : Option Addr) (ec d f : Nat) (want : Bool) (W : World) (hf : f ≤ g) (hA : At X W f) (hE : BindsAt X.N W EA env) (hL : ExAt X.N W (body l) KA) (hl : goodE (body l)) (henv : goodB env) (hd : d ≤ 40) :
    Calls Tryz.prog 101 #[.pointer (some ⟨X.m, 0, none⟩), .slice KA l.length kc, .slice EA env.length ec, .int .i64 d, .bool want] W (FirEnds X W (firO (evG X.F X.G g env d) want l f)) := by
  have hml := hA.mach.lt
  have HE := Lib.hid (fun W' (h : KM X W W') => hE.keep h (fun k e => by subst e; exact hX.hm))
  have HL := Lib.hid (fun W' (h : KM X W W') => hL.keep h (fun k e => by subst e; exact hX.hm))
  have HX := Lib.hid hX
  have HEV := Lib.hid hev
  have HGL := Lib.hid hl
  have HGE := Lib.hid henv
  have HG := Lib.hid (ev_good hX.gF hX.gG.2 g)
  have HA := Lib.hid hA
  have HD := Lib.hid hd
  have HF := Lib.hid hf
  have hlen := hl.len
  have hlI : (l.length : Int) ≤ 100000 := by have : l.length ≤ 100000 := hlen; omega
  clear hX hE hL hev hl henv hA hlen hd hf
  go_enter Tryz.func101, Tryz.ntmps101
  go_wp2_with fail
  go_loopw [18] (fun i wr => ∃ k : Nat, k ≤ l.length ∧ i = .int .i64 k ∧ ∃ (fu : Nat), Hid (firO (evG X.F X.G g env d) want (l.take k) f = ((false, 0), fu)) ∧ Hid (At X wr fu) ∧ Hid (KM X W wr) ∧ Hid (fu ≤ f)) (fun i _ => l.length - (intOf i).toNat)
  case atStart => exact ⟨0, by omega, rfl, f, Lib.hid rfl, HA, Lib.hid (Keep.refl _ _), Lib.hid (Nat.le_refl _)⟩
  case round =>
    obtain ⟨k, hk, rfl, fu, hS, hAt, hK, hfu⟩ := hrel
    by_cases hlt : k < l.length
    · have hltI : (k : Int) < (l.length : Int) := by omega
      obtain ⟨ad, B, c, rfl, _, ⟨c0, c1, c2, c3, c4, c5⟩, hEx⟩ := (HL.out _ hK.out).kid (i := k) hlt
      have hGe := HGL.out.kid (i := k) hlt
      have hEx2 := Lib.hid hEx
      have hGe2 := Lib.hid hGe
      have hTk := Lib.hid (fir_take (ev := evG X.F X.G g env d) (want := want) (f := f) hlt)
      change Hid (ExAt X.N wr l[k] B) at hEx2
      change Hid (goodE l[k]) at hGe2
      change wr.cell? _ = some (.int .i64 l[k].k) at c0
      change wr.cell? _ = some (.int .i64 l[k].v.1) at c1
      change wr.cell? _ = some (.int .i64 l[k].v.2.1) at c2
      change wr.cell? _ = some (.string l[k].v.2.2) at c3
      change wr.cell? _ = some (.string l[k].s) at c4
      change wr.cell? _ = some (.slice B l[k].kids.length c) at c5
      clear hEx hGe
      generalize l[k] = e at *
      have B2 := Lib.hid ((Below.refl wr.heap.size wr).alloc (Nat.le_refl _) (.cells (exC e B c) 65))
      have K2 := Lib.hid (hK.out.bel B2.out)
      have CE := Lib.hid (HEV.out e B c env EA ec d fu (wr.alloc (.cells (exC e B c) 65)) (Nat.le_trans hfu.out HF.out) (hAt.out.bel HX.out B2.out) (HE.out _ K2.out) (hEx2.out.bel B2.out) hGe2.out HGE.out HD.out)
      have hGR := HG.out env d e fu hGe2.out HGE.out.2
      have hTk2 := Lib.hid (hTk.out.trans (by rw [hS.out]))
      clear hTk
      generalize hr : evG X.F X.G g env d e fu = r at *
      obtain ⟨⟨⟨r1, r2, r3⟩, rc⟩, rf⟩ := r
      by_cases hrc : rc = 0
      · subst hrc
        have HR := Lib.hid (hTk2.out.trans (firS_ok hr))
        have HFU := Lib.hid (Nat.le_trans hGR.2 hfu.out)
        have HGF := Lib.hid hGR.2
        clear hr hTk2 hGR
        go_wp2_with fail
        refine CE.out.mono ?_
        rintro z w3 ⟨rfl, hm3, k3⟩
        have K3 := Lib.hid (K2.out.tr k3)
        have A3 := Lib.hid ((hAt.out.bel HX.out B2.out).step HX.out k3 hm3 HGF.out)
        clear hm3 k3
        have BX := Lib.hid ((Below.refl w3.heap.size w3).alloc (Nat.le_refl _) (.cells #[.int .i64 r1, .int .i64 r2, .string r3] 26))
        cases hq : trueB (r1, r2, r3) <;> cases want
        all_goals
          have TC := Lib.hid (fun w => true_w (r1, r2, r3) _ hq w)
          rw [hq] at HR
          clear hq
          go_wp2_with fail
          refine (TC.out _).mono ?_
          rintro z w5 ⟨rfl, q5⟩
          have B5 := Lib.hid (BX.out.trans (q5.mono BX.out.size))
          clear q5
          go_wp2_with fail
          first
            | (exact ⟨⟨k + 1, by omega, by go_num, _, HR, Lib.hid (A3.out.bel HX.out B5.out), Lib.hid (K3.out.bel B5.out), HFU⟩, by simp [intOf]; omega⟩)
            | (refine bodyPost_ret (v := .tuple #[.bool true, .int .i64 0]) (by simp [results, Tryz.results101, go_sem]) rfl ?_
               rw [fir_end HR.out rfl]
               exact ⟨rfl, (A3.out.bel HX.out B5.out).mach, K3.out.bel B5.out⟩)
      · have HR := Lib.hid (hTk2.out.trans (firS_bad hr hrc))
        have HGF := Lib.hid hGR.2
        have HER := Lib.hid (fir_end HR.out rfl)
        have e1 : (rc == 0) = false := by simp [hrc]
        have e2 : (rc != 0) = true := by simp [hrc]
        clear hr hTk2 hGR
        go_wp2_with fail
        refine CE.out.mono ?_
        rintro z w3 ⟨rfl, hm3, k3⟩
        have K3 := Lib.hid (K2.out.tr k3)
        have M3 := Lib.hid hm3
        have B4 := Lib.hid ((Below.refl w3.heap.size w3).alloc (Nat.le_refl _) (.cells #[.int .i64 r1, .int .i64 r2, .string r3] 26))
        clear hm3 k3
        go_wp2_with fail
        refine bodyPost_ret (v := .tuple #[.bool true, .int .i64 rc]) (by simp [results, Tryz.results101, go_sem]) rfl ?_
        rw [HER.out]
        exact ⟨rfl, M3.out.below B4.out, K3.out.bel B4.out⟩
    · obtain rfl : k = l.length := by omega
      have HR := Lib.hid (show firO (evG X.F X.G g env d) want l f = ((false, 0), fu) from by have := hS.out; rwa [List.take_length] at this)
      go_wp2_with fail
      refine bodyPost_ret (v := .tuple #[.bool false, .int .i64 0]) (by simp [results, Tryz.results101, go_sem]) rfl ?_
      rw [HR.out]
      exact ⟨rfl, hAt.out.mach, hK.out⟩
end Go.Proofs.YtmadnehipagakaaGreatDoor
