/- tms.Table: Lose. -/
import Derived.Test.YtonflknnlfffhaaUm
namespace Go.Proofs.Ytonflknnlfffhaa
open Go.RowKit Go.Lib KP MR RW
def noW (w : Wy) (l : List Wy) : List Wy := l.filter fun x => !decide (x = w)
def loseTo (P : Pl) (ks : List Int) (w : Wy) : Pl := P.map fun p => if p.1 ∈ ks then (p.1, p.2.1, noW w p.2.2) else p
def loseP (P : Pl) (w : Wy) : Pl := P.map fun p => (p.1, p.2.1, noW w p.2.2)
def goneQ (w : Wy) : Option (Bool × List Wy) → Bool
  | some q => decide (w ∈ q.2) && !(q.1 || decide (0 < (noW w q.2).length))
  | none => false
def goneP (P : Pl) (w : Wy) (id : Int) : Bool := goneQ w (lk P id)
def lost (P : Pl) (w : Wy) : List Int := (rise (P.map (·.1))).filter (goneP P w)
theorem noW_map (L : List Wf) (w : Wy) : (L.filter fun x => !decide (x.1 = w)).map (·.1) = noW w (L.map (·.1)) := by
  unfold noW
  rw [List.filter_map]
  rfl
theorem noW_len {w : Wy} {l : List Wy} (h : w ∈ l) : (noW w l).length < l.length := List.length_filter_lt_length_iff_exists.2 ⟨w, h, by simp⟩
theorem noW_not {w : Wy} {l : List Wy} (h : w ∉ l) : noW w l = l := List.filter_eq_self.2 (fun x hx => by
  have : x ≠ w := fun e => h (e ▸ hx)
  simpa using this)
theorem loseTo_nil (P : Pl) (w : Wy) : loseTo P [] w = P := by
  unfold loseTo
  simp
theorem loseTo_all (P : Pl) (ks : List Int) (w : Wy) (h : ∀ p ∈ P, p.1 ∈ ks) : loseTo P ks w = loseP P w := by
  unfold loseTo loseP
  exact List.map_congr_left (fun p hp => by rw [if_pos (h p hp)])
theorem pl_keys (N : Tb) : (pl N).map (·.1) = N.map (·.1) := by
  unfold pl
  rw [List.map_map]
  rfl
theorem lose_find {P : Pl} {Nk : Tb} {T : List Int} {w : Wy} {id : Int} {nd : Rd} (hn : (P.map (·.1)).Nodup) (hp : pl Nk = loseTo P T w) (hl : lk Nk id = some nd) (ht : id ∉ T) : lk P id = some (nd.free, nd.ls.map (·.1)) := by
  have h1 : (id, nd.free, nd.ls.map (·.1)) ∈ pl Nk := List.mem_map.2 ⟨_, lk_some hl, rfl⟩
  rw [hp] at h1
  obtain ⟨p, hpm, e⟩ := List.mem_map.1 h1
  by_cases h : p.1 ∈ T
  · rw [if_pos h] at e
    have e1 : p.1 = id := congrArg Prod.fst e
    exact absurd (by rw [← e1]; exact h) ht
  · rw [if_neg h] at e
    subst e
    exact mem_lk hn hpm
theorem lose_step {P : Pl} {Nk : Tb} {T : List Int} {w : Wy} {id : Int} {nd : Rd} {v : Value} {L9 : List Wf} (hn : (P.map (·.1)).Nodup) (hp : pl Nk = loseTo P T w) (hl : lk Nk id = some nd) (ht : id ∉ T) (h9 : L9.map (·.1) = noW w (nd.ls.map (·.1))) :
    pl (setR Nk id nd.free v L9) = loseTo P (T ++ [id]) w := by
  have hf := lose_find hn hp hl ht
  rw [pl_setR, hp]
  unfold loseTo
  rw [List.map_map]
  refine List.map_congr_left (fun p hpm => ?_)
  simp only [Function.comp_apply]
  by_cases e : p.1 = id
  · have h1 : lk P p.1 = some p.2 := mem_lk hn hpm
    rw [e, hf] at h1
    injection h1 with h1
    have h2 : p.1 ∉ T := by rw [e]; exact ht
    have h3 : p.1 ∈ T ++ [id] := by rw [e]; simp
    rw [if_neg h2, if_pos e, if_pos h3, ← h1, h9]
  · by_cases h : p.1 ∈ T
    · rw [if_pos h]
      dsimp only
      rw [if_neg e, if_pos (List.mem_append.2 (.inl h))]
    · rw [if_neg h, if_neg e, if_neg (fun h2 => (List.mem_append.1 h2).elim h (fun h3 => e (List.mem_singleton.1 h3)))]
theorem lk_setR {N : Tb} {id : Int} {nd : Rd} {f : Bool} {v : Value} {ls : List Wf} (hn : (N.map (·.1)).Nodup) (hl : lk N id = some nd) : lk (setR N id f v ls) id = some { nd with free := f, lv := v, ls := ls } := by
  refine mem_lk (by rw [setR_keys]; exact hn) ?_
  unfold setR
  exact List.mem_map.2 ⟨_, lk_some hl, by rw [if_pos rfl]⟩
theorem is_p (y : Wf) (W : World) : Calls Try.prog 46 #[y.val] W fun e w' => ∃ b, W.heap.size ≤ b ∧ e = .returned (.func (.func 59) #[] #[.pointer (some ⟨b, 0, none⟩)]) ∧ (∀ j v, (whyc y)[j]? = some v → w'.cell? ⟨b, j, none⟩ = some v) ∧ Below W.heap.size W w' := by
  refine (is_c y W).mono ?_
  rintro e w' ⟨rfl, rfl⟩
  exact ⟨W.heap.size, Nat.le_refl _, rfl, fun j v hv => block_cell (heap_alloc_new W _) (by simpa using hv), (Below.refl _ _).alloc (Nat.le_refl _) _⟩
section
variable {B : Nat} {F : Nat → Prop} {g m : Nat} {cv v9 : Value} {cs L9 : List Wf} {N : Tb} {W w1 w2 : World} {id : Int} {nd : Rd}
/-- A support gone from a row. -/
theorem TS.delL (h : TS B F g m cv cs N W) (hl : lk N id = some nd) (hb : Below W.heap.size W w1) (KZ : Keep (fun k => nd.lv.ownBlock = some k) w1 w2) (OV : OwnY w2 B v9 L9) (HV : v9.ownBlock = nd.lv.ownBlock) (hs : ∀ x ∈ L9, x ∈ nd.ls) (hlen : L9.length ≤ 10000) :
    TS B F g m cv cs (Go.Proofs.Ytonflknnlfffhaa.setR N id nd.free v9 L9) (w2.setCell ⟨nd.b, 1, none⟩ v9) ∧ Keep F W (w2.setCell ⟨nd.b, 1, none⟩ v9) := by
  have h1 := h.grow hb
  have hmem := lk_some hl
  have hB : B ≤ w1.heap.size := by have := h1.lt g h1.Fg; omega
  have g8 := (KZ.block nd.b (h1.lt _ (h1.Fb _ hmem)).2 (fun e => h1.vb hmem hmem e)).trans (h1.node _ hmem)
  dsimp only at g8
  have kb : Keep (fun k => k = nd.b) w2 (w2.setCell ⟨nd.b, 1, none⟩ v9) := (Keep.refl (fun k => k = nd.b) w2).setCell (p := ⟨nd.b, 1, none⟩) (.inl rfl) _
  have k9 : Keep (fun k => k = nd.b ∨ nd.lv.ownBlock = some k) w1 (w2.setCell ⟨nd.b, 1, none⟩ v9) := (KZ.mono (fun k hk => .inr hk)).trans kb (fun k hk => .inl (.inl hk))
  have hvb : v9.ownBlock ≠ some nd.b := OV.ne g8 (by decide)
  have O9 : OwnY (w2.setCell ⟨nd.b, 1, none⟩ v9) B v9 L9 := OV.keep kb (fun k hk e => hvb (by rw [← e]; exact hk))
  refine ⟨h1.setR hl k9 (by have := block_set g8 (j := 1) v9; simpa using this) O9 (fun k hk => .inl (by rw [← HV]; exact hk)) (fun _ h => h) (fun k hk => h1.Fl _ hmem k (by rw [← HV]; exact hk)) (fun k hk => .inl hk) hlen hB (fun x hx => .inl (hs x hx)), ?_⟩
  exact (Keep.of_below hb F).trans (k9.mono (fun k hk => by rcases hk with rfl | hk; exact h1.Fb _ hmem; exact h1.Fl _ hmem k hk)) (fun k hk => .inl hk)
/-- 'slices.DeleteFunc(r.l, is(w))'. -/
theorem delrow_c (h : TS B F g m cv cs N W) (hl : lk N id = some nd) (y : Wf) (b1 : Nat) (hb : Below W.heap.size W w1) (hb1 : W.heap.size ≤ b1) (hbc : ∀ j v, (whyc y)[j]? = some v → w1.cell? ⟨b1, j, none⟩ = some v) (hy : ∀ w', Keep (fun k => nd.lv.ownBlock = some k) w1 w' → ArgY w' y) :
    Calls Try.prog 52 #[nd.lv, .func (.func 59) #[] #[.pointer (some ⟨b1, 0, none⟩)]] w1 fun e w' => ∃ v', e = .returned v' ∧ OwnY w' B v' (nd.ls.filter fun x => !decide (x.1 = y.1)) ∧ v'.ownBlock = nd.lv.ownBlock ∧ Keep (fun k => nd.lv.ownBlock = some k) w1 w' := by
  have hmem := lk_some hl
  have h1 := h.grow hb
  refine delI_c B b1 nd.lv nd.ls (fun x => decide (x.1 = y.1)) (fun w' => Keep (fun k => nd.lv.ownBlock = some k) w1 w') w1 (h1.own _ hmem) (Keep.refl _ _) (fun u1 u2 k1 k2 => k1.trans k2 (fun k hk => .inl hk)) (fun W' x hx hiv => ?_) (by have := h1.lf _ hmem; dsimp only at this; omega)
  have hf := h1.facts x (.inr ⟨_, hmem, hx⟩)
  refine is1_c b1 x y W' (hf.keep hiv (fun k hk2 e => ((h1.fx hf).2.2.1 _ hmem).2 k hk2 e)).arg (hy W' hiv) (fun j v hv => hiv.cell (hbc j v hv) (fun e => ?_))
  have e2 : nd.lv.ownBlock = some b1 := e
  have := (h.lt _ (h.Fl _ hmem _ e2)).2
  omega
def LI (B : Nat) (F : Nat → Prop) (g m : Nat) (cv : Value) (cs : List Wf) (N : Tb) (w : Wy) (T : List Int) (W2 : World) (vo : Value) (wr : World) : Prop :=
  ∃ Nk, TS B F g m cv cs Nk wr ∧ pl Nk = loseTo (pl N) T w ∧ OwnI wr W2.heap.size vo (T.filter (goneP (pl N) w)) ∧ Keep F W2 wr
def LoseR (B : Nat) (F : Nat → Prop) (g m : Nat) (cs : List Wf) (N : Tb) (w : Wy) (W : World) (e : Ending) (w' : World) : Prop :=
  ∃ v, e = .returned v ∧ OwnI w' W.heap.size v (lost (pl N) w) ∧ ∃ cv' cs' N', TS B F g m cv' cs' N' w' ∧ pl N' = loseP (pl N) w ∧ cs'.map (·.1) = (cs.map (·.1)).filter (usedP (pl N')) ∧ Keep F W w'
theorem cutV {P Fa : World → Option Addr → Nat → Nat → Prop} {G : Prop} (h1 : (∀ w A c b, Fa w A c b → P w A c b) → G) (h2 : ∀ w A c b, Fa w A c b → P w A c b) : G := h1 h2
set_option maxRecDepth 100000 in
set_option maxHeartbeats 8000000 in
theorem lose_c (y : Wf) (h : TS B F g m cv cs N W) (hy : ArgY W y) (hyn : IntsAt F W y.2.1 y.1.2.2) :
    Calls Try.prog 30 #[.pointer (some ⟨g, 0, none⟩), y.val] W (LoseR B F g m cs N y.1 W) := by
  obtain ⟨i0, hi, hz0, hz1, hz2⟩ := info_parts infoI
  obtain ⟨⟨y1, y2, y3⟩, yA, yc⟩ := y
  have DA := Lib.hid ((Below.refl W.heap.size W).alloc (Nat.le_refl _) (.cells (whyc ((y1, y2, y3), yA, yc)).toArray 50))
  have HBX := heap_alloc_new W (.cells (whyc ((y1, y2, y3), yA, yc)).toArray 50)
  have T1 := Lib.hid (h.grow DA.out)
  have HFX : Hid (¬ F W.heap.size) := Lib.hid (fun hF => by have := (h.lt _ hF).2; omega)
  have HLT : Hid (∀ k, F k → k < W.heap.size) := Lib.hid (fun k hF => (h.lt k hF).2)
  have HX0 : Hid ((fun w' : World => w'.cell? ⟨W.heap.size, 0, none⟩ = some (.int .i64 y1) ∧ w'.cell? ⟨W.heap.size, 1, none⟩ = some (.int .i64 y2) ∧ w'.cell? ⟨W.heap.size, 2, none⟩ = some (.slice yA y3.length yc)) (W.alloc (.cells (whyc ((y1, y2, y3), yA, yc)).toArray 50))) := Lib.hid ⟨block_cell (j := 0) HBX rfl, block_cell (j := 1) HBX rfl, block_cell (j := 2) HBX rfl⟩
  have HSB0 : Hid (∀ w', Keep F (W.alloc (.cells (whyc ((y1, y2, y3), yA, yc)).toArray 50)) w' → (fun w' : World => w'.cell? ⟨W.heap.size, 0, none⟩ = some (.int .i64 y1) ∧ w'.cell? ⟨W.heap.size, 1, none⟩ = some (.int .i64 y2) ∧ w'.cell? ⟨W.heap.size, 2, none⟩ = some (.slice yA y3.length yc)) w') := Lib.hid (fun w' hk => ⟨hk.cell HX0.out.1 HFX.out, hk.cell HX0.out.2.1 HFX.out, hk.cell HX0.out.2.2 HFX.out⟩)
  have HARG0 : Hid (∀ w', Keep F (W.alloc (.cells (whyc ((y1, y2, y3), yA, yc)).toArray 50)) w' → ArgY w' ((y1, y2, y3), yA, yc)) := Lib.hid (fun w' hk => ⟨((RowsAt.old intc_len (by decide) hyn).keep ((Keep.of_below DA.out F).trans hk (fun k hk => .inl hk)) (fun k hk => .inl hk)).mono (fun _ h => h.elim), hy.nil, hy.few⟩)
  have HSO := Lib.hid (sortedRow_c T1.out.map h.keys (by have := h.few; omega))
  have hgc := block_cell (j := 0) T1.out.blk rfl
  have HND : Hid (((pl N).map (·.1)).Nodup) := Lib.hid (by rw [pl_keys]; exact h.nodup)
  obtain ⟨K, HK⟩ : ∃ K, Hid (K = rise (N.map (·.1))) := ⟨_, Lib.hid rfl⟩
  have HKN : Hid (K.Nodup) := Lib.hid (by rw [HK.out]; exact ((List.mergeSort_perm _ _).nodup_iff).2 h.nodup)
  have HKM : Hid (∀ id, id ∈ K ↔ id ∈ N.map (·.1)) := Lib.hid (fun id => by rw [HK.out]; exact (List.mergeSort_perm _ _).mem_iff)
  have hKl : K.length ≤ 1000 := by rw [HK.out, rise_len, List.length_map]; exact h.few
  have HLO : Hid (lost (pl N) ((y1, y2, y3), yA, yc).1 = K.filter (goneP (pl N) ((y1, y2, y3), yA, yc).1)) := Lib.hid (by unfold lost; rw [pl_keys, HK.out])
  rw [← HK.out] at HSO
  have hsz1 : (W.alloc (.cells (whyc ((y1, y2, y3), yA, yc)).toArray 50)).heap.size = W.heap.size + 1 := by simp
  rw [hsz1] at HSO
  have hKI : (K.length : Int) ≤ 1000 := by omega
  have HS1 := Lib.hid hsz1
  clear h hy hyn HBX HX0 hsz1
  go_enter Try.func30, Try.ntmps30
  go_wp2_with fail
  refine (keysRow_c (some m) _).mono ?_
  rintro e w0 ⟨rfl, rfl⟩
  go_wp2_with fail
  refine HSO.out.mono ?_
  rintro e w2 ⟨v, rfl, hrow, hb2⟩
  rw [← HS1.out] at hb2
  have hoK : OwnI w2 (W.heap.size + 1) v K := by
    have := OwnW.of hrow
    rw [← flat_ints] at this
    exact this
  obtain ⟨Ak, ck, rfl, hkr, -, -⟩ := OwnI.row hoK
  have hsz : W.heap.size + 1 ≤ w2.heap.size := by have := hb2.size; simpa using this
  have HKR : Hid (∀ w', Keep F w2 w' → IntsAt (fun _ => False) w' Ak K) := Lib.hid (fun w' hk => by
    have h9 := hoK.keep hk (fun k hk2 hF => by have h1 := (hoK.lt hk2).1; have h2 := HLT.out k hF; omega)
    obtain ⟨A', c', e', hr, _, _⟩ := OwnI.row h9
    injection e' with e1 _ _
    rw [e1]; exact hr)
  have HK2 : Hid (Keep F (W.alloc (.cells (whyc ((y1, y2, y3), yA, yc)).toArray 50)) w2) := Lib.hid (Keep.of_below hb2 F)
  have HSB : Hid (∀ w', Keep F w2 w' → (fun w' : World => w'.cell? ⟨W.heap.size, 0, none⟩ = some (.int .i64 y1) ∧ w'.cell? ⟨W.heap.size, 1, none⟩ = some (.int .i64 y2) ∧ w'.cell? ⟨W.heap.size, 2, none⟩ = some (.slice yA y3.length yc)) w') := Lib.hid (fun w' hk => HSB0.out w' (HK2.out.trans hk (fun k hk => .inl hk)))
  have HARG : Hid (∀ w', Keep F w2 w' → ArgY w' ((y1, y2, y3), yA, yc)) := Lib.hid (fun w' hk => HARG0.out w' (HK2.out.trans hk (fun k hk => .inl hk)))
  have HL0 : Hid (LI B F g m cv cs N ((y1, y2, y3), yA, yc).1 [] w2 (.slice none 0 0) w2) := Lib.hid ⟨N, T1.out.grow hb2, by rw [loseTo_nil], OwnW.nil _ _ _ _, Keep.refl _ _⟩
  have HW2 : Hid (∀ w', Keep F w2 w' → Keep F W w') := Lib.hid (fun w' hk => ((Keep.of_below DA.out F).trans HK2.out (fun k hk => .inl hk)).trans hk (fun k hk => .inl hk))
  have HSZ := Lib.hid hsz
  clear hrow hb2 hoK hkr HK2 HSB0 HARG0 HSO T1 DA hsz hgc
  go_wp2_with fail
  go_loopw [5, 17] (fun v i wr => ∃ (k : Nat) (vo : Value), k ≤ K.length ∧ i = .int .i64 k ∧ vo = v ∧ Hid (LI B F g m cv cs N ((y1, y2, y3), yA, yc).1 (K.take k) w2 vo wr)) (fun _ i _ => K.length - (RowKit.intOf i).toNat)
  case atStart => exact ⟨0, _, by omega, rfl, rfl, HL0⟩
  case round =>
    obtain ⟨k, vo, hk, rfl, rfl, hLI⟩ := hrel
    clear HL0
    by_cases hlt : k < K.length
    · obtain ⟨Nk, tk, hpl, hok, hkk⟩ := hLI.out
      obtain ⟨ad, rfl, -, hc0⟩ := IntsAt.at (HKR.out _ hkk) hlt
      have hkI : (k : Int) < (K.length : Int) := by omega
      have HTK : Hid (K.take (k + 1) = K.take k ++ [K[k]]) := Lib.hid (by rw [List.take_succ_eq_append_getElem hlt])
      have hnt : K[k] ∉ K.take k := fun hmem => by
        obtain ⟨j, hj, e⟩ := List.getElem_of_mem hmem
        rw [List.getElem_take] at e
        have hj2 : j < k := by rw [List.length_take] at hj; omega
        exact List.pairwise_iff_getElem.1 HKN.out j k (by omega) hlt hj2 e
      have hin : K[k] ∈ Nk.map (·.1) := by
        rw [← pl_keys, hpl]
        have : (loseTo (pl N) (K.take k) ((y1, y2, y3), yA, yc).1).map (·.1) = (pl N).map (·.1) := by
          unfold loseTo
          rw [List.map_map]
          refine List.map_congr_left (fun p _ => ?_)
          simp only [Function.comp_apply]
          split <;> rfl
        rw [this, pl_keys]
        exact (HKM.out _).1 (List.getElem_mem hlt)
      generalize K[k] = id at *
      obtain ⟨p, hp, rfl⟩ := List.mem_map.1 hin
      obtain ⟨id, nd⟩ := p
      dsimp only at *
      have hl : lk Nk id = some nd := mem_lk tk.nodup hp
      have hlk := tk.look_yes hl
      have hgc := block_cell (j := 0) tk.blk rfl
      have hnode := tk.node _ hp
      obtain ⟨A, c, ev, -, -, -⟩ := OwnY.row (tk.own _ hp)
      dsimp only at hnode ev
      rw [ev] at hnode
      have hn1 := block_cell (j := 1) hnode rfl
      have EV := Lib.hid ev
      have hlen := tk.lf _ hp
      dsimp only at hlen
      obtain ⟨L9, HL9⟩ : ∃ L9, Hid (L9 = nd.ls.filter fun x => !decide (x.1 = ((y1, y2, y3), yA, yc).1)) := ⟨_, Lib.hid rfl⟩
      have HFI := Lib.hid (lose_find HND.out hpl hl hnt)
      have HST2 : Hid (∀ v, pl (setR Nk id nd.free v L9) = loseTo (pl N) (K.take (k + 1)) ((y1, y2, y3), yA, yc).1) := Lib.hid (fun v => by
        rw [HTK.out]
        exact lose_step HND.out hpl hl hnt (by rw [HL9.out]; exact noW_map _ _))
      have HDEL : Hid (∀ b1 p1, Below wr.heap.size wr p1 → wr.heap.size ≤ b1 → (∀ j v, (whyc ((y1, y2, y3), yA, yc))[j]? = some v → p1.cell? ⟨b1, j, none⟩ = some v) → Calls Try.prog 52 #[.slice A nd.ls.length c, .func (.func 59) #[] #[.pointer (some ⟨b1, 0, none⟩)]] p1 fun e w' => ∃ v', e = .returned v' ∧ OwnY w' B v' L9 ∧ v'.ownBlock = nd.lv.ownBlock ∧ Keep (fun k => nd.lv.ownBlock = some k) p1 w') := Lib.hid (fun b1 p1 hb hb1 hbc => by
        rw [← EV.out, HL9.out]
        exact delrow_c tk hl ((y1, y2, y3), yA, yc) b1 hb hb1 hbc (fun w' hk => HARG.out w' ((hkk.trans (Keep.of_below hb F) (fun k hk => .inl hk)).trans (hk.mono (fun k hk => tk.Fl _ hp k hk)) (fun k hk => .inl hk))))
      have TK := Lib.hid tk; have HKK := Lib.hid hkk; have HOK := Lib.hid hok; have HLL := Lib.hid hl
      have HSBw : Hid (∀ w', Keep F wr w' → (fun w' : World => w'.cell? ⟨W.heap.size, 0, none⟩ = some (.int .i64 y1) ∧ w'.cell? ⟨W.heap.size, 1, none⟩ = some (.int .i64 y2) ∧ w'.cell? ⟨W.heap.size, 2, none⟩ = some (.slice yA y3.length yc)) w') := Lib.hid (fun w' hk => HSB.out w' (HKK.out.trans hk (fun k hk => .inl hk)))
      have KF : Hid (∀ p1 p2, Below wr.heap.size wr p1 → Keep (fun k => nd.lv.ownBlock = some k) p1 p2 → Keep F wr p2) := Lib.hid (fun p1 p2 hb hk => (Keep.of_below hb F).trans (hk.mono (fun k hk => TK.out.Fl _ hp k hk)) (fun k hk => .inl hk))
      have KO : Hid (∀ p1 p2, Below wr.heap.size wr p1 → Keep (fun k => nd.lv.ownBlock = some k) p1 p2 → Keep (fun k => nd.lv.ownBlock = some k) wr p2) := Lib.hid (fun p1 p2 hb hk => (Keep.of_below hb _).trans hk (fun k hk => .inl hk))
      have HLK : Hid (∀ w', Keep (fun k => nd.lv.ownBlock = some k) wr w' → w'.cell? ⟨nd.b, 1, none⟩ = some (.slice A nd.ls.length c) ∧ w'.frozen? ⟨nd.b, 1, none⟩ = false) := Lib.hid (fun w' hk => by
        have h9 := (hk.block nd.b (TK.out.lt _ (TK.out.Fb _ hp)).2 (TK.out.vb hp hp)).trans hnode
        exact ⟨block_cell h9 rfl, block_free h9⟩)
      have hnb : W.heap.size ≠ nd.b := fun e => HFX.out (by rw [e]; exact TK.out.Fb _ hp)
      have HSF : Hid (∀ (w' : World) (v : Value), (fun w' : World => w'.cell? ⟨W.heap.size, 0, none⟩ = some (.int .i64 y1) ∧ w'.cell? ⟨W.heap.size, 1, none⟩ = some (.int .i64 y2) ∧ w'.cell? ⟨W.heap.size, 2, none⟩ = some (.slice yA y3.length yc)) w' → (fun w' : World => w'.cell? ⟨W.heap.size, 0, none⟩ = some (.int .i64 y1) ∧ w'.cell? ⟨W.heap.size, 1, none⟩ = some (.int .i64 y2) ∧ w'.cell? ⟨W.heap.size, 2, none⟩ = some (.slice yA y3.length yc)) (w'.setCell ⟨nd.b, 1, none⟩ v)) := Lib.hid (fun w' v hs => by
        have kb : Keep (fun k => k = nd.b) w' (w'.setCell ⟨nd.b, 1, none⟩ v) := (Keep.refl (fun k => k = nd.b) w').setCell (p := ⟨nd.b, 1, none⟩) (.inl rfl) _
        exact ⟨kb.cell hs.1 hnb, kb.cell hs.2.1 hnb, kb.cell hs.2.2 hnb⟩)
      have HPM := Lib.hid hp
      clear tk hpl hok hkk hin hl hnode ev hnb hp
      have hSBold := HSB
      clear HSB
      have HSB := HSBw
      clear HSBw
      go_wp2_with fail
      have ED := Lib.hid (Below.refl wr.heap.size wr).drew
      clear hlk hgc hn1 hc0
      apply cutV (Fa := (fun w A9 c9 (b1 : Nat) => ∃ p1 p2, Below wr.heap.size wr p1 ∧ w = p2.setCell ⟨nd.b, 1, none⟩ (.slice A9 L9.length c9) ∧ OwnY p2 B (.slice A9 L9.length c9) L9 ∧ (Value.slice A9 L9.length c9).ownBlock = nd.lv.ownBlock ∧ Keep (fun k => nd.lv.ownBlock = some k) p1 p2))
      · intro HT
        refine wp_region_held_drew (S := (fun w' : World => w'.cell? ⟨W.heap.size, 0, none⟩ = some (.int .i64 y1) ∧ w'.cell? ⟨W.heap.size, 1, none⟩ = some (.int .i64 y2) ∧ w'.cell? ⟨W.heap.size, 2, none⟩ = some (.slice yA y3.length yc))) (by kernel_rfl) (HSB.out _ (Keep.of_below ED.out _)) (fun hHeld => ?_)
        refine wpAnyH_take (i := 0) (oi := ⟨_, _, _, _, _, _⟩) (v := ?_) rfl (by kernel_rfl) (by kernel_rfl) (by kernel_rfl) (fun _ _ _ h => h) (Or.inl ⟨by rfl, ?_⟩) (by assumption) ?_
        rotate_left
        · intro w' hSw; (try dsimp only at hSw); go_simp; (try with_reducible rfl)
        try simp only [Act.put, List.setIfInBounds_toArray, List.set_cons_zero, List.set_cons_succ]
        refine wpAnyH_take (i := 1) (oi := ⟨_, _, _, _, _, _⟩) (v := ?_) rfl (by kernel_rfl) (by kernel_rfl) (by kernel_rfl) (fun _ _ _ h => h) (Or.inl ⟨by rfl, ?_⟩) (by assumption) ?_
        rotate_left
        · intro w' hSw; (try dsimp only at hSw); go_simp; (try with_reducible rfl)
        try simp only [Act.put, List.setIfInBounds_toArray, List.set_cons_zero, List.set_cons_succ]
        refine wpAnyH_take (i := 2) (oi := ⟨_, _, _, _, _, _⟩) (v := ?_) rfl (by kernel_rfl) (by kernel_rfl) (by kernel_rfl) (fun _ _ _ h => h) (Or.inl ⟨by rfl, ?_⟩) (by assumption) ?_
        rotate_left
        · intro w' hSw; (try dsimp only at hSw); go_simp; (try with_reducible rfl)
        try simp only [Act.put, List.setIfInBounds_toArray, List.set_cons_zero, List.set_cons_succ]
        refine wpAnyH_take (i := 3) (oi := ⟨_, _, _, _, _, _⟩) (v := ?_) rfl (by kernel_rfl) (by kernel_rfl) (by kernel_rfl) (fun _ _ _ h => h) (Or.inl ⟨by rfl, ?_⟩) (by assumption) ?_
        rotate_left
        · intro w' hSw; (try dsimp only at hSw); go_simp; (try with_reducible rfl)
        try simp only [Act.put, List.setIfInBounds_toArray, List.set_cons_zero, List.set_cons_succ]
        refine wpAnyH_take (i := 5) (oi := ⟨_, _, _, _, _, _⟩) (v := ?_) rfl (by kernel_rfl) (by kernel_rfl) (by kernel_rfl) (fun _ _ _ h => h) (Or.inl ⟨by rfl, ?_⟩) (by assumption) ?_
        rotate_left
        · intro w' hSw; (try dsimp only at hSw); go_simp; (try with_reducible rfl)
        try simp only [Act.put, List.setIfInBounds_toArray, List.set_cons_zero, List.set_cons_succ]
        refine wpAnyH_ready (rs := [4, 6]) (by kernel_rfl) (by simp) ?_
        refine (AllReadyH.cons (o := ⟨_, _, _, _, _, _⟩) rfl (fun K9 hK9 => ?_) (AllReadyH.cons (o := ⟨_, _, _, _, _, _⟩) rfl (fun K9 hK9 => ?_) AllReadyH.nil))
        · have hc4 := (HLK.out _ (Keep.of_below ED.out _)).1
          go_simp
          clear hc4
          refine hK9.out _ _ (HSB.out _ (Keep.of_below ED.out _)) (fun hHeld => ?_)
          clear hK9 K9
          try simp only [Act.put, List.setIfInBounds_toArray, List.set_cons_zero, List.set_cons_succ]
          refine wpAnyH_ready (rs := [6]) (by kernel_rfl) (by simp) ?_
          refine AllReadyH.cons (o := ⟨_, _, _, _, _, _⟩) rfl (fun K9 hK9 => ?_) AllReadyH.nil
          go_simp
          (with_reducible refine (is_p ((y1, y2, y3), yA, yc) _).mono ?_)
          rintro e p1 ⟨b1, hbg, rfl, hb1, bb1⟩
          have E1 := Lib.hid (ED.out.trans (bb1.mono ED.out.size))
          have HB1 := Lib.hid hb1
          have HBG := Lib.hid (Nat.le_trans ED.out.size hbg)
          clear bb1 hb1 hbg
          go_wp2_with fail
          refine hK9.out _ _ (HSB.out _ (Keep.of_below E1.out _)) (fun hHeld => ?_)
          clear hK9 K9
          try simp only [Act.put, List.setIfInBounds_toArray, List.set_cons_zero, List.set_cons_succ]
          refine wpAnyH_ready (rs := [7]) (by kernel_rfl) (by simp) ?_
          refine AllReadyH.cons (o := ⟨_, _, _, _, _, _⟩) rfl (fun K9 hK9 => ?_) AllReadyH.nil
          go_simp
          (with_reducible refine (HDEL.out b1 p1 E1.out HBG.out HB1.out).mono ?_)
          rintro e p2 ⟨v9, rfl, o2, ob2, k2⟩
          have K2 := Lib.hid k2
          have O2 := Lib.hid o2
          have OB := Lib.hid ob2
          clear k2 o2 ob2
          obtain ⟨A9, c9, ev9, -, -, -⟩ := OwnY.row O2.out
          subst ev9
          go_wp2_with fail
          refine hK9.out _ _ (HSB.out _ (KF.out _ _ E1.out K2.out)) (fun hHeld => ?_)
          clear hK9 K9
          try simp only [Act.put, List.setIfInBounds_toArray, List.set_cons_zero, List.set_cons_succ]
          refine wpAnyH_take (i := 8) (oi := ⟨_, _, _, _, _, _⟩) (v := ?_) rfl (by kernel_rfl) (by kernel_rfl) (by kernel_rfl) (fun _ _ _ h => h) (Or.inl ⟨by rfl, ?_⟩) (by assumption) ?_
          rotate_left
          · intro w' hSw; (try dsimp only at hSw); go_simp; (try with_reducible rfl)
          try simp only [Act.put, List.setIfInBounds_toArray, List.set_cons_zero, List.set_cons_succ]
          refine wpAnyH_take (i := 9) (oi := ⟨_, _, _, _, _, _⟩) (v := ?_) rfl (by kernel_rfl) (by kernel_rfl) (by kernel_rfl) (fun _ _ _ h => h) (Or.inl ⟨by rfl, ?_⟩) (by assumption) ?_
          rotate_left
          · intro w' hSw; (try dsimp only at hSw); go_simp; (try with_reducible rfl)
          try simp only [Act.put, List.setIfInBounds_toArray, List.set_cons_zero, List.set_cons_succ]
          refine wpAnyH_ready (rs := [10]) (by kernel_rfl) (by simp) ?_
          refine AllReadyH.cons (o := ⟨_, _, _, _, _, _⟩) rfl (fun K9 hK9 => ?_) AllReadyH.nil
          obtain ⟨hc11, hf11⟩ := HLK.out _ (KO.out _ _ E1.out K2.out)
          go_simp
          clear hc11 hf11
          refine hK9.out _ _ (HSF.out _ _ (HSB.out _ (KF.out _ _ E1.out K2.out))) (fun hHeld => ?_)
          clear hK9 K9
          try simp only [Act.put, List.setIfInBounds_toArray, List.set_cons_zero, List.set_cons_succ]
          refine wpAnyH_done (by kernel_rfl) ?_ _
          clear hHeld
          have HF : (fun w A9 c9 (b1 : Nat) => ∃ p1 p2, Below wr.heap.size wr p1 ∧ w = p2.setCell ⟨nd.b, 1, none⟩ (.slice A9 L9.length c9) ∧ OwnY p2 B (.slice A9 L9.length c9) L9 ∧ (Value.slice A9 L9.length c9).ownBlock = nd.lv.ownBlock ∧ Keep (fun k => nd.lv.ownBlock = some k) p1 p2) (p2.setCell ⟨nd.b, 1, none⟩ (.slice A9 L9.length c9)) A9 c9 b1 := ⟨p1, p2, E1.out, rfl, O2.out, OB.out, K2.out⟩
          revert HF
          generalize (p2.setCell ⟨nd.b, 1, none⟩ (.slice A9 L9.length c9)) = w9
          intro HF
          exact HT w9 A9 c9 b1 HF
        · go_simp
          (with_reducible refine (is_p ((y1, y2, y3), yA, yc) _).mono ?_)
          rintro e p1 ⟨b1, hbg, rfl, hb1, bb1⟩
          have E1 := Lib.hid (ED.out.trans (bb1.mono ED.out.size))
          have HB1 := Lib.hid hb1
          have HBG := Lib.hid (Nat.le_trans ED.out.size hbg)
          clear bb1 hb1 hbg
          go_wp2_with fail
          refine hK9.out _ _ (HSB.out _ (Keep.of_below E1.out _)) (fun hHeld => ?_)
          clear hK9 K9
          try simp only [Act.put, List.setIfInBounds_toArray, List.set_cons_zero, List.set_cons_succ]
          refine wpAnyH_ready (rs := [4]) (by kernel_rfl) (by simp) ?_
          refine AllReadyH.cons (o := ⟨_, _, _, _, _, _⟩) rfl (fun K9 hK9 => ?_) AllReadyH.nil
          have hc4 := (HLK.out _ (Keep.of_below E1.out _)).1
          go_simp
          clear hc4
          refine hK9.out _ _ (HSB.out _ (Keep.of_below E1.out _)) (fun hHeld => ?_)
          clear hK9 K9
          try simp only [Act.put, List.setIfInBounds_toArray, List.set_cons_zero, List.set_cons_succ]
          refine wpAnyH_ready (rs := [7]) (by kernel_rfl) (by simp) ?_
          refine AllReadyH.cons (o := ⟨_, _, _, _, _, _⟩) rfl (fun K9 hK9 => ?_) AllReadyH.nil
          go_simp
          (with_reducible refine (HDEL.out b1 p1 E1.out HBG.out HB1.out).mono ?_)
          rintro e p2 ⟨v9, rfl, o2, ob2, k2⟩
          have K2 := Lib.hid k2
          have O2 := Lib.hid o2
          have OB := Lib.hid ob2
          clear k2 o2 ob2
          obtain ⟨A9, c9, ev9, -, -, -⟩ := OwnY.row O2.out
          subst ev9
          go_wp2_with fail
          refine hK9.out _ _ (HSB.out _ (KF.out _ _ E1.out K2.out)) (fun hHeld => ?_)
          clear hK9 K9
          try simp only [Act.put, List.setIfInBounds_toArray, List.set_cons_zero, List.set_cons_succ]
          refine wpAnyH_take (i := 8) (oi := ⟨_, _, _, _, _, _⟩) (v := ?_) rfl (by kernel_rfl) (by kernel_rfl) (by kernel_rfl) (fun _ _ _ h => h) (Or.inl ⟨by rfl, ?_⟩) (by assumption) ?_
          rotate_left
          · intro w' hSw; (try dsimp only at hSw); go_simp; (try with_reducible rfl)
          try simp only [Act.put, List.setIfInBounds_toArray, List.set_cons_zero, List.set_cons_succ]
          refine wpAnyH_take (i := 9) (oi := ⟨_, _, _, _, _, _⟩) (v := ?_) rfl (by kernel_rfl) (by kernel_rfl) (by kernel_rfl) (fun _ _ _ h => h) (Or.inl ⟨by rfl, ?_⟩) (by assumption) ?_
          rotate_left
          · intro w' hSw; (try dsimp only at hSw); go_simp; (try with_reducible rfl)
          try simp only [Act.put, List.setIfInBounds_toArray, List.set_cons_zero, List.set_cons_succ]
          refine wpAnyH_ready (rs := [10]) (by kernel_rfl) (by simp) ?_
          refine AllReadyH.cons (o := ⟨_, _, _, _, _, _⟩) rfl (fun K9 hK9 => ?_) AllReadyH.nil
          obtain ⟨hc11, hf11⟩ := HLK.out _ (KO.out _ _ E1.out K2.out)
          go_simp
          clear hc11 hf11
          refine hK9.out _ _ (HSF.out _ _ (HSB.out _ (KF.out _ _ E1.out K2.out))) (fun hHeld => ?_)
          clear hK9 K9
          try simp only [Act.put, List.setIfInBounds_toArray, List.set_cons_zero, List.set_cons_succ]
          refine wpAnyH_done (by kernel_rfl) ?_ _
          clear hHeld
          have HF : (fun w A9 c9 (b1 : Nat) => ∃ p1 p2, Below wr.heap.size wr p1 ∧ w = p2.setCell ⟨nd.b, 1, none⟩ (.slice A9 L9.length c9) ∧ OwnY p2 B (.slice A9 L9.length c9) L9 ∧ (Value.slice A9 L9.length c9).ownBlock = nd.lv.ownBlock ∧ Keep (fun k => nd.lv.ownBlock = some k) p1 p2) (p2.setCell ⟨nd.b, 1, none⟩ (.slice A9 L9.length c9)) A9 c9 b1 := ⟨p1, p2, E1.out, rfl, O2.out, OB.out, K2.out⟩
          revert HF
          generalize (p2.setCell ⟨nd.b, 1, none⟩ (.slice A9 L9.length c9)) = w9
          intro HF
          exact HT w9 A9 c9 b1 HF
      · intro w9 A9 c9 b1 HF
        obtain ⟨p1, p2, hb1, hw9, o2, ob2, k2⟩ := HF
        have hL9 : L9.length ≤ nd.ls.length := by rw [HL9.out]; exact List.length_filter_le _ _
        obtain ⟨t9, k9⟩ := TK.out.delL HLL.out hb1 k2 o2 ob2 (fun x hx => by rw [HL9.out] at hx; exact (List.mem_filter.1 hx).1) (by omega)
        rw [← hw9] at t9 k9
        have hlk9 := lk_setR (f := nd.free) (v := .slice A9 L9.length c9) (ls := L9) TK.out.nodup HLL.out
        have HS9 := Lib.hid (stands_c t9 id)
        rw [hlk9] at HS9
        have hnode9 := t9.node _ (lk_some hlk9)
        have d1 := block_cell (j := 1) hnode9 rfl
        dsimp only at d1
        have OK9 := Lib.hid (HOK.out.keep k9 (fun q hq hF => by
          have h1 := (HOK.out.lt hq).1
          have h2 := HLT.out q hF
          have h3 := HSZ.out
          omega))
        have K9 := Lib.hid (HKK.out.trans k9 (fun q hq => .inl hq))
        have T9 := Lib.hid t9
        have HP9 := Lib.hid (HST2.out (.slice A9 L9.length c9))
        have hnw : (noW ((y1, y2, y3), yA, yc).1 (nd.ls.map (·.1))).length = L9.length := by rw [← noW_map, List.length_map, ← HL9.out]
        obtain ⟨out, HO⟩ : ∃ out, Hid (out = (K.take k).filter (goneP (pl N) ((y1, y2, y3), yA, yc).1)) := ⟨_, Lib.hid rfl⟩
        have hout : out.length ≤ 1000 := by
          rw [HO.out]
          refine Nat.le_trans (List.length_filter_le _ _) ?_
          rw [List.length_take]
          omega
        rw [← HO.out] at OK9
        have HTKF : Hid ((K.take (k + 1)).filter (goneP (pl N) ((y1, y2, y3), yA, yc).1) = out ++ (if goneP (pl N) ((y1, y2, y3), yA, yc).1 id then [id] else [])) := Lib.hid (by
          rw [HTK.out, List.filter_append, ← HO.out, List.filter_cons, List.filter_nil])
        have HN9 := Lib.hid hnw
        have hLI9 : (L9.length : Int) ≤ 10000 := by omega
        have hBW : Hid (w2.heap.size ≤ w9.heap.size) := Lib.hid K9.out.size
        clear hb1 hw9 o2 ob2 k2 t9 k9 hnode9 hlk9 hnw HDEL HSF HLK KO KF HST2 ED
        by_cases hw : ((y1, y2, y3), yA, yc).1 ∈ nd.ls.map (·.1)
        · have h9 : (L9.length : Int) < nd.ls.length := by
            have := noW_len hw
            rw [HN9.out, List.length_map] at this
            omega
          obtain ⟨r, HR⟩ : ∃ r, Hid (r = (nd.free || decide (0 < L9.length))) := ⟨_, Lib.hid rfl⟩
          have HG : Hid (goneP (pl N) ((y1, y2, y3), yA, yc).1 id = !r) := Lib.hid (by
            unfold goneP
            rw [HFI.out]
            unfold goneQ
            dsimp only
            rw [HN9.out, decide_eq_true hw, Bool.true_and, HR.out])
          have HS8 : Hid (Calls Try.prog 26 #[.pointer (some ⟨g, 0, none⟩), .int .i64 id] w9 fun e w' => e = .returned (.bool r) ∧ w9 = w') := Lib.hid (by rw [HR.out]; exact HS9.out)
          clear hw HS9
          go_wp2_with fail
          refine HS8.out.mono ?_
          rintro e w10 ⟨rfl, rfl⟩
          cases r with
          | true =>
            have HL1 : Hid (LI B F g m cv cs N ((y1, y2, y3), yA, yc).1 (K.take (k + 1)) w2 vo w9) := Lib.hid ⟨_, T9.out, HP9.out, by rw [HTKF.out, HG.out]; simpa using OK9.out, K9.out⟩
            clear HS8 d1
            go_wp2_with fail
            go_roundw
            case rel => exact ⟨k + 1, vo, by omega, by go_num, rfl, HL1⟩
            case measure => first | (simp [RowKit.intOf]; done) | (simp [RowKit.intOf]; omega)
          | false =>
            have O7 := Lib.hid (OK9.out.below ((Below.refl w9.heap.size w9).alloc (Nat.le_refl _) (.cells #[.int .i64 id] 3)))
            have N7 := Lib.hid (append_new (W := w9) (x := id))
            have E7 := Lib.hid ((Below.refl w9.heap.size w9).alloc (Nat.le_refl _) (.cells #[.int .i64 id] 3))
            have HB7 : Hid (w2.heap.size ≤ (w9.alloc (.cells #[.int .i64 id] 3)).heap.size) := Lib.hid (Nat.le_trans hBW.out E7.out.size)
            clear HS8 d1
            go_wp2_with (at_builtin; (refine wpList_append_ownW (f := intc) intc_len intc_flat (by decide) rfl (.tmp 55) (.tmp 57) 35 rfl w2.heap.size 3 i0 zI 8 Try.underlying35 hi hz0 hz1 hz2 rfl vo out.length out rfl O7.out (some ⟨w9.heap.size, 0, none⟩) 1 [id] (fun h => by cases h) N7.out rfl (by unfold maxLen; simp; omega) (by simp; omega) HB7.out ?_))
            intro v8 w8 ho8 hg8 _
            have O8 : OwnI w8 w2.heap.size v8 (out ++ [id]) := by
              show OwnW w8 _ _ _ v8 (out ++ [id]).length _
              rw [List.length_append, List.flatMap_append, List.flatMap_singleton]
              exact ho8
            have k8 : Keep (fun q => vo.ownBlock = some q) (w9.alloc (.cells #[.int .i64 id] 3)) w8 := (Keep.refl _ _).grown hg8 (fun q hq => .inl hq)
            have t8 := (T9.out.grow E7.out).keep k8 (fun q hF hv => by
              have h1 := (OK9.out.lt hv).1
              have h2 := HLT.out q hF
              have h3 := HSZ.out
              omega)
            have HL1 : Hid (LI B F g m cv cs N ((y1, y2, y3), yA, yc).1 (K.take (k + 1)) w2 v8 w8) := Lib.hid ⟨_, t8, HP9.out, by rw [HTKF.out, HG.out]; exact O8, (K9.out.trans (Keep.of_below E7.out F) (fun q hq => .inl hq)).trans k8 (fun q hv => .inr (OK9.out.lt hv).1)⟩
            clear ho8 hg8 O8 k8 t8
            go_wp2_with fail
            go_roundw
            case rel => exact ⟨k + 1, v8, by omega, by go_num, rfl, HL1⟩
            case measure => first | (simp [RowKit.intOf]; done) | (simp [RowKit.intOf]; omega)
        · have h9 : L9.length = nd.ls.length := by rw [← HN9.out, noW_not hw, List.length_map]
          have HG : Hid (goneP (pl N) ((y1, y2, y3), yA, yc).1 id = false) := Lib.hid (by
            unfold goneP
            rw [HFI.out]
            unfold goneQ
            dsimp only
            rw [decide_eq_false hw, Bool.false_and])
          have HL1 : Hid (LI B F g m cv cs N ((y1, y2, y3), yA, yc).1 (K.take (k + 1)) w2 vo w9) := Lib.hid ⟨_, T9.out, HP9.out, by rw [HTKF.out, HG.out]; simpa using OK9.out, K9.out⟩
          clear hw HS9
          rw [h9] at d1
          go_wp2_with fail
          go_roundw
          case rel => exact ⟨k + 1, vo, by omega, by go_num, rfl, HL1⟩
          case measure => first | (simp [RowKit.intOf]; done) | (simp [RowKit.intOf]; omega)
    · obtain rfl : k = K.length := by omega
      obtain ⟨Nk, tk, hpl, hok, hkk⟩ := hLI.out
      rw [List.take_length] at hpl hok
      have hall : pl Nk = loseP (pl N) ((y1, y2, y3), yA, yc).1 := by
        rw [hpl]
        refine loseTo_all _ _ _ (fun p hp => ?_)
        rw [HKM.out, ← pl_keys]
        exact List.mem_map.2 ⟨p, hp, rfl⟩
      have HSW := Lib.hid (sweep_c tk)
      have HOK := Lib.hid hok
      have HKK := Lib.hid hkk
      have HALL := Lib.hid hall
      clear tk hpl hok hkk hall hLI
      go_wp2_with fail
      refine HSW.out.mono ?_
      rintro e w3 ⟨rfl, cv3, t3, k3⟩
      have ok3 := HOK.out.keep k3 (fun q hq hF => by
        have h1 := (HOK.out.lt hq).1
        have h2 := HLT.out q hF
        have h3 := HSZ.out
        omega)
      have OK3 := Lib.hid ok3
      have T3 := Lib.hid t3
      have K3 := Lib.hid (HW2.out w3 (HKK.out.trans k3 (fun q hq => .inl hq)))
      clear t3 k3 ok3
      go_wp2_with fail
      refine (clip_c OK3.out).mono ?_
      rintro e w4 ⟨v4, rfl, o4, -, rfl⟩
      have O4 := Lib.hid o4
      clear o4
      go_wp2_with fail
      go_ret
      refine ⟨v4, rfl, ?_, cv3, _, Nk, T3.out, HALL.out, came_filter cs Nk, K3.out⟩
      rw [HLO.out]
      exact O4.out.mono (by have := HSZ.out; omega)
end
end Go.Proofs.Ytonflknnlfffhaa
