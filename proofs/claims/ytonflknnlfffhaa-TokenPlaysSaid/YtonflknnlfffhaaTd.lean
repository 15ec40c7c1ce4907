/- token.Tree: Cut of a token. -/
import Derived.Test.YtonflknnlfffhaaTc
namespace Go.Proofs.Ytonflknnlfffhaa
open Go.RowKit Go.Lib KP MR RW
section
variable {B : Nat} {F : Nat → Prop} {g m : Nat} {N : Tab} {last : Int} {W : World} {id : Int}
set_option maxRecDepth 100000 in
set_option maxHeartbeats 8000000 in
theorem cut_node {nd ndp : Nd} {out pre post : List Int} (h : TM B F g m N last W) (hl : lk N id = some nd) (hlp : lk N nd.par = some ndp) (hpk : ndp.kids = pre ++ id :: post) (hq1 : id ∉ pre) (hq2 : id ∉ post) (hf : For N nd.kids out) (hn : (id :: out).Nodup) (hpo : nd.par ∉ id :: out) (h0 : id ≠ 0) (ho : out.length ≤ 900) :
    Calls Try.prog 14 #[.pointer (some ⟨g, 0, none⟩), .int .i64 id] W fun e w' => ∃ v v', e = .returned v ∧ OwnI w' W.heap.size v (rise (out ++ [id])) ∧ TM B F g m (setK (gone N (out ++ [id])) nd.par v' (pre ++ post)) last w' ∧ Keep F W w' := by
  obtain ⟨i0, hi, hz0, hz1, hz2⟩ := info_parts infoI
  have hz : (id != 0) = true := by simp [h0]
  have D1 : Hid (Below W.heap.size W (W.alloc (.cells #[.int .i64 id] 3)).drew) := Lib.hid ((Below.refl W.heap.size W).alloc (Nat.le_refl _) (.cells #[.int .i64 id] 3)).drew
  have T1 := Lib.hid (h.grow D1.out)
  have HS1 : Hid ((fun w' => w'.cell? ⟨g, 0, none⟩ = some (.map (some m)) ∧ w'.cell? ⟨W.heap.size, 0, none⟩ = some (.int .i64 id) ∧ (Instr.lookup 75 (.map (some m)) (.int .i64 id) true).run Try.prog w' = .ok (.tuple #[nd.val, .bool true]) w') (W.alloc (.cells #[.int .i64 id] 3)).drew) := Lib.hid ⟨block_cell (j := 0) T1.out.blk rfl, block_cell (j := 0) (heap_alloc_new W _) rfl, T1.out.look_yes hl⟩
  have HU := Lib.hid (under_c (out.length + 1) B F g m N last _ id nd out (by omega) T1.out hl hf hn (by omega))
  have HC1 : Hid ((W.alloc (.cells #[.int .i64 id] 3)).drew.cell? ⟨W.heap.size, 0, none⟩ = some (.int .i64 id)) := Lib.hid HS1.out.2.1
  have HNF : Hid (¬ F W.heap.size) := Lib.hid (fun hF => by have := (h.lt _ hF).2; omega)
  have HS : Hid (W.heap.size ≤ (W.alloc (.cells #[.int .i64 id] 3)).drew.heap.size) := Lib.hid D1.out.size
  have HLT : Hid (∀ k, F k → k < W.heap.size) := Lib.hid (fun k hF => (h.lt k hF).2)
  have HBW : Hid (B ≤ W.heap.size) := Lib.hid (by have := (h.lt g h.Fg); omega)
  have hni : id ∉ out := (List.nodup_cons.1 hn).1
  have HP7 : Hid (lk (setK (gone N out) id (.slice none 0 0) []) nd.par = some ndp) := Lib.hid ((lk_setK (fun e => hpo (by rw [e]; exact List.mem_cons_self))).trans ((lk_gone (fun e => hpo (List.mem_cons_of_mem _ e))).trans hlp))
  have HI7 : Hid (lk (setK (gone N out) id (.slice none 0 0) []) id = some { nd with kv := .slice none 0 0, kids := [] }) := Lib.hid (lk_setK_self ((lk_gone hni).trans hl))
  have HQ1 := Lib.hid hq1
  have HQ2 := Lib.hid hq2
  have HPK := Lib.hid hpk
  have HPPL : Hid ((pre ++ id :: post).length ≤ 1000) := Lib.hid (by rw [← hpk]; exact h.kf _ (lk_some hlp))
  have HN0 : Hid (id ≠ 0) := Lib.hid h0
  clear h hl hf hn hlp hpo hni hpk hq1 hq2 h0
  go_enter Try.func14, Try.ntmps14
  go_wp2_with fail
  refine wp_region_held_drew (S := (fun w' => w'.cell? ⟨g, 0, none⟩ = some (.map (some m)) ∧ w'.cell? ⟨W.heap.size, 0, none⟩ = some (.int .i64 id) ∧ (Instr.lookup 75 (.map (some m)) (.int .i64 id) true).run Try.prog w' = .ok (.tuple #[nd.val, .bool true]) w')) (by kernel_rfl) HS1.out (fun hHeld => ?_)
  refine wpAnyH_take (i := 0) (oi := ⟨_, _, _, _, _, _⟩) (v := ?_) rfl (by kernel_rfl) (by kernel_rfl) (by kernel_rfl) (fun _ _ _ h => h) (Or.inl ⟨by rfl, ?_⟩) (by assumption) ?_
  rotate_left
  · intro w' hSw; (try dsimp only at hSw); go_simp; (try with_reducible rfl)
  try simp only [Act.put, List.setIfInBounds_toArray, List.set_cons_zero, List.set_cons_succ]
  refine wpAnyH_take (i := 1) (oi := ⟨_, _, _, _, _, _⟩) (v := ?_) rfl (by kernel_rfl) (by kernel_rfl) (by kernel_rfl) (fun _ _ _ h => h) (Or.inl ⟨by rfl, ?_⟩) (by assumption) ?_
  rotate_left
  · intro w' hSw; (try dsimp only at hSw); go_simp; (try with_reducible rfl)
  try simp only [Act.put, List.setIfInBounds_toArray, List.set_cons_zero, List.set_cons_succ]
  refine wpAnyH_take (i := 2) (oi := ⟨_, _, _, _, _, _⟩) (v := ?_) rfl (by kernel_rfl) (by kernel_rfl) (by kernel_rfl) (fun _ _ _ h => h) (Or.inl ⟨by rfl, ?_⟩) (by assumption) ?_
  rotate_left
  · intro w' hSw; (try dsimp only at hSw); go_simp; (try with_reducible rfl)
  try simp only [Act.put, List.setIfInBounds_toArray, List.set_cons_zero, List.set_cons_succ]
  refine wpAnyH_take (i := 3) (oi := ⟨_, _, _, _, _, _⟩) (v := ?_) rfl (by kernel_rfl) (by kernel_rfl) (by kernel_rfl) (fun _ _ _ h => h) (Or.inl ⟨by rfl, ?_⟩) (by assumption) ?_
  rotate_left
  · intro w' hSw; (try dsimp only at hSw); go_simp; (try with_reducible rfl)
  try simp only [Act.put, List.setIfInBounds_toArray, List.set_cons_zero, List.set_cons_succ]
  refine wpAnyH_take (i := 4) (oi := ⟨_, _, _, _, _, _⟩) (v := ?_) rfl (by kernel_rfl) (by kernel_rfl) (by kernel_rfl) (fun _ _ _ h => h) (Or.inl ⟨by rfl, ?_⟩) (by assumption) ?_
  rotate_left
  · intro w' hSw; (try dsimp only at hSw); go_simp; (try with_reducible rfl)
  try simp only [Act.put, List.setIfInBounds_toArray, List.set_cons_zero, List.set_cons_succ]
  refine wpAnyH_take (i := 5) (oi := ⟨_, _, _, _, _, _⟩) (v := ?_) rfl (by kernel_rfl) (by kernel_rfl) (by kernel_rfl) (fun _ _ _ h => h) (Or.inl ⟨by rfl, ?_⟩) (by assumption) ?_
  rotate_left
  · intro w' hSw; (try dsimp only at hSw); go_simp; (try with_reducible rfl)
  try simp only [Act.put, List.setIfInBounds_toArray, List.set_cons_zero, List.set_cons_succ]
  refine wpAnyH_take (i := 6) (oi := ⟨_, _, _, _, _, _⟩) (v := ?_) rfl (by kernel_rfl) (by kernel_rfl) (by kernel_rfl) (fun _ _ _ h => h) (Or.inl ⟨by rfl, ?_⟩) (by assumption) ?_
  rotate_left
  · intro w' hSw; (try dsimp only at hSw); go_simp; (try with_reducible rfl)
  try simp only [Act.put, List.setIfInBounds_toArray, List.set_cons_zero, List.set_cons_succ]
  refine wpAnyH_take (i := 7) (oi := ⟨_, _, _, _, _, _⟩) (v := ?_) rfl (by kernel_rfl) (by kernel_rfl) (by kernel_rfl) (fun _ _ _ h => h) (Or.inl ⟨by rfl, ?_⟩) (by assumption) ?_
  rotate_left
  · intro w' hSw; (try dsimp only at hSw); go_simp; (try with_reducible rfl)
  try simp only [Act.put, List.setIfInBounds_toArray, List.set_cons_zero, List.set_cons_succ]
  refine wpAnyH_take (i := 8) (oi := ⟨_, _, _, _, _, _⟩) (v := ?_) rfl (by kernel_rfl) (by kernel_rfl) (by kernel_rfl) (fun _ _ _ h => h) (Or.inl ⟨by rfl, ?_⟩) (by assumption) ?_
  rotate_left
  · intro w' hSw; (try dsimp only at hSw); go_simp; (try with_reducible rfl)
  try simp only [Act.put, List.setIfInBounds_toArray, List.set_cons_zero, List.set_cons_succ]
  refine wpAnyH_take (i := 9) (oi := ⟨_, _, _, _, _, _⟩) (v := ?_) rfl (by kernel_rfl) (by kernel_rfl) (by kernel_rfl) (fun _ _ _ h => h) (Or.inl ⟨by rfl, ?_⟩) (by assumption) ?_
  rotate_left
  · intro w' hSw; (try dsimp only at hSw); go_simp; (try with_reducible rfl)
  try simp only [Act.put, List.setIfInBounds_toArray, List.set_cons_zero, List.set_cons_succ]
  refine wpAnyH_take (i := 10) (oi := ⟨_, _, _, _, _, _⟩) (v := ?_) rfl (by kernel_rfl) (by kernel_rfl) (by kernel_rfl) (fun _ _ _ h => h) (Or.inl ⟨by rfl, ?_⟩) (by assumption) ?_
  rotate_left
  · intro w' hSw; (try dsimp only at hSw); go_simp; (try with_reducible rfl)
  try simp only [Act.put, List.setIfInBounds_toArray, List.set_cons_zero, List.set_cons_succ]
  refine wpAnyH_done (by kernel_rfl) ?_ _
  go_wp2_with fail
  refine HU.out.mono ?_
  rintro e w7 ⟨v7, rfl, ho7, ht7, hk7⟩
  have hc7 := hk7.cell HC1.out HNF.out
  have O7 := Lib.hid (ho7.mono HS.out); have T7 := Lib.hid ht7
  have K7 : Hid (Keep F W w7) := Lib.hid ((Keep.of_below D1.out F).trans hk7 (fun q hq => .inl hq))
  have TD7 := Lib.hid (ht7.grow (W' := w7.drew) ((Below.refl _ w7).drew))
  have HS6 : Hid ((fun w' => w'.cell? ⟨g, 0, none⟩ = some (.map (some m)) ∧ w'.cell? ⟨nd.b, 0, none⟩ = some (.int .i64 nd.par) ∧ (Instr.lookup 75 (.map (some m)) (.int .i64 nd.par) false).run Try.prog w' = .ok (ndp.val) w') w7.drew) := Lib.hid ⟨block_cell (j := 0) TD7.out.blk rfl, block_cell (j := 0) (TD7.out.node _ (lk_some HI7.out)) rfl, TD7.out.look_v HP7.out⟩
  clear ho7 ht7 hk7 HU HC1 HS1
  go_wp2_with fail
  refine wp_region_held_drew (S := (fun w' => w'.cell? ⟨g, 0, none⟩ = some (.map (some m)) ∧ w'.cell? ⟨nd.b, 0, none⟩ = some (.int .i64 nd.par) ∧ (Instr.lookup 75 (.map (some m)) (.int .i64 nd.par) false).run Try.prog w' = .ok (ndp.val) w')) (by kernel_rfl) HS6.out (fun hHeld => ?_)
  refine wpAnyH_take (i := 0) (oi := ⟨_, _, _, _, _, _⟩) (v := ?_) rfl (by kernel_rfl) (by kernel_rfl) (by kernel_rfl) (fun _ _ _ h => h) (Or.inl ⟨by rfl, ?_⟩) (by assumption) ?_
  rotate_left
  · intro w' hSw; (try dsimp only at hSw); go_simp; (try with_reducible rfl)
  try simp only [Act.put, List.setIfInBounds_toArray, List.set_cons_zero, List.set_cons_succ]
  refine wpAnyH_take (i := 1) (oi := ⟨_, _, _, _, _, _⟩) (v := ?_) rfl (by kernel_rfl) (by kernel_rfl) (by kernel_rfl) (fun _ _ _ h => h) (Or.inl ⟨by rfl, ?_⟩) (by assumption) ?_
  rotate_left
  · intro w' hSw; (try dsimp only at hSw); go_simp; (try with_reducible rfl)
  try simp only [Act.put, List.setIfInBounds_toArray, List.set_cons_zero, List.set_cons_succ]
  refine wpAnyH_take (i := 2) (oi := ⟨_, _, _, _, _, _⟩) (v := ?_) rfl (by kernel_rfl) (by kernel_rfl) (by kernel_rfl) (fun _ _ _ h => h) (Or.inl ⟨by rfl, ?_⟩) (by assumption) ?_
  rotate_left
  · intro w' hSw; (try dsimp only at hSw); go_simp; (try with_reducible rfl)
  try simp only [Act.put, List.setIfInBounds_toArray, List.set_cons_zero, List.set_cons_succ]
  refine wpAnyH_take (i := 3) (oi := ⟨_, _, _, _, _, _⟩) (v := ?_) rfl (by kernel_rfl) (by kernel_rfl) (by kernel_rfl) (fun _ _ _ h => h) (Or.inl ⟨by rfl, ?_⟩) (by assumption) ?_
  rotate_left
  · intro w' hSw; (try dsimp only at hSw); go_simp; (try with_reducible rfl)
  try simp only [Act.put, List.setIfInBounds_toArray, List.set_cons_zero, List.set_cons_succ]
  refine wpAnyH_take (i := 4) (oi := ⟨_, _, _, _, _, _⟩) (v := ?_) rfl (by kernel_rfl) (by kernel_rfl) (by kernel_rfl) (fun _ _ _ h => h) (Or.inl ⟨by rfl, ?_⟩) (by assumption) ?_
  rotate_left
  · intro w' hSw; (try dsimp only at hSw); go_simp; (try with_reducible rfl)
  try simp only [Act.put, List.setIfInBounds_toArray, List.set_cons_zero, List.set_cons_succ]
  refine wpAnyH_take (i := 5) (oi := ⟨_, _, _, _, _, _⟩) (v := ?_) rfl (by kernel_rfl) (by kernel_rfl) (by kernel_rfl) (fun _ _ _ h => h) (Or.inl ⟨by rfl, ?_⟩) (by assumption) ?_
  rotate_left
  · intro w' hSw; (try dsimp only at hSw); go_simp; (try with_reducible rfl)
  try simp only [Act.put, List.setIfInBounds_toArray, List.set_cons_zero, List.set_cons_succ]
  refine wpAnyH_take (i := 6) (oi := ⟨_, _, _, _, _, _⟩) (v := ?_) rfl (by kernel_rfl) (by kernel_rfl) (by kernel_rfl) (fun _ _ _ h => h) (Or.inl ⟨by rfl, ?_⟩) (by assumption) ?_
  rotate_left
  · intro w' hSw; (try dsimp only at hSw); go_simp; (try with_reducible rfl)
  try simp only [Act.put, List.setIfInBounds_toArray, List.set_cons_zero, List.set_cons_succ]
  refine wpAnyH_take (i := 7) (oi := ⟨_, _, _, _, _, _⟩) (v := ?_) rfl (by kernel_rfl) (by kernel_rfl) (by kernel_rfl) (fun _ _ _ h => h) (Or.inl ⟨by rfl, ?_⟩) (by assumption) ?_
  rotate_left
  · intro w' hSw; (try dsimp only at hSw); go_simp; (try with_reducible rfl)
  try simp only [Act.put, List.setIfInBounds_toArray, List.set_cons_zero, List.set_cons_succ]
  refine wpAnyH_take (i := 8) (oi := ⟨_, _, _, _, _, _⟩) (v := ?_) rfl (by kernel_rfl) (by kernel_rfl) (by kernel_rfl) (fun _ _ _ h => h) (Or.inl ⟨by rfl, ?_⟩) (by assumption) ?_
  rotate_left
  · intro w' hSw; (try dsimp only at hSw); go_simp; (try with_reducible rfl)
  try simp only [Act.put, List.setIfInBounds_toArray, List.set_cons_zero, List.set_cons_succ]
  refine wpAnyH_take (i := 9) (oi := ⟨_, _, _, _, _, _⟩) (v := ?_) rfl (by kernel_rfl) (by kernel_rfl) (by kernel_rfl) (fun _ _ _ h => h) (Or.inl ⟨by rfl, ?_⟩) (by assumption) ?_
  rotate_left
  · intro w' hSw; (try dsimp only at hSw); go_simp; (try with_reducible rfl)
  try simp only [Act.put, List.setIfInBounds_toArray, List.set_cons_zero, List.set_cons_succ]
  refine wpAnyH_done (by kernel_rfl) ?_ _
  have hpm := lk_some HP7.out
  have op := TD7.out.own _ hpm
  have np := TD7.out.node _ hpm
  have fb := TD7.out.Fb _ hpm
  have fk := TD7.out.Fk _ hpm
  have hvb := TD7.out.vb hpm hpm
  dsimp only at op np fb fk hvb
  have OPP := Lib.hid op
  rcases op.2 with ⟨_, e0⟩ | ⟨gp, cap, cur, ekv, -, -, -, -, -, -⟩
  · rw [HPK.out] at e0; simp at e0
  rw [ekv] at fk np hvb OPP
  rw [HPK.out] at OPP np
  obtain ⟨n, hn⟩ : ∃ n : Nat, Hid (n = (pre ++ id :: post).length) := ⟨_, Lib.hid rfl⟩
  obtain ⟨n2, hn2⟩ : ∃ n : Nat, Hid (n = (pre ++ post).length) := ⟨_, Lib.hid rfl⟩
  have EKV := Lib.hid ekv
  have FB := Lib.hid fb
  have FGP : Hid (F gp) := Lib.hid (fk gp rfl)
  have hgpb : gp ≠ ndp.b := fun e => hvb (by rw [e]; rfl)
  have hc2 := block_cell (j := 2) np rfl
  have hbgp : W.heap.size ≠ gp := fun e => HNF.out (e ▸ FGP.out)
  have hcd : w7.drew.cell? ⟨W.heap.size, 0, none⟩ = some (.int .i64 id) := hc7
  have HD := Lib.hid (del_c B gp cap W.heap.size id pre post w7.drew OPP.out HQ1.out HQ2.out (by have := HPPL.out; omega) hcd hbgp)
  have HCD := Lib.hid hcd
  rw [← hn.out] at HD np hc2
  rw [← hn2.out] at HD
  have NP := Lib.hid np
  clear op np fb fk hvb ekv hpm hcd HS6 hc7
  go_wp2_with fail
  refine HD.out.mono ?_
  rintro e w8 ⟨rfl, ho8, hk8⟩
  have n8 := (hk8.block ndp.b (TD7.out.lt _ FB.out).2 (fun e => hgpb e.symm)).trans NP.out
  have hc8 := block_cell (j := 2) n8 rfl
  have hf8 := block_free (j := 2) n8
  have hvpo : ∀ k, (Value.slice (some ⟨gp, 0, none⟩) n2 cap).ownBlock = some k → k = gp := fun k hk => by injection hk with hk; exact hk.symm
  have OW8 : OwnI (w8.setCell ⟨ndp.b, 2, none⟩ (.slice (some ⟨gp, 0, none⟩) n2 cap)) B (.slice (some ⟨gp, 0, none⟩) n2 cap) (pre ++ post) := ho8.keep ((Keep.refl (fun k => k = ndp.b) w8).setCell (.inl rfl) _) (fun q hq e => hgpb ((hvpo q hq).symm.trans e))
  have KP8 : Keep (fun k => k = ndp.b ∨ ndp.kv.ownBlock = some k) w7.drew (w8.setCell ⟨ndp.b, 2, none⟩ (.slice (some ⟨gp, 0, none⟩) n2 cap)) := (hk8.mono (fun k e => .inr (by rw [EKV.out, e]; rfl))).setCell (.inl (.inl rfl)) _
  have T8 := Lib.hid (TD7.out.setK (v := (.slice (some ⟨gp, 0, none⟩) n2 cap)) (ks := pre ++ post) HP7.out KP8 (by have := block_set n8 (j := 2) (.slice (some ⟨gp, 0, none⟩) n2 cap); simpa using this) OW8 (fun k hk => .inl (by rw [EKV.out, hvpo k hk]; rfl)) (fun k hF => hF) (fun k hk => by rw [hvpo k hk]; exact FGP.out) (fun k hF => .inl hF) (by have := HPPL.out; simp at this ⊢; omega) (by have := K7.out.size; have := HBW.out; show B ≤ w7.heap.size; omega))
  have K8 : Hid (Keep F W (w8.setCell ⟨ndp.b, 2, none⟩ (.slice (some ⟨gp, 0, none⟩) n2 cap))) := Lib.hid (((K7.out.drew).trans hk8 (fun q hq => .inl (by rw [hq]; exact FGP.out))).setCell (.inl FB.out) _)
  have KK8 : Hid (Keep F w7 (w8.setCell ⟨ndp.b, 2, none⟩ (.slice (some ⟨gp, 0, none⟩) n2 cap))) := Lib.hid ((((Keep.refl F w7).drew).trans hk8 (fun q hq => .inl (by rw [hq]; exact FGP.out))).setCell (.inl FB.out) _)
  have C8 : Hid ((w8.setCell ⟨ndp.b, 2, none⟩ (.slice (some ⟨gp, 0, none⟩) n2 cap)).cell? ⟨W.heap.size, 0, none⟩ = some (.int .i64 id)) := Lib.hid (KK8.out.cell HCD.out HNF.out)
  have TD8 := Lib.hid (T8.out.grow (W' := (w8.setCell ⟨ndp.b, 2, none⟩ (.slice (some ⟨gp, 0, none⟩) n2 cap)).drew) ((Below.refl _ _).drew))
  have HS8 : Hid ((fun w' => w'.cell? ⟨g, 0, none⟩ = some (.map (some m)) ∧ w'.cell? ⟨W.heap.size, 0, none⟩ = some (.int .i64 id)) (w8.setCell ⟨ndp.b, 2, none⟩ (.slice (some ⟨gp, 0, none⟩) n2 cap)).drew) := Lib.hid ⟨block_cell (j := 0) TD8.out.blk rfl, C8.out⟩
  obtain ⟨w9, hr9, ht9, hk9⟩ := TD8.out.delete id 0 3
  rw [del_setK_other, del_setK, gone_one] at ht9
  have HR9 := Lib.hid hr9
  have T9 := Lib.hid ht9
  have K9 : Hid (Keep F W w9) := Lib.hid ((K8.out.drew).trans hk9 (fun q hq => .inl hq))
  have C9 : w9.cell? ⟨W.heap.size, 0, none⟩ = some (.int .i64 id) := hk9.cell C8.out HNF.out
  have HS9 : Hid ((fun w' => w'.cell? ⟨g, 0, none⟩ = some (.map (some m)) ∧ w'.cell? ⟨W.heap.size, 0, none⟩ = some (.int .i64 id)) w9) := Lib.hid ⟨block_cell (j := 0) T9.out.blk rfl, C9⟩
  have AP7 : Hid (∀ q, v7.ownBlock = some q → ¬ F q) := Lib.hid (fun q hq hF => by
    have h1 := (O7.out.lt hq).1
    have h2 := HLT.out q hF
    omega)
  have O9 := Lib.hid (O7.out.keep ((KK8.out.drew).trans hk9 (fun q hq => .inl hq)) AP7.out)
  have D9 := Lib.hid ((Below.refl w9.heap.size w9).alloc (Nat.le_refl _) (.cells #[.int .i64 id] 3))
  have O10 := Lib.hid (O9.out.below D9.out)
  have N10 := Lib.hid (append_new (W := w9) (x := id))
  have S10 : Hid (W.heap.size ≤ (w9.alloc (.cells #[.int .i64 id] 3)).heap.size) := Lib.hid (Nat.le_trans K9.out.size D9.out.size)
  clear ho8 hk8 n8 OW8 KP8 hr9 ht9 hk9 OPP TD7 T8 HCD NP HD
  go_wp2_with fail
  refine wp_region_held_drew (S := (fun w' => w'.cell? ⟨g, 0, none⟩ = some (.map (some m)) ∧ w'.cell? ⟨W.heap.size, 0, none⟩ = some (.int .i64 id))) (by kernel_rfl) HS8.out (fun hHeld => ?_)
  refine wpAnyH_take (i := 0) (oi := ⟨_, _, _, _, _, _⟩) (v := ?_) rfl (by kernel_rfl) (by kernel_rfl) (by kernel_rfl) (fun _ _ _ h => h) (Or.inl ⟨by rfl, ?_⟩) (by assumption) ?_
  rotate_left
  · intro w' hSw; (try dsimp only at hSw); go_simp; (try with_reducible rfl)
  try simp only [Act.put, List.setIfInBounds_toArray, List.set_cons_zero, List.set_cons_succ]
  refine wpAnyH_take (i := 1) (oi := ⟨_, _, _, _, _, _⟩) (v := ?_) rfl (by kernel_rfl) (by kernel_rfl) (by kernel_rfl) (fun _ _ _ h => h) (Or.inl ⟨by rfl, ?_⟩) (by assumption) ?_
  rotate_left
  · intro w' hSw; (try dsimp only at hSw); go_simp; (try with_reducible rfl)
  try simp only [Act.put, List.setIfInBounds_toArray, List.set_cons_zero, List.set_cons_succ]
  refine wpAnyH_take (i := 2) (oi := ⟨_, _, _, _, _, _⟩) (v := ?_) rfl (by kernel_rfl) (by kernel_rfl) (by kernel_rfl) (fun _ _ _ h => h) (Or.inl ⟨by rfl, ?_⟩) (by assumption) ?_
  rotate_left
  · intro w' hSw; (try dsimp only at hSw); go_simp; (try with_reducible rfl)
  try simp only [Act.put, List.setIfInBounds_toArray, List.set_cons_zero, List.set_cons_succ]
  refine wpAnyH_take (i := 3) (oi := ⟨_, _, _, _, _, _⟩) (v := ?_) rfl (by kernel_rfl) (by kernel_rfl) (by kernel_rfl) (fun _ _ _ h => h) (Or.inl ⟨by rfl, ?_⟩) (by assumption) ?_
  rotate_left
  · intro w' hSw; (try dsimp only at hSw); go_simp; (try with_reducible rfl)
  try simp only [Act.put, List.setIfInBounds_toArray, List.set_cons_zero, List.set_cons_succ]
  refine wpAnyH_take (i := 4) (oi := ⟨_, _, _, _, _, _⟩) (v := ?_) rfl (by kernel_rfl) (by kernel_rfl) (by kernel_rfl) (fun _ _ _ h => h) (Or.inl ⟨by rfl, ?_⟩) (by assumption) ?_
  rotate_left
  · intro w' hSw; (try dsimp only at hSw); go_simp; (try with_reducible rfl)
  try simp only [Act.put, List.setIfInBounds_toArray, List.set_cons_zero, List.set_cons_succ]
  refine wpAnyH_ready (rs := [5]) (by kernel_rfl) (by simp) ?_
  refine AllReadyH.cons (o := ⟨_, _, _, _, _, _⟩) rfl (fun K9 hK9 => ?_) AllReadyH.nil
  refine step_delete rfl (.tmp 46) (.tmp 47) rfl rfl rfl HR9.out ?_
  refine hK9.out _ _ HS9.out (fun hHeld => ?_)
  clear hK9 K9
  simp only [Act.put]
  refine wpAnyH_done (by kernel_rfl) ?_ _
  go_wp2_with (at_builtin; (refine wpList_append_ownW (f := intc) intc_len intc_flat (by decide) rfl (.tmp 48) (.tmp 50) 35 rfl W.heap.size 3 i0 zI 8 Try.underlying35 hi hz0 hz1 hz2 rfl v7 out.length out rfl O10.out (some ⟨w9.heap.size, 0, none⟩) 1 [id] (fun h => by cases h) N10.out rfl (by unfold maxLen; simp; omega) (by simp; omega) S10.out ?_))
  intro v11 w11 ho11 hg11 hv11
  have O11 := Lib.hid (show OwnI w11 W.heap.size v11 (out ++ [id]) by unfold OwnI; rw [List.length_append, List.flatMap_append, List.flatMap_singleton]; exact ho11)
  have KG := Lib.hid (((Keep.of_below D9.out (fun k => v7.ownBlock = some k)).grown hg11 (fun q hq => .inl hq)))
  have T11 := Lib.hid (T9.out.keep KG.out (fun k hF hq => AP7.out k hq hF))
  have K11 := Lib.hid (K9.out.trans KG.out (fun q hq => .inr (O7.out.lt hq).1))
  clear ho11 hg11 hv11 KG O10 N10 O9 D9
  go_wp2_with fail
  refine (sort_c O11.out (by simp; omega)).mono ?_
  rintro e w12 ⟨rfl, ho12, hk12⟩
  have O12 := Lib.hid ho12
  have AP11 : ∀ q, F q → ¬ v11.ownBlock = some q := fun q hF hq => by
    have h1 := (O11.out.lt hq).1
    have h2 := HLT.out q hF
    omega
  have T12 := Lib.hid (T11.out.keep hk12 AP11)
  have K12 := Lib.hid (K11.out.trans hk12 (fun q hq => .inr (O11.out.lt hq).1))
  clear ho12 hk12 AP11
  go_wp2_with fail
  refine (clip_c O12.out).mono ?_
  rintro e w13 ⟨v13, rfl, ho13, hv13, rfl⟩
  go_wp2_with fail
  go_ret
  exact ⟨v13, (.slice (some ⟨gp, 0, none⟩) n2 cap), rfl, ho13, T12.out, K12.out⟩
end
end Go.Proofs.Ytonflknnlfffhaa
