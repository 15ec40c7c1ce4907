/- The table of names: a new name; a number's name. -/
import Derived.Test.YtlbmahlgbfakeaaRRGc
import Derived.StillTailTactics
import Derived.Maps.AppendAt
namespace Go.Proofs.YtlbmahlgbfakeaaRR
open Go.RowKit MR KP

theorem pairsFrom_append (l : List ByteArray) (s : ByteArray) : ∀ k, pairsFrom k (l ++ [s]) = pairsFrom k l ++ [(s, ((k + l.length : Nat) : Int) + 1)] := by
  induction l with
  | nil => intro k; simp [pairsFrom]
  | cons x l ih => intro k; simp [pairsFrom, ih]; omega
theorem pairs_snoc (l : List ByteArray) (s : ByteArray) : pairs (l ++ [s]) = pairs l ++ [(s, (l.length : Int) + 1)] := by
  unfold pairs; rw [pairsFrom_append]; simp
theorem good_c (s : ByteArray) (w : World) : Calls Try.prog 10 #[.string s] w fun e w' => e = .returned (.bool (goodB s)) ∧ w = w' := (good_any s w).mono fun _ _ h => ⟨h.1, h.2.symm⟩
theorem info9 : (Try.prog.info? 9).map (fun i => (i.zero, i.size, i.bytes)) = some (some (.string ⟨#[]⟩), 1, 16) := by kernel_rfl

set_option maxRecDepth 100000 in
set_option maxHeartbeats 800000 in
theorem intern_new (F : Nat → Prop) (B g : Nat) (l : List ByteArray) (s : ByteArray) (w : World) (h : IsTable w F B g l) (hF : ∀ k, F k → k < w.heap.size) (hB : B ≤ w.heap.size) (hg : goodB s = true) (hl : lk (pairs l) s = none) (hf : l.length < 4096) :
    Calls Try.prog 8 #[.pointer (some ⟨g, 0, none⟩), .string s] w fun e w' => e = .returned (.tuple #[.int .i64 (l.length + 1 : Nat), .int .i64 0]) ∧ ∃ F', IsTable w' F' B g (l ++ [s]) ∧ (∀ k, F' k → k < w'.heap.size) ∧ (∀ k, F' k → F k ∨ w.heap.size ≤ k) ∧ Keep F w w' := by
  obtain ⟨m, v, hFg, hFm, hFv, hb, hm, ho⟩ := h.ex
  have c0 := block_cell (j := 0) hb rfl
  have c1 := block_cell (j := 1) hb rfl
  have hrun := hm.lookup inj_str (fun k => key_str k) Try.underlying38 Try.underlying9 (zero3 w) s true
  rw [hl] at hrun
  obtain ⟨A, c, rfl⟩ := table_slice ho
  obtain ⟨i0, hi, hz0, hz1, hz2⟩ := info_parts info9
  have HM := Lib.hid hm; clear hm
  have HO := Lib.hid ho; clear ho
  have HB := Lib.hid hb; clear hb
  have HL := Lib.hid hl; clear hl
  clear h
  go_enter Try.func8, Try.ntmps8
  go_wp2_with (first | (go_at_call 10; refine (good_c _ _).mono ?_; rintro e w' ⟨rfl, rfl⟩) | (at_builtin; refine wpList_append_own_at _ rfl (.tmp 32) (.tmp 34) 22 rfl B 9 i0 (.string ⟨#[]⟩) 1 16 Try.underlying22 hi hz0 hz1 hz2 rfl (by decide) _ l.length _ rfl (HO.out.alloc _) ⟨w.heap.size, 0, none⟩ 1 1 [.string s] rfl rfl ?c1 ?c2 ?c3 ?c4 ?c5 ?_))
  case c1 => intro j u hj; match j, hj with | 0, hj => simp at hj; subst hj; simp [Addr.add]
  case c2 => intro u hu; simp at hu; subst hu; rfl
  case c3 => unfold maxLen; omega
  case c4 => omega
  case c5 => simp; omega
  intro v' w1 hown hgr hnil hloc
  obtain ⟨g1, cap1, rfl⟩ : ∃ g1 cap1, v' = .slice (some ⟨g1, 0, none⟩) (l.length + 1) cap1 := by
    rcases hown.2 with ⟨h1, _⟩ | ⟨g1, cap1, _, h1, _⟩
    · exact absurd h1 hnil
    · exact ⟨g1, cap1, h1⟩
  clear hnil
  -- what has become of the old blocks
  have hk : Keep (fun k => (Value.slice A l.length c).ownBlock = some k) w w1 := ((Keep.refl _ w).alloc _).grown hgr (fun k hk => .inl hk)
  have hgv : ∀ k, (Value.slice A l.length c).ownBlock = some k → k ≠ g ∧ k ≠ m := by
    intro k hk
    rcases HO.out.2 with ⟨h1, _⟩ | ⟨g0, cap0, cur0, h1, _, h2, _⟩
    · rw [h1] at hk; simp [Value.ownBlock] at hk
    · rw [h1] at hk
      have : g0 = k := by simpa [Value.ownBlock] using hk
      subst this
      refine ⟨fun e => ?_, fun e => ?_⟩
      · subst e; rw [HB.out] at h2; simp at h2
      · subst e; obtain ⟨es, ck, hh, _⟩ := HM.out; rw [hh] at h2; simp at h2
  have hlt : g < w.heap.size := (Array.getElem?_eq_some_iff.1 HB.out).1
  have hb1 : w1.heap[g]? = some (.cells #[.map (some m), .slice A l.length c] 40 (0, 0)) := (hk.block g hlt (fun e => (hgv g e).1 rfl)).trans HB.out
  have hm1 : IsMap w1 m Value.string eV (pairs l) := HM.out.move (hk.block m HM.out.lt (fun e => (hgv m e).2 rfl))
  have d0 := block_cell (j := 0) hb1 rfl
  have d1 := block_cell (j := 1) hb1 rfl
  have f1 := block_free (j := 1) hb1
  have hg1 : g1 ≠ g := by
    intro e; subst e
    rcases hown.2 with ⟨h1, _⟩ | ⟨g2, cap2, cur2, h1, _, h2, _⟩
    · simp at h1
    · injection h1 with h1; injection h1 with h1; injection h1 with h1
      subst h1; rw [hb1] at h2; simp at h2
  have hg2 : g1 ≠ m := by
    intro e; subst e
    rcases hown.2 with ⟨h1, _⟩ | ⟨g2, cap2, cur2, h1, _, h2, _⟩
    · simp at h1
    · injection h1 with h1; injection h1 with h1; injection h1 with h1
      subst h1; obtain ⟨es, ck, hh, _⟩ := hm1; rw [hh] at h2; simp at h2
  have hmg : m ≠ g := by
    intro e; subst e; obtain ⟨es, ck, hh, _⟩ := hm1; rw [hh] at hb1; simp at hb1
  have hs1 : (w1.setCell ⟨g, 1, none⟩ (.slice (some ⟨g1, 0, none⟩) (l.length + 1) cap1)).heap[g]? = some (.cells #[.map (some m), .slice (some ⟨g1, 0, none⟩) (l.length + 1) cap1] 40 (0, 0)) := block_set hb1 _
  have hm2 : IsMap (w1.setCell ⟨g, 1, none⟩ (.slice (some ⟨g1, 0, none⟩) (l.length + 1) cap1)) m Value.string eV (pairs l) := hm1.move (Below.heap_setCell _ _ _ _ hmg)
  have ho2 := ownsRow_keep (F := fun k => k = g) hown (Keep.setCell (F := fun k => k = g) (Keep.refl _ w1) (p := ⟨g, 1, none⟩) (.inl rfl) (.slice (some ⟨g1, 0, none⟩) (l.length + 1) cap1)) (by intro k hk'; simp [Value.ownBlock] at hk'; omega)
  have hk2 : Keep F w (w1.setCell ⟨g, 1, none⟩ (.slice (some ⟨g1, 0, none⟩) (l.length + 1) cap1)) := (hk.mono (fun k hk' => hFv k hk')).setCell (.inl hFg) _
  have hg1lt : F g1 ∨ w.heap.size ≤ g1 := by
    rcases hloc with hloc | hloc
    · exact .inl (hFv g1 (hloc.symm.trans rfl))
    · simp [Value.ownBlock] at hloc; subst hloc
      right; omega
  have hg1s : g1 < w1.heap.size := by
    have := (hown.lt g1 rfl).2; exact this
  have HB1 := Lib.hid hb1; clear hb1
  have HS1 := Lib.hid hs1; clear hs1
  have HM2 := Lib.hid hm2; clear hm2
  have HO2 := Lib.hid ho2; clear ho2
  have HK2 := Lib.hid hk2; clear hk2
  have HK := Lib.hid hk; clear hk
  clear hm1 hown hgr hgv hloc
  go_wp2
  have hz2 : g1 < (w1.setCell ⟨g, 1, none⟩ (.slice (some ⟨g1, 0, none⟩) (l.length + 1) cap1)).heap.size := by simp [World.setCell]; exact hg1s
  generalize hw2 : w1.setCell ⟨g, 1, none⟩ (.slice (some ⟨g1, 0, none⟩) (l.length + 1) cap1) = w2 at *
  clear hw2
  have e0 : w2.cell? ⟨g, 0, none⟩ = some (.map (some m)) := block_cell (j := 0) HS1.out rfl
  have e1 : w2.cell? ⟨g, 1, none⟩ = some (.slice (some ⟨g1, 0, none⟩) (l.length + 1) cap1) := block_cell (j := 1) HS1.out rfl
  clear d0 d1 f1
  go_still_tail 10, (by kernel_rfl)
  change wpList _ _ _ _ _ w2.drew
  refine wp_update rfl (.tmp 41) (.tmp 42) (.tmp 47) 38 rfl inj_str (fun k => key_str k) Try.underlying38 Try.underlying9 (IsMap.move (w1 := w2.drew) HM2.out rfl) s ((l.length : Int) + 1) rfl rfl rfl ?_
  intro w3 hm3 hg3 hs3
  have hgm : g ≠ m := fun e => hmg e.symm
  have h2s : g < w2.heap.size := (Array.getElem?_eq_some_iff.1 HS1.out).1
  have hs4 : w3.heap[g]? = some (.cells #[.map (some m), .slice (some ⟨g1, 0, none⟩) (l.length + 1) cap1] 40 (0, 0)) := (hg3.block g h2s (fun e => hgm (Option.some.inj e))).trans HS1.out
  have j1 : w3.cell? ⟨g, 1, none⟩ = some (.slice (some ⟨g1, 0, none⟩) (l.length + 1) cap1) := block_cell (j := 1) hs4 rfl
  have hk3 : Keep F w w3 := HK2.out.drew.grown hg3 (fun k e => by cases e; exact .inl hFm)
  have ho3 := ownsRow_keep (F := fun k => k = m) HO2.out (((Keep.refl (fun k => k = m) w2).drew).grown hg3 (fun k e => by cases e; exact .inl rfl)) (by intro k hk'; simp [Value.ownBlock] at hk'; omega)
  have HS4 := Lib.hid hs4; clear hs4
  have HM3 := Lib.hid hm3; clear hm3
  have HK3 := Lib.hid hk3; clear hk3
  have HO3 := Lib.hid ho3; clear ho3
  have hz3 : g1 < w3.heap.size := by rw [hs3]; exact hz2
  clear hg3 hs3 e0 e1
  go_wp2
  go_ret2
  refine ⟨rfl, fun k => F k ∨ k = g1, ⟨m, _, .inl hFg, .inl hFm, ?_, HS4.out, ?_, ?_⟩, ?_, ?_, HK3.out⟩
  · intro k hk'; simp [Value.ownBlock] at hk'; exact .inr hk'.symm
  · rw [pairs_snoc, ← put_none HL.out]; exact HM3.out
  · simpa using HO3.out
  · rintro k (hk' | rfl)
    · exact Nat.lt_of_lt_of_le (hF k hk') HK3.out.size
    · exact hz3
  · rintro k (hk' | rfl)
    · exact .inl hk'
    · exact hg1lt
end Go.Proofs.YtlbmahlgbfakeaaRR
