/- token.Tree: Path. -/
import Derived.Test.YtonflknnlfffhaaTb
namespace Go.Proofs.Ytonflknnlfffhaa
open Go.RowKit Go.Lib KP MR RW
theorem Up.pos {T : List Tk} (h : WF T) {id : Int} {l : List Int} (hu : Up T id l) : 0 ≤ id := by
  cases hu with
  | root => exact Int.le_refl _
  | node t l ht _ => have := h.pos t ht; omega
theorem Up.isNil {T : List Tk} (h : WF T) {l : List Int} (hu : Up T 0 l) : l = [] := hu.uniq h .root
section
variable {B : Nat} {w0 W W' : World} {F : Nat → Prop} {g : Nat} {T : List Tk} {nx : Int}
set_option maxRecDepth 100000 in
set_option maxHeartbeats 4000000 in
theorem path_no (h : TreeT B w0 F g T nx W) (p : Int) (h0 : p ≠ 0) (hn : ∀ t ∈ T, t.1 ≠ p) : Calls Try.prog 16 #[.pointer (some ⟨g, 0, none⟩), .int .i64 p] W fun e w' => e = .returned (.tuple #[.slice none 0 0, .bool false]) ∧ W = w' := by
  obtain ⟨m, N, h1, h2, _⟩ := h
  have hc0 := block_cell (j := 0) h1.blk rfl
  have hlk := h1.look_no (h2.none h0 hn)
  clear h1 h2 hn h0
  go_enter Try.func16, Try.ntmps16
  go_wp2_with fail
  go_ret2
  exact ⟨rfl, rfl⟩
set_option maxRecDepth 100000 in
set_option maxHeartbeats 4000000 in
theorem path_yes (h : TreeT B w0 F g T nx W) (p : Int) (hp : p = 0 ∨ ∃ t ∈ T, t.1 = p) {l : List Int} (hu : Up T p l) (hl : l.length ≤ 1000000) : Calls Try.prog 16 #[.pointer (some ⟨g, 0, none⟩), .int .i64 p] W fun e w' => ∃ v, e = .returned (.tuple #[v, .bool true]) ∧ OwnI w' W.heap.size v l.reverse ∧ Below W.heap.size W w' := by
  obtain ⟨i0, hi, hz0, hz1, hz2⟩ := info_parts infoI
  obtain ⟨m, N, h1, h2, _⟩ := h
  obtain ⟨nd, e1, e2⟩ := h2.at hp
  have hc0 := block_cell (j := 0) h1.blk rfl
  have hlk := h1.look_yes e1
  have H1 := Lib.hid h1
  have H2 := Lib.hid h2
  have HU := Lib.hid (show ∃ done rest, l = done ++ rest ∧ Up T p rest ∧ OwnI W W.heap.size (.slice none 0 0) done ∧ Below W.heap.size W W from ⟨[], l, rfl, hu, OwnW.nil _ _ _ _, Below.refl _ _⟩)
  clear h1 h2 hp e1 e2 hu
  go_enter Try.func16, Try.ntmps16
  go_wp2_with fail
  go_loopw [1, 8] (fun i v wr => ∃ (cur : Int) (vo : Value), i = .int .i64 cur ∧ vo = v ∧ Hid (∃ done rest, l = done ++ rest ∧ Up T cur rest ∧ OwnI wr W.heap.size vo done ∧ Below W.heap.size W wr)) (fun i _ _ => (RowKit.intOf i).toNat)
  case atStart => exact ⟨p, _, rfl, rfl, HU⟩
  case round =>
    obtain ⟨cur, vo, rfl, rfl, HP⟩ := hrel
    clear hc0 hlk HU
    obtain ⟨done, rest, he, hup, hown, hb⟩ := HP.out
    clear HP
    have hpos := hup.pos H2.out.wf
    by_cases hz : cur = 0
    · subst hz
      have hrn := hup.isNil H2.out.wf
      subst hrn
      rw [List.append_nil] at he
      subst he
      have hzb : ((0 : Int) != 0) = false := rfl
      have HO := Lib.hid hown
      have HB := Lib.hid hb
      clear hown hb hup
      go_wp2_with fail
      refine (rev_c HO.out (by omega)).mono ?_
      rintro e w3 ⟨rfl, ho3, hk3⟩
      have O3 := Lib.hid ho3
      have B3 := Lib.hid (((Keep.of_below HB.out (fun _ => False)).trans hk3 (fun q hq => .inr (HO.out.lt hq).1)).below (Nat.le_refl _) (fun _ h => h.elim))
      clear ho3 hk3
      go_wp2_with fail
      refine (clip_c O3.out).mono ?_
      rintro e w4 ⟨v4, rfl, ho4, hv4, rfl⟩
      go_wp2_with fail
      go_ret2
      exact ⟨v4, rfl, ho4, B3.out⟩
    · have hzb : (cur != 0) = true := by simp [hz]
      obtain ⟨t, ht, et, rest', er, hup'⟩ := hup.step hz
      subst er
      obtain ⟨nd1, n1, n2, n3, n4⟩ := H2.out.node t ht
      rw [et] at n1
      have TW := H1.out.grow hb
      have hc0 := block_cell (j := 0) TW.blk rfl
      have hlk := TW.look_v n1
      have hc1 := block_cell (j := 1) (TW.node _ (lk_some n1)) rfl
      dsimp only at hc1
      have hlt : t.2.1.toNat < cur.toNat := by
        have h1 := (H2.out.wf.par t ht).2
        omega
      have hdl : done.length + 1 ≤ 1000000 := by rw [he] at hl; simp at hl; omega
      rw [n3] at hc1
      have hpar := n2
      generalize hff : t.2.2 = fct at *
      generalize hpp : t.2.1 = par at *
      have D5 := Lib.hid ((Below.refl wr.heap.size wr).alloc (Nat.le_refl _) (.cells #[.int .i64 fct] 3))
      have O5 := Lib.hid (hown.below D5.out)
      have N5 := Lib.hid (append_new (W := wr) (x := fct))
      have S5 : Hid (W.heap.size ≤ (wr.alloc (.cells #[.int .i64 fct] 3)).heap.size) := Lib.hid (Nat.le_trans hb.size D5.out.size)
      have HB := Lib.hid hb
      have HOW := Lib.hid hown
      have HE := Lib.hid he
      have HUP := Lib.hid hup'
      have N1 := Lib.hid n1
      have N2 := Lib.hid n2
      clear TW hb hown he hup hup' n1 n2 n3 n4 et ht hz hpar
      go_wp2_with (at_builtin; (refine wpList_append_ownW (f := intc) intc_len intc_flat (by decide) rfl (.tmp 31) (.tmp 41) 35 rfl W.heap.size 3 i0 zI 8 Try.underlying35 hi hz0 hz1 hz2 rfl vo done.length done rfl O5.out (some ⟨wr.heap.size, 0, none⟩) 1 [fct] (fun h => by cases h) N5.out rfl (by unfold maxLen; simp; omega) (by simp; omega) S5.out ?_))
      intro v6 w6 ho6 hg6 hv6
      have O6 := Lib.hid (show OwnI w6 W.heap.size v6 (done ++ [fct]) by unfold OwnI; rw [List.length_append, List.flatMap_append, List.flatMap_singleton]; exact ho6)
      have K6 := Lib.hid (((Keep.of_below D5.out (fun k => vo.ownBlock = some k)).grown hg6 (fun q hq => .inl hq)))
      have B6 := Lib.hid (((Keep.of_below HB.out (fun _ => False)).trans K6.out (fun q hq => .inr (HOW.out.lt hq).1)).below (Nat.le_refl _) (fun _ h => h.elim))
      have T6 := H1.out.grow B6.out
      have hc06 := block_cell (j := 0) T6.blk rfl
      have hlk6 := T6.look_v N1.out
      have hp6 := block_cell (j := 0) (T6.node _ (lk_some N1.out)) rfl
      dsimp only at hp6
      rw [N2.out] at hp6
      have NX := Lib.hid (show ∃ done rest, l = done ++ rest ∧ Up T par rest ∧ OwnI w6 W.heap.size v6 done ∧ Below W.heap.size W w6 from ⟨done ++ [fct], rest', by rw [HE.out]; simp, HUP.out, O6.out, B6.out⟩)
      clear ho6 hg6 hv6 T6 K6 O6 B6 N5 O5 D5 S5 hc0 hlk hc1
      go_wp2_with fail
      go_roundw
      case rel => exact ⟨par, v6, rfl, rfl, NX⟩
      case measure => simpa [RowKit.intOf] using hlt
end
end Go.Proofs.Ytonflknnlfffhaa
