/- Texts of values. -/
import Derived.Test.YtmadnehipagakaaGreatDoorNd
import Derived.Lib.ItoaMem
import Derived.Lib.ItoaLen
import Derived.Laws.BytesArg
namespace Go.Proofs.YtmadnehipagakaaGreatDoor
open Go.RowKit Go.Lib Go.Sort KP
/-- The library's table of powers. -/
def Tab (w : World) : Prop := TabIs Tryz.prog w "internal/strconv.uint64pow10" .u64 pow10Tab
theorem tab_global : ∃ g, Tryz.prog.globalNamed "internal/strconv.uint64pow10" = some g := ⟨_, rfl⟩
theorem Tab.below {B : Nat} {w w' : World} (h : Tab w) (hb : Below B w w') (hB : ∀ g, Tryz.prog.globalNamed "internal/strconv.uint64pow10" = some g → g < B) : Tab w' := by
  obtain ⟨g, hg⟩ := tab_global
  unfold Tab TabIs World.var? at h ⊢
  rw [hg] at h ⊢
  simp only [Option.bind_some] at h ⊢
  rw [hb.block g (hB g hg)]
  exact h
theorem Tab.lt {w : World} (h : Tab w) : ∀ g, Tryz.prog.globalNamed "internal/strconv.uint64pow10" = some g → g < w.heap.size := by
  intro g hg
  unfold Tab TabIs World.var? at h
  rw [hg] at h
  simp only [Option.bind_some] at h
  rcases Nat.lt_or_ge g w.heap.size with h' | h'
  · exact h'
  · rw [Array.getElem?_eq_none h'] at h; cases h
theorem Tab.b {w w' : World} (h : Tab w) (hb : Below w.heap.size w w') : Tab w' := h.below hb h.lt
theorem below_grow (w : World) (k : Nat) (os : Array Obj) : Below w.heap.size w (grow (w.drewN k) os) :=
  ⟨rfl, rfl, rfl, by simp [grow, World.drewN], fun j hj => by simp [grow, World.drewN, Array.getElem?_append, hj]⟩
def itoaB (n : Int) : ByteArray := ⟨(itoa n).toArray⟩
theorem fmt_c (n : Int) (h : okI n) (w : World) (ht : Tab w) : Calls Tryz.prog 141 #[.int .i64 n, .int .i64 10] w fun e w' => e = .returned (.string (itoaB n)) ∧ Below w.heap.size w w' :=
  (strconv_FormatInt_10 n h.1 h.2 w ht).mono fun _ _ ⟨he, k, os, hw⟩ => ⟨he, by rw [hw]; exact below_grow w k os⟩
theorem numText_c (n : Int) (h : okI n) (w : World) (ht : Tab w) : Calls Tryz.prog 110 #[.int .i64 n] w fun e w' => e = .returned (.string (itoaB n)) ∧ Below w.heap.size w w' := by
  go_enter Tryz.func110, Tryz.ntmps110
  go_wp2_with fail
  refine (fmt_c n h _ ht).mono ?_
  rintro e w1 ⟨rfl, b1⟩
  have E1 := Lib.hid b1; clear b1
  go_wp2_with fail
  go_ret
  exact ⟨rfl, E1.out⟩
theorem clone_c (s : ByteArray) (hs : s.size ≤ 281474976710656) (w : World) : Calls Tryz.prog 112 #[.string s] w fun e w' => e = .returned (.string s) ∧ Below w.heap.size w w' := by
  go_enter Tryz.func112, Tryz.ntmps112
  go_wp2_with fail
  refine (stringslite_Clone s _ hs).mono ?_
  rintro e w1 ⟨rfl, b1⟩
  have E1 := Lib.hid b1; clear b1
  go_wp2_with fail
  go_ret
  exact ⟨rfl, E1.out⟩
def textS (v : Vl) : ByteArray := if v.1 = 1 then itoaB v.2.1 else v.2.2
theorem text_c (v : Vl) (h3 : v.1 ≠ 3) (ho : okI v.2.1) (hs : v.2.2.size ≤ 140737488351232) (w : World) (ht : Tab w) : Calls Tryz.prog 74 #[v.val] w fun e w' => e = .returned (.string (textS v)) ∧ Below w.heap.size w w' := by
  obtain ⟨a, b, s⟩ := v
  have hB := one_box w (a, b, s) 26
  dsimp only at hB h3 ho hs
  have E2 := Lib.hid hB.2.1
  have T2 := Lib.hid (ht.b hB.2.1)
  have HO := Lib.hid ho
  clear hB ht ho
  by_cases h1 : a = 1
  · subst h1
    go_enter Tryz.func74, Tryz.ntmps74
    go_wp2_with fail
    refine (numText_c b HO.out _ T2.out).mono ?_
    rintro e w1 ⟨rfl, b1⟩
    have E3 := Lib.hid (E2.out.trans (b1.mono E2.out.size)); clear b1
    go_wp2_with fail
    go_ret
    exact ⟨rfl, E3.out⟩
  have e1 : (a == 1) = false := by simp [h1]
  have e3 : (a == 3) = false := by simp [h3]
  have H : Hid (textS (a, b, s) = s) := Lib.hid (by simp [textS, h1])
  by_cases h2 : a = 2
  · subst h2
    clear h1 h3
    go_enter Tryz.func74, Tryz.ntmps74
    go_wp2_with fail
    refine (clone_c s (by omega) _).mono ?_
    rintro e w1 ⟨rfl, b1⟩
    have E3 := Lib.hid (E2.out.trans (b1.mono E2.out.size)); clear b1
    go_wp2_with fail
    go_ret
    exact ⟨ret_str H.out.symm, E3.out⟩
  have e2 : (a == 2) = false := by simp [h2]
  clear h1 h2 h3
  go_enter Tryz.func74, Tryz.ntmps74
  go_wp2_with fail
  go_ret
  exact ⟨ret_str H.out.symm, E2.out⟩
theorem size_c (n : Int) (h : okI n) (w : World) : Calls Tryz.prog 146 #[.int .i64 n] w fun e w' => e = .returned (.int .u64 (n.natAbs : Nat)) ∧ w = w' := by
  obtain ⟨h1, h2⟩ := h
  by_cases h0 : n < 0
  · go_enter Tryz.func146, Tryz.ntmps146
    go_wp2_with fail
    go_ret
    exact ⟨ret_int (by omega), rfl⟩
  · go_enter Tryz.func146, Tryz.ntmps146
    go_wp2_with fail
    go_ret
    exact ⟨ret_int (by omega), rfl⟩
theorem dec_small {u : Nat} (h : u < 10) : decDigits u = [UInt8.ofNat (48 + u)] := by rw [decDigits, dif_pos h]
theorem dec_big {u : Nat} (h : ¬ u < 10) : decDigits u = decDigits (u / 10) ++ [UInt8.ofNat (48 + u % 10)] := by conv => lhs; rw [decDigits, dif_neg h]
def preD (u : Nat) : List UInt8 := if u < 10 then [] else decDigits (u / 10)
def lastD (u : Nat) : ByteArray := ⟨#[UInt8.ofNat (48 + u % 10)]⟩
theorem dec_pre (u : Nat) : decDigits u = preD u ++ (lastD u).data.toList := by
  unfold preD lastD
  split
  · rename_i h; rw [dec_small h]; simp; congr 1; omega
  · rename_i h; rw [dec_big h]
def lastI (x : Int) : ByteArray := ⟨#[UInt8.ofNat x.toNat]⟩
theorem lastI_eq (u : Nat) : lastI (48 + (u : Int) % 10) = lastD u := by
  have e : (48 + (u : Int) % 10).toNat = 48 + u % 10 := by omega
  unfold lastI lastD; rw [e]
theorem lastI_eq10 (u : Nat) : lastI (48 + (u : Int) / 10 % 10) = lastD (u / 10) := by
  have e : (48 + (u : Int) / 10 % 10).toNat = 48 + u / 10 % 10 := by omega
  unfold lastI lastD; rw [e]
theorem conv_one (W : World) (x : Int) : Sem.run Tryz.prog (convert 80 9 (.slice (some ⟨W.heap.size, 0, none⟩) 1 1)) (W.alloc (.cells #[.int .u8 x] 5)) = .ok (.string (lastI x)) (W.alloc (.cells #[.int .u8 x] 5)) := by
  have := run_convert_bytes_arg (P := Tryz.prog) (W.alloc (.cells #[.int .u8 x] 5)) 80 5 Tryz.underlying80 Tryz.underlying5 W.heap.size 0 1 1 [x] rfl (fun i hi => by
    obtain rfl : i = 0 := by omega
    exact block_cell (heap_alloc_new W _) rfl) 9 Tryz.underlying9
  exact this
theorem dec_len (u : Nat) (h : u ≤ 9223372036854775808) : (decDigits u).length ≤ 20 := by
  have := itoa_length_le (-(u : Int)) (by omega) (by omega)
  unfold itoa at this
  by_cases h0 : u = 0
  · subst h0; rw [dec_small (by omega)]; simp
  · rw [if_pos (by omega)] at this
    have e : (-(u : Int)).natAbs = u := by omega
    rw [e] at this
    simp at this
    omega
theorem ba_app (a b : ByteArray) : (a ++ b).data.toList = a.data.toList ++ b.data.toList := by simp
theorem ba_ext {a b : ByteArray} (h : a.data.toList = b.data.toList) : a = b := ByteArray.ext (Array.toList_inj.1 h)
theorem ba_size (a : ByteArray) : a.data.toList.length = a.size := by simp
set_option maxRecDepth 100000 in
set_option maxHeartbeats 1000000 in
theorem rnumText_c (n : Int) (h : okI n) (w : World) : Calls Tryz.prog 117 #[.int .i64 n] w fun e w' => e = .returned (.string (itoaB n)) ∧ Below w.heap.size w w' := by
  have HO := Lib.hid h
  have CO := conv_one
  have CL : ∀ x, (lastI x).size = 1 := fun _ => rfl
  obtain ⟨h1, h2⟩ := h
  have fin : Hid (∀ S : ByteArray, S.data.toList = decDigits n.natAbs → (n < 0 → (⟨#[45]⟩ : ByteArray) ++ S = itoaB n) ∧ (¬ n < 0 → S = itoaB n)) := Lib.hid (fun S hS => by
    unfold itoaB itoa
    constructor
    · intro h
      rw [if_pos h]
      apply ba_ext
      rw [ba_app, hS]; rfl
    · intro h
      rw [if_neg h]
      apply ba_ext
      rw [hS]
      have : n.toNat = n.natAbs := by omega
      rw [this])
  go_enter Tryz.func117, Tryz.ntmps117
  go_wp2_with fail
  refine (size_c n HO.out _).mono ?_
  rintro e w1 ⟨rfl, rfl⟩
  obtain ⟨u0, hu⟩ : ∃ u, u = n.natAbs := ⟨_, rfl⟩
  rw [← hu]
  have hu1 : (u0 : Int) ≤ 9223372036854775808 := by omega
  have hl := Lib.hid (dec_len u0 (by omega))
  have HU := Lib.hid hu
  clear hu
  go_wp2_with fail
  go_loopw [3, 4] (fun u s wr => ∃ k : Nat, ∃ S : ByteArray, u = .int .u64 k ∧ s = .string S ∧ (k : Int) ≤ 9223372036854775808 ∧ Hid (decDigits u0 = preD k ++ S.data.toList) ∧ Hid (Below w.heap.size w wr)) (fun u _ _ => (intOf u).toNat)
  case atStart => exact ⟨u0, _, rfl, rfl, hu1, Lib.hid (by rw [lastI_eq]; exact dec_pre u0), Lib.hid ((Below.refl _ _).alloc (Nat.le_refl _) _)⟩
  case round =>
    obtain ⟨k, S, rfl, rfl, hk, hd, hB⟩ := hrel
    have hS : S.size ≤ 20 := by
      have := hl.out
      rw [hd.out, List.length_append, ba_size] at this
      omega
    by_cases hlt : k < 10
    · have hltI : (k : Int) < 10 := by omega
      have HS : Hid (S.data.toList = decDigits n.natAbs) := Lib.hid (by rw [← HU.out, hd.out]; unfold preD; rw [if_pos hlt]; rfl)
      by_cases hn : n < 0
      · go_wp2_with fail
        go_ret
        exact ⟨ret_str ((fin.out S HS.out).1 hn), hB.out⟩
      · go_wp2_with fail
        go_ret
        exact ⟨ret_str ((fin.out S HS.out).2 hn), hB.out⟩
    · have hltI : (10 : Int) ≤ (k : Int) := by omega
      go_wp2_with fail
      have HQ : Hid (decDigits u0 = preD (k / 10) ++ (lastI (48 + (k : Int) / 10 % 10) ++ S).data.toList) := Lib.hid (by
        rw [lastI_eq10, ba_app, ← List.append_assoc, ← dec_pre, hd.out]
        unfold preD; rw [if_neg hlt])
      have hB2 := Lib.hid (hB.out.alloc hB.out.size (.cells #[.int .u8 (48 + (k : Int) / 10 % 10)] 5))
      exact ⟨⟨k / 10, _, by go_num, rfl, by omega, HQ, hB2⟩, by simp [intOf]; omega⟩
end Go.Proofs.YtmadnehipagakaaGreatDoor
