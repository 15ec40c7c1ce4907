/- model.Key: the text of a way; no two ways have one. -/
import Derived.Test.YtcffphojpnbcbaaDoorFa
import Derived.Test.YtcffphojpnbcbaaDoorSl
import Derived.Test.YtcffphojpnbcbaaDoorKp
import Derived.Lib.ItoaMem
import Derived.Lib.ItoaLen
import Derived.Lib.QuietBelow
import Derived.WalkKit
import Derived.WalkSpells
import Derived.Outline
import Derived.Lib.Hide
namespace Go.Proofs.YtcffphojpnbcbaaDoor
open Go.RowKit Go.Lib Go.Sort

/-- What a row of digits says. -/
def numOf (l : List UInt8) : Nat := l.foldl (fun a c => 10 * a + (c.toNat - 48)) 0
theorem numOf_dec (u : Nat) : numOf (decDigits u) = u := by
  induction u using Nat.strongRecOn with
  | _ u ih =>
    rw [decDigits]
    split
    · rename_i h
      simp [numOf, UInt8.toNat_ofNat']
      omega
    · rename_i h
      unfold numOf
      rw [List.foldl_append]
      have := ih (u / 10) (by omega)
      unfold numOf at this
      rw [this]
      simp [UInt8.toNat_ofNat']
      omega
theorem dec_digit (u : Nat) : ∀ c ∈ decDigits u, 48 ≤ c.toNat := by
  induction u using Nat.strongRecOn with
  | _ u ih =>
    rw [decDigits]
    split
    · rename_i h
      intro c hc
      simp at hc
      subst hc
      simp [UInt8.toNat_ofNat']; omega
    · rename_i h
      intro c hc
      rcases List.mem_append.1 hc with hc | hc
      · exact ih _ (by omega) c hc
      · simp at hc
        subst hc
        simp [UInt8.toNat_ofNat']; omega
theorem itoa_char (n : Int) : ∀ c ∈ itoa n, c ≠ 32 := by
  intro c hc
  unfold itoa at hc
  have h : ∀ u, ∀ c ∈ decDigits u, c ≠ 32 := fun u c hc e => by have := dec_digit u c hc; subst e; simp at this
  split at hc
  · rcases List.mem_cons.1 hc with rfl | hc
    · decide
    · exact h _ c hc
  · exact h _ c hc
theorem dec_head (u : Nat) : ∀ t, decDigits u ≠ 45 :: t := by
  intro t e
  have := dec_digit u 45 (by rw [e]; simp)
  simp at this
theorem itoa_inj {a b : Int} (h : itoa a = itoa b) : a = b := by
  unfold itoa at h
  split at h <;> split at h
  · injection h with _ h
    have := congrArg numOf h
    rw [numOf_dec, numOf_dec] at this
    omega
  · exact absurd h.symm (dec_head _ _)
  · exact absurd h (dec_head _ _)
  · have := congrArg numOf h
    rw [numOf_dec, numOf_dec] at this
    omega

/-- Words, each behind a blank. -/
def words (l : List (List UInt8)) : List UInt8 := l.flatMap fun x => 32 :: x
theorem words_inj : ∀ {l m : List (List UInt8)}, (∀ x ∈ l, ∀ c ∈ x, c ≠ 32) → (∀ x ∈ m, ∀ c ∈ x, c ≠ 32) → words l = words m → l = m
  | [], [], _, _, _ => rfl
  | [], _ :: _, _, _, h => by simp [words] at h
  | _ :: _, [], _, _, h => by simp [words] at h
  | x :: l, y :: m, hl, hm, h => by
    have hx := hl x List.mem_cons_self
    have hy := hm y List.mem_cons_self
    have ih := @words_inj l m (fun z hz => hl z (List.mem_cons_of_mem _ hz)) (fun z hz => hm z (List.mem_cons_of_mem _ hz))
    have key : ∀ (x y : List UInt8), (∀ c ∈ x, c ≠ 32) → (∀ c ∈ y, c ≠ 32) → x ++ words l = y ++ words m → x = y ∧ words l = words m := by
      intro x
      induction x with
      | nil =>
        intro y _ hy h
        cases y with
        | nil => exact ⟨rfl, by simpa using h⟩
        | cons c y =>
          exfalso
          cases l with
          | nil => simp [words] at h
          | cons z l =>
            simp [words] at h
            exact hy c List.mem_cons_self h.1.symm
      | cons c x ihx =>
        intro y hx hy h
        cases y with
        | nil =>
          exfalso
          cases m with
          | nil => simp [words] at h
          | cons z m =>
            simp [words] at h
            exact hx c List.mem_cons_self h.1
        | cons d y =>
          simp only [List.cons_append, List.cons.injEq] at h
          obtain ⟨e1, e2⟩ := ihx y (fun c hc => hx c (List.mem_cons_of_mem _ hc)) (fun c hc => hy c (List.mem_cons_of_mem _ hc)) h.2
          exact ⟨by rw [h.1, e1], e2⟩
    have h' : x ++ words l = y ++ words m := by simpa [words] using h
    obtain ⟨e1, e2⟩ := key x y hx hy h'
    rw [e1, ih e2]

theorem words_cons (x : List UInt8) (l : List (List UInt8)) : words (x :: l) = 32 :: (x ++ words l) := by simp [words]
/-- A way: its rule, its alternative, its facts. -/
abbrev Wt := Int × Int × List Int
def keyL (t : Wt) : List UInt8 := itoa t.1 ++ words (itoa t.2.1 :: t.2.2.map itoa)
def keyB (t : Wt) : ByteArray := ⟨(keyL t).toArray⟩
theorem map_inj {l m : List Int} (h : l.map itoa = m.map itoa) : l = m := by
  induction l generalizing m with
  | nil => cases m with
    | nil => rfl
    | cons _ _ => simp at h
  | cons x l ih => cases m with
    | nil => simp at h
    | cons y m =>
      simp only [List.map_cons, List.cons.injEq] at h
      rw [itoa_inj h.1, ih h.2]
theorem keyB_inj {a b : Wt} (h : keyB a = keyB b) : a = b := by
  have h1 : keyL a = keyL b := by
    unfold keyB at h
    injection h with h
    simpa using congrArg Array.toList h
  have h2 : words (itoa a.1 :: itoa a.2.1 :: a.2.2.map itoa) = words (itoa b.1 :: itoa b.2.1 :: b.2.2.map itoa) := by
    rw [words_cons, words_cons]
    exact congrArg (List.cons 32) h1
  have hw : ∀ t : Wt, ∀ x ∈ itoa t.1 :: itoa t.2.1 :: t.2.2.map itoa, ∀ c ∈ x, c ≠ 32 := by
    intro t x hx
    rcases List.mem_cons.1 hx with rfl | hx
    · exact itoa_char _
    rcases List.mem_cons.1 hx with rfl | hx
    · exact itoa_char _
    obtain ⟨n, _, rfl⟩ := List.mem_map.1 hx
    exact itoa_char _
  have h3 := words_inj (hw a) (hw b) h2
  injection h3 with e1 h3
  injection h3 with e2 e3
  obtain ⟨a1, a2, a3⟩ := a
  obtain ⟨b1, b2, b3⟩ := b
  simp only at e1 e2 e3
  rw [itoa_inj e1, itoa_inj e2, map_inj e3]

/-- The library's table of powers. -/
def Tab (w : World) : Prop := TabIs Tryd.prog w "internal/strconv.uint64pow10" .u64 pow10Tab
theorem tab_global : ∃ g, Tryd.prog.globalNamed "internal/strconv.uint64pow10" = some g := ⟨_, rfl⟩
theorem Tab.below {B : Nat} {w w' : World} (h : Tab w) (hb : Below B w w') (hB : ∀ g, Tryd.prog.globalNamed "internal/strconv.uint64pow10" = some g → g < B) : Tab w' := by
  obtain ⟨g, hg⟩ := tab_global
  unfold Tab TabIs World.var? at h ⊢
  rw [hg] at h ⊢
  simp only [Option.bind_some] at h ⊢
  rw [hb.block g (hB g hg)]
  exact h
theorem Tab.lt {w : World} (h : Tab w) : ∀ g, Tryd.prog.globalNamed "internal/strconv.uint64pow10" = some g → g < w.heap.size := by
  intro g hg
  unfold Tab TabIs World.var? at h
  rw [hg] at h
  simp only [Option.bind_some] at h
  rcases Nat.lt_or_ge g w.heap.size with h' | h'
  · exact h'
  · rw [Array.getElem?_eq_none h'] at h; cases h
theorem Tab.b {w w' : World} (h : Tab w) (hb : Below w.heap.size w w') : Tab w' := h.below hb h.lt

def okI (n : Int) : Prop := -9223372036854775808 ≤ n ∧ n ≤ 9223372036854775807
theorem below_grow (w : World) (k : Nat) (os : Array Obj) : Below w.heap.size w (grow (w.drewN k) os) :=
  ⟨rfl, rfl, rfl, by simp [grow, World.drewN], fun j hj => by simp [grow, World.drewN, Array.getElem?_append, hj]⟩
theorem itoa_c (n : Int) (h : okI n) (w : World) (ht : Tab w) : Calls Tryd.prog 21 #[.int .i64 n] w fun e w' => e = .returned (.string ⟨(itoa n).toArray⟩) ∧ Below w.heap.size w w' :=
  (strconv_Itoa n h.1 h.2 w ht).mono fun _ _ ⟨he, k, os, hw⟩ => ⟨he, by rw [hw]; exact below_grow w k os⟩

theorem words_snoc (l : List (List UInt8)) (x : List UInt8) : words (l ++ [x]) = words l ++ 32 :: x := by simp [words]
def keyT (r al : Int) (l : List Int) : List UInt8 := itoa r ++ words (itoa al :: l.map itoa)
theorem keyT_snoc (r al : Int) (l : List Int) (x : Int) : keyT r al (l ++ [x]) = keyT r al l ++ (32 :: itoa x) := by
  unfold keyT
  rw [List.map_append, List.map_cons, List.map_nil, ← List.cons_append, words_snoc, ← List.append_assoc]
theorem keyT_len (r al : Int) (hr : okI r) (ha : okI al) : ∀ l : List Int, (∀ x ∈ l, okI x) → (keyT r al l).length ≤ 43 + 22 * l.length := by
  intro l h
  unfold keyT
  have e : ∀ l : List Int, (∀ x ∈ l, okI x) → (words (l.map itoa)).length ≤ 22 * l.length := by
    intro l
    induction l with
    | nil => intro _; simp [words]
    | cons x l ih =>
      intro h
      have h1 := itoa_length_le x (h x List.mem_cons_self).1 (h x List.mem_cons_self).2
      have h2 := ih (fun y hy => h y (List.mem_cons_of_mem _ hy))
      rw [List.map_cons, words_cons]
      simp
      omega
  have h1 := itoa_length_le r hr.1 hr.2
  have h2 := itoa_length_le al ha.1 ha.2
  have h3 := e l h
  rw [words_cons]
  simp
  omega

theorem ba_ext {a b : ByteArray} (h : a.data.toList = b.data.toList) : a = b := ByteArray.ext (Array.toList_inj.1 h)
theorem ba_app (a b : ByteArray) : (a ++ b).data.toList = a.data.toList ++ b.data.toList := by simp
set_option maxHeartbeats 1000000 in
theorem key_any (r al : Int) (A : Option Addr) (c : Nat) (l : List Int) (w : World) (hr : okI r) (ha : okI al) (hl : ∀ x ∈ l, okI x) (hn : l.length ≤ 1000) (ra : RowAt w (Value.int .i64) A l) (ht : Tab w) :
    Calls Tryd.prog 16 #[.int .i64 r, .int .i64 al, .slice A l.length c] w fun e w' => e = .returned (.string (keyB (r, al, l))) ∧ Below w.heap.size w w' := by
  have R := Lib.hid (fun W (h : Below w.heap.size w W) => ra.below h)
  have T := Lib.hid (fun W (h : Below w.heap.size w W) => ht.b h)
  have L := Lib.hid hl
  clear ra ht hl
  go_enter Tryd.func16, Tryd.ntmps16
  go_wp2_with fail
  refine (itoa_c r hr w (T.out _ (Below.refl _ _))).mono ?_
  rintro e w1 ⟨rfl, b1⟩
  have E1 := Lib.hid b1; clear b1
  have h1 := itoa_length_le r hr.1 hr.2
  have h2 := itoa_length_le al ha.1 ha.2
  go_wp2_with fail
  refine (itoa_c al ha w1 (T.out _ E1.out)).mono ?_
  rintro e w2 ⟨rfl, b2⟩
  have E2 := Lib.hid (E1.out.trans (b2.mono E1.out.size)); clear b2
  go_wp2_with fail
  have hS0 : ({ data := (itoa r).toArray } ++ { data := #[32] } ++ { data := (itoa al).toArray } : ByteArray) = ⟨(keyT r al []).toArray⟩ := by
    apply ba_ext
    rw [ba_app, ba_app]
    simp [keyT, words]
  rw [hS0]
  clear hS0
  go_loopw [7, 9, 18] (fun v _ i wr => ∃ k S, k ≤ l.length ∧ i = .int .i64 (k : Nat) ∧ v = .string S ∧ Hid (S = ⟨(keyT r al (l.take k)).toArray⟩) ∧ Hid (Below w.heap.size w wr)) (fun _ _ i _ => l.length - (RowKit.intOf i).toNat)
  case atStart => exact ⟨0, _, by omega, rfl, rfl, Lib.hid rfl, E2⟩
  case round =>
    obtain ⟨k, S, hk, rfl, rfl, hS, hB⟩ := hrel
    by_cases hlt : k < l.length
    · obtain ⟨ad, rfl, _, hx⟩ := R.out _ hB.out k hlt
      have hox := L.out l[k] (List.getElem_mem hlt)
      have hn2 := Lib.hid (show keyT r al (l.take (k + 1)) = keyT r al (l.take k) ++ (32 :: itoa l[k]) by rw [List.take_succ_eq_append_getElem hlt, keyT_snoc])
      have h3 : S.size ≤ 30000 := by
        have := keyT_len r al hr ha (l.take k) (fun x hx => L.out x (List.mem_of_mem_take hx))
        rw [hS.out]
        rw [List.length_take] at this
        show (keyT r al (l.take k)).toArray.size ≤ 30000
        simp
        omega
      generalize l[k] = x at *
      have h4 := itoa_length_le x hox.1 hox.2
      have hltI : (k : Int) < (l.length : Int) := by omega
      go_wp2_with fail
      refine (itoa_c x hox wr (T.out _ hB.out)).mono ?_
      rintro e w3 ⟨rfl, b3⟩
      have E3 := Lib.hid (hB.out.trans (b3.mono hB.out.size)); clear b3
      go_wp2_with fail
      go_roundw
      case rel => exact ⟨k + 1, _, by omega, by go_num, rfl, Lib.hid (by
        rw [hS.out, hn2.out]
        apply ba_ext
        rw [ba_app, ba_app]
        simp), E3⟩
      case measure => first | (simp [RowKit.intOf]; done) | (simp [RowKit.intOf]; omega)
    · obtain rfl : k = l.length := by omega
      go_wp2_with fail
      go_ret
      exact ⟨by rw [hS.out, List.take_length]; rfl, hB.out⟩
end Go.Proofs.YtcffphojpnbcbaaDoor
