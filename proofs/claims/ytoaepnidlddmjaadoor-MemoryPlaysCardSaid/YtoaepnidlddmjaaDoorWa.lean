/- The text of values that no other values have: plainly. -/
import Derived.Lib.ItoaMem
import Derived.Lib.ItoaLen
namespace Go.Proofs.YtoaepnidlddmjaaDoor
open Go.RowKit Go.Lib Go.Sort
/-- A value: its kind, its number, its text. -/
abbrev Vl := Int × Int × ByteArray
def okI (n : Int) : Prop := -9223372036854775808 ≤ n ∧ n ≤ 9223372036854775807
theorem ba_app (a b : ByteArray) : (a ++ b).data.toList = a.data.toList ++ b.data.toList := by simp
theorem ba_ext {a b : ByteArray} (h : a.data.toList = b.data.toList) : a = b := ByteArray.ext (Array.toList_inj.1 h)
theorem ba_size (a : ByteArray) : a.data.toList.length = a.size := by simp
def numOf (l : List UInt8) : Nat := l.foldl (fun a c => 10 * a + (c.toNat - 48)) 0
theorem numOf_dec (u : Nat) : numOf (decDigits u) = u := by
  induction u using Nat.strongRecOn with
  | _ u ih =>
    rw [decDigits]
    split
    · rename_i h
      simp [numOf, UInt8.toNat_ofNat']
      omega
    · rename_i h
      unfold numOf
      rw [List.foldl_append]
      have := ih (u / 10) (by omega)
      unfold numOf at this
      rw [this]
      simp [UInt8.toNat_ofNat']
      omega
theorem dec_digit (u : Nat) : ∀ c ∈ decDigits u, 48 ≤ c.toNat ∧ c.toNat ≤ 57 := by
  induction u using Nat.strongRecOn with
  | _ u ih =>
    rw [decDigits]
    split
    · rename_i h
      intro c hc
      simp at hc
      subst hc
      simp [UInt8.toNat_ofNat']; omega
    · rename_i h
      intro c hc
      rcases List.mem_append.1 hc with hc | hc
      · exact ih _ (by omega) c hc
      · simp at hc
        subst hc
        simp [UInt8.toNat_ofNat']; omega
theorem itoa_char (n : Int) (d : UInt8) (hd : ¬ (48 ≤ d.toNat ∧ d.toNat ≤ 57)) (hd2 : d ≠ 45) : ∀ c ∈ itoa n, c ≠ d := by
  intro c hc
  unfold itoa at hc
  have h : ∀ u, ∀ c ∈ decDigits u, c ≠ d := fun u c hc e => by have := dec_digit u c hc; subst e; exact hd this
  split at hc
  · rcases List.mem_cons.1 hc with rfl | hc
    · exact fun e => hd2 e.symm
    · exact h _ c hc
  · exact h _ c hc
theorem dec_head (u : Nat) : ∀ t, decDigits u ≠ 45 :: t := by
  intro t e
  have := dec_digit u 45 (by rw [e]; simp)
  simp at this
theorem itoa_inj {a b : Int} (h : itoa a = itoa b) : a = b := by
  unfold itoa at h
  split at h <;> split at h
  · injection h with _ h
    have := congrArg numOf h
    rw [numOf_dec, numOf_dec] at this
    omega
  · exact absurd h.symm (dec_head _ _)
  · exact absurd h (dec_head _ _)
  · have := congrArg numOf h
    rw [numOf_dec, numOf_dec] at this
    omega
theorem cut_at {c : UInt8} : ∀ {x y r s : List UInt8}, (∀ d ∈ x, d ≠ c) → (∀ d ∈ y, d ≠ c) → x ++ c :: r = y ++ c :: s → x = y ∧ r = s
  | [], [], _, _, _, _, h => by simpa using h
  | [], d :: y, _, _, _, hy, h => by
    simp only [List.nil_append, List.cons_append, List.cons.injEq] at h
    exact absurd h.1.symm (hy d List.mem_cons_self)
  | d :: x, [], _, _, hx, _, h => by
    simp only [List.nil_append, List.cons_append, List.cons.injEq] at h
    exact absurd h.1 (hx d List.mem_cons_self)
  | d :: x, e :: y, r, s, hx, hy, h => by
    simp only [List.cons_append, List.cons.injEq] at h
    have := cut_at (fun z hz => hx z (List.mem_cons_of_mem _ hz)) (fun z hz => hy z (List.mem_cons_of_mem _ hz)) h.2
    exact ⟨by rw [h.1, this.1], this.2⟩
/-- A value's text. -/
def hv (v : Vl) : List UInt8 := itoa v.1 ++ 32 :: (itoa v.2.1 ++ 32 :: (itoa (v.2.2.size : Int) ++ 58 :: v.2.2.data.toList))
theorem hv_app (v : Vl) (r : List UInt8) : hv v ++ r = itoa v.1 ++ 32 :: (itoa v.2.1 ++ 32 :: (itoa (v.2.2.size : Int) ++ 58 :: (v.2.2.data.toList ++ r))) := by simp [hv]
theorem hv_ne (v : Vl) (r : List UInt8) : hv v ++ r ≠ [] := by rw [hv_app]; simp
theorem hv_inj {v w : Vl} {r s : List UInt8} (h : hv v ++ r = hv w ++ s) : v = w ∧ r = s := by
  rw [hv_app, hv_app] at h
  have c32 : ∀ n, ∀ c ∈ itoa n, c ≠ 32 := fun n => itoa_char n 32 (by decide) (by decide)
  have c58 : ∀ n, ∀ c ∈ itoa n, c ≠ 58 := fun n => itoa_char n 58 (by decide) (by decide)
  obtain ⟨h1, h⟩ := cut_at (c32 _) (c32 _) h
  obtain ⟨h2, h⟩ := cut_at (c32 _) (c32 _) h
  obtain ⟨h3, h⟩ := cut_at (c58 _) (c58 _) h
  have e3 := itoa_inj h3
  obtain ⟨h4, h5⟩ := List.append_inj h (by rw [ba_size, ba_size]; omega)
  obtain ⟨v1, v2, v3⟩ := v
  obtain ⟨w1, w2, w3⟩ := w
  simp only at h1 h2 h4
  exact ⟨by rw [itoa_inj h1, itoa_inj h2, ba_ext h4], h5⟩
def hashL (l : List Vl) : List UInt8 := l.flatMap hv
theorem hashL_inj : ∀ {l m : List Vl}, hashL l = hashL m → l = m
  | [], [], _ => rfl
  | [], w :: m, h => absurd (by simpa [hashL] using h.symm) (hv_ne w (hashL m))
  | v :: l, [], h => absurd (by simpa [hashL] using h) (hv_ne v (hashL l))
  | v :: l, w :: m, h => by
    have h' : hv v ++ hashL l = hv w ++ hashL m := by simpa [hashL] using h
    obtain ⟨e1, e2⟩ := hv_inj h'
    rw [e1, hashL_inj e2]
theorem hashL_snoc (l : List Vl) (v : Vl) : hashL (l ++ [v]) = hashL l ++ hv v := by simp [hashL]
theorem hv_len (v : Vl) (h1 : okI v.1) (h2 : okI v.2.1) (h3 : v.2.2.size ≤ 100000) : (hv v).length ≤ 100080 := by
  have a1 := itoa_length_le v.1 h1.1 h1.2
  have a2 := itoa_length_le v.2.1 h2.1 h2.2
  have a3 := itoa_length_le (v.2.2.size : Int) (by omega) (by omega)
  have a4 := ba_size v.2.2
  unfold hv
  simp only [List.length_append, List.length_cons]
  omega
theorem hashL_len : ∀ (l : List Vl), (∀ v ∈ l, okI v.1 ∧ okI v.2.1 ∧ v.2.2.size ≤ 100000) → (hashL l).length ≤ l.length * 100080
  | [], _ => by simp [hashL]
  | v :: l, h => by
    have h1 := h v List.mem_cons_self
    have h2 := hashL_len l (fun w hw => h w (List.mem_cons_of_mem _ hw))
    have h3 := hv_len v h1.1 h1.2.1 h1.2.2
    have h4 : hashL (v :: l) = hv v ++ hashL l := by simp [hashL]
    rw [h4, List.length_append, List.length_cons]
    omega
def hashB (l : List Vl) : ByteArray := ⟨(hashL l).toArray⟩
theorem hashB_inj {l m : List Vl} (h : hashB l = hashB m) : l = m := by
  unfold hashB at h
  injection h with h
  exact hashL_inj (by simpa using congrArg Array.toList h)
/-- A fact: its number, its template, its values. -/
abbrev Ft := Int × ByteArray × List Vl
def keyB (t : ByteArray) (l : List Vl) : ByteArray := hashB ((3, 0, t) :: l)
theorem keyB_inj {t u : ByteArray} {l m : List Vl} (h : keyB t l = keyB u m) : t = u ∧ l = m := by
  have := hashB_inj h
  simp only [List.cons.injEq, Prod.mk.injEq, true_and] at this
  exact this
end Go.Proofs.YtoaepnidlddmjaaDoor
