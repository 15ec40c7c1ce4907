/- The reference's Apply: texts one behind the other. -/
import Derived.Test.YtmadnehipagakaaGreatDoorRu
import Derived.Test.YtmadnehipagakaaGreatDoorNe
namespace Go.Proofs.YtmadnehipagakaaGreatDoor
open Go.RowKit Go.Lib Go.Sort KP
theorem rright_w (a : Vl) (r : Bool) (h : rightB a = r) (hs : a.2.2.size ≤ 9223372036854775807) (W : World) : Calls Tryz.prog 12 #[a.val] W fun e w' => e = .returned (.bool r) ∧ Below W.heap.size W w' := by
  rw [← h]; exact rright_c a W hs
set_option maxHeartbeats 4000000 in
theorem rapply_str_no (A : Option Addr) (c : Nat) (l : List Vl) (w : World) (hv : ValsAt w A l) (hok : ∀ v ∈ l, okV v) (hps : ∀ v ∈ l, (plainS v).size ≤ 1000) (hl : l.length ≤ 30) (hf : fits (arity ⟨#[115, 116, 114, 45, 99, 97, 116]⟩) l.length = true) (hs : 1000 < (cat l).size) :
    Calls Tryz.prog 14 #[.string ⟨#[115, 116, 114, 45, 99, 97, 116]⟩, .slice A l.length c] w fun e w' => e = .returned (pairV (v0, 4)) ∧ Below w.heap.size w w' := by
  have h0 : Hid (Below w.heap.size w (w.alloc (.cells #[.int .i64 0, .int .i64 0, .string ⟨#[]⟩] 26))) := Lib.hid ((Below.refl _ _).alloc (Nat.le_refl _) _)
  have KN := Lib.hid (fun W => (show knownB ⟨#[115, 116, 114, 45, 99, 97, 116]⟩ = true by decide +kernel) ▸ rknown_c ⟨#[115, 116, 114, 45, 99, 97, 116]⟩ W)
  have FT := Lib.hid (fun W => hf ▸ rfits_c ⟨#[115, 116, 114, 45, 99, 97, 116]⟩ l.length W)
  have V := Lib.hid (fun W (h : Below w.heap.size w W) => hv.below h)
  have HO := Lib.hid hok
  have HP := Lib.hid hps
  have hlI : (l.length : Int) ≤ 30 := by omega
  have HS1 := Lib.hid hs
  clear hs
  clear hv hok hps hf
  go_enter Tryz.func14, Tryz.ntmps14
  go_wp2_with fail
  refine (KN.out _).mono ?_
  rintro e w1 ⟨rfl, b1⟩
  have E1 := Lib.hid b1; clear b1
  go_wp2_with fail
  refine (FT.out _).mono ?_
  rintro e w' ⟨rfl, rfl⟩
  go_wp2_with fail
  obtain ⟨wz, hwz⟩ : ∃ wz, wz = w.alloc (.cells #[.int .i64 0, .int .i64 0, .string ⟨#[]⟩] 26) := ⟨_, rfl⟩
  have HZ : Hid (wz.heap[w.heap.size]? = some (.cells #[.int .i64 0, .int .i64 0, .string ⟨#[]⟩] 26)) := Lib.hid (by rw [hwz]; exact heap_alloc_new w _)
  rw [← hwz] at h0 E1
  clear hwz
  go_loopw [6, 7] (fun o i wr => ∃ k : Nat, k ≤ l.length ∧ i = .int .i64 k ∧ ∃ S : ByteArray, o = .string S ∧ S.size ≤ 1000 * k ∧ Hid (S = cat (l.take k)) ∧ Hid (Below wz.heap.size wz wr)) (fun _ i _ => l.length - (intOf i).toNat)
  case atStart => exact ⟨0, by omega, rfl, _, rfl, Nat.zero_le _, Lib.hid rfl, E1⟩
  case round =>
    obtain ⟨k, hk, rfl, S, rfl, hSs, hS, hB⟩ := hrel
    have hSI : (S.size : Int) ≤ 30000 := by omega
    have EW := Lib.hid (h0.out.trans (hB.out.mono h0.out.size))
    by_cases hlt : k < l.length
    · have hltI : (k : Int) < (l.length : Int) := by omega
      obtain ⟨ad, rfl, c0, c1, c2⟩ := (V.out _ EW.out).at hlt
      have hN := Lib.hid (show cat (l.take (k + 1)) = cat (l.take k) ++ plainS l[k] by rw [List.take_succ_eq_append_getElem hlt, cat_snoc])
      have hc := Lib.hid (HO.out l[k] (List.getElem_mem hlt))
      have hp := HP.out l[k] (List.getElem_mem hlt)
      generalize l[k] = v at *
      obtain ⟨a, b, s⟩ := v
      dsimp only at c0 c1 c2
      have PC := Lib.hid (plain_c (a, b, s) hc.out.n)
      generalize plainS (a, b, s) = x at *
      have hxs : (x.size : Int) ≤ 1000 := by omega
      have hxq : Hid (S.size + x.size ≤ 1000 * (k + 1)) := Lib.hid (by omega)
      clear hp
      go_wp2_with fail
      refine (PC.out _).mono ?_
      rintro e w3 ⟨rfl, b3⟩
      have E3 := Lib.hid (hB.out.trans (b3.mono hB.out.size))
      clear b3 c0 c1 c2
      go_wp2_with fail
      exact ⟨⟨k + 1, by omega, by go_num, _, rfl, by rw [ByteArray.size_append]; exact hxq.out, Lib.hid (by rw [hN.out, hS.out]), E3⟩, by simp [intOf]; omega⟩
    · obtain rfl : k = l.length := by omega
      have hSc : S = cat l := by rw [hS.out, List.take_length]
      clear hS
      have h1 : (1000 : Int) < (S.size : Int) := by have := HS1.out; rw [← hSc] at this; omega
      clear hSc
      obtain ⟨⟨_, _, _⟩, ⟨_, _, _⟩⟩ := new3g HZ.out hB.out
      have E9 := Lib.hid (h0.out.trans (hB.out.mono h0.out.size))
      go_wp2_with fail
      exact bodyPost_ret (v := .tuple #[Vl.val v0, .int .i64 4]) (by simp [results, Tryz.results14, go_sem, *]) rfl ⟨rfl, put3 E9.out⟩
set_option maxHeartbeats 4000000 in
theorem rapply_str_yes (A : Option Addr) (c : Nat) (l : List Vl) (w : World) (hv : ValsAt w A l) (hok : ∀ v ∈ l, okV v) (hps : ∀ v ∈ l, (plainS v).size ≤ 1000) (hl : l.length ≤ 30) (hf : fits (arity ⟨#[115, 116, 114, 45, 99, 97, 116]⟩) l.length = true) (hs : (cat l).size ≤ 1000) :
    Calls Tryz.prog 14 #[.string ⟨#[115, 116, 114, 45, 99, 97, 116]⟩, .slice A l.length c] w fun e w' => e = .returned (pairV (vT (cat l), 0)) ∧ Below w.heap.size w w' := by
  have h0 : Hid (Below w.heap.size w (w.alloc (.cells #[.int .i64 0, .int .i64 0, .string ⟨#[]⟩] 26))) := Lib.hid ((Below.refl _ _).alloc (Nat.le_refl _) _)
  have KN := Lib.hid (fun W => (show knownB ⟨#[115, 116, 114, 45, 99, 97, 116]⟩ = true by decide +kernel) ▸ rknown_c ⟨#[115, 116, 114, 45, 99, 97, 116]⟩ W)
  have FT := Lib.hid (fun W => hf ▸ rfits_c ⟨#[115, 116, 114, 45, 99, 97, 116]⟩ l.length W)
  have V := Lib.hid (fun W (h : Below w.heap.size w W) => hv.below h)
  have HO := Lib.hid hok
  have HP := Lib.hid hps
  have hlI : (l.length : Int) ≤ 30 := by omega
  have HS1 := Lib.hid hs
  clear hs
  clear hv hok hps hf
  go_enter Tryz.func14, Tryz.ntmps14
  go_wp2_with fail
  refine (KN.out _).mono ?_
  rintro e w1 ⟨rfl, b1⟩
  have E1 := Lib.hid b1; clear b1
  go_wp2_with fail
  refine (FT.out _).mono ?_
  rintro e w' ⟨rfl, rfl⟩
  go_wp2_with fail
  obtain ⟨wz, hwz⟩ : ∃ wz, wz = w.alloc (.cells #[.int .i64 0, .int .i64 0, .string ⟨#[]⟩] 26) := ⟨_, rfl⟩
  have HZ : Hid (wz.heap[w.heap.size]? = some (.cells #[.int .i64 0, .int .i64 0, .string ⟨#[]⟩] 26)) := Lib.hid (by rw [hwz]; exact heap_alloc_new w _)
  rw [← hwz] at h0 E1
  clear hwz
  go_loopw [6, 7] (fun o i wr => ∃ k : Nat, k ≤ l.length ∧ i = .int .i64 k ∧ ∃ S : ByteArray, o = .string S ∧ S.size ≤ 1000 * k ∧ Hid (S = cat (l.take k)) ∧ Hid (Below wz.heap.size wz wr)) (fun _ i _ => l.length - (intOf i).toNat)
  case atStart => exact ⟨0, by omega, rfl, _, rfl, Nat.zero_le _, Lib.hid rfl, E1⟩
  case round =>
    obtain ⟨k, hk, rfl, S, rfl, hSs, hS, hB⟩ := hrel
    have hSI : (S.size : Int) ≤ 30000 := by omega
    have EW := Lib.hid (h0.out.trans (hB.out.mono h0.out.size))
    by_cases hlt : k < l.length
    · have hltI : (k : Int) < (l.length : Int) := by omega
      obtain ⟨ad, rfl, c0, c1, c2⟩ := (V.out _ EW.out).at hlt
      have hN := Lib.hid (show cat (l.take (k + 1)) = cat (l.take k) ++ plainS l[k] by rw [List.take_succ_eq_append_getElem hlt, cat_snoc])
      have hc := Lib.hid (HO.out l[k] (List.getElem_mem hlt))
      have hp := HP.out l[k] (List.getElem_mem hlt)
      generalize l[k] = v at *
      obtain ⟨a, b, s⟩ := v
      dsimp only at c0 c1 c2
      have PC := Lib.hid (plain_c (a, b, s) hc.out.n)
      generalize plainS (a, b, s) = x at *
      have hxs : (x.size : Int) ≤ 1000 := by omega
      have hxq : Hid (S.size + x.size ≤ 1000 * (k + 1)) := Lib.hid (by omega)
      clear hp
      go_wp2_with fail
      refine (PC.out _).mono ?_
      rintro e w3 ⟨rfl, b3⟩
      have E3 := Lib.hid (hB.out.trans (b3.mono hB.out.size))
      clear b3 c0 c1 c2
      go_wp2_with fail
      exact ⟨⟨k + 1, by omega, by go_num, _, rfl, by rw [ByteArray.size_append]; exact hxq.out, Lib.hid (by rw [hN.out, hS.out]), E3⟩, by simp [intOf]; omega⟩
    · obtain rfl : k = l.length := by omega
      have hSc : S = cat l := by rw [hS.out, List.take_length]
      clear hS
      have h1 : (S.size : Int) ≤ (1000 : Int) := by have := HS1.out; rw [← hSc] at this; omega
      subst hSc
      go_wp2_with fail
      refine (rStr_c _ _).mono ?_
      rintro e w3 ⟨rfl, b3⟩
      have E3 := Lib.hid (hB.out.trans (b3.mono hB.out.size)); clear b3
      obtain ⟨⟨_, _, _⟩, ⟨_, _, _⟩⟩ := new3g HZ.out E3.out
      have E9 := Lib.hid (h0.out.trans (E3.out.mono h0.out.size))
      go_wp2_with fail
      exact bodyPost_ret (v := .tuple #[Vl.val (vT (cat l)), .int .i64 0]) (by simp [results, Tryz.results14, go_sem, *]) rfl ⟨rfl, put3 E9.out⟩
set_option maxHeartbeats 4000000 in
theorem rapply_sym_no (A : Option Addr) (c : Nat) (l : List Vl) (w : World) (hv : ValsAt w A l) (hok : ∀ v ∈ l, okV v) (hps : ∀ v ∈ l, (plainS v).size ≤ 1000) (hl : l.length ≤ 30) (hf : fits (arity ⟨#[115, 121, 109, 45, 99, 97, 116]⟩) l.length = true) (hs : 40 < (cat l).size) :
    Calls Tryz.prog 14 #[.string ⟨#[115, 121, 109, 45, 99, 97, 116]⟩, .slice A l.length c] w fun e w' => e = .returned (pairV (v0, 4)) ∧ Below w.heap.size w w' := by
  have h0 : Hid (Below w.heap.size w (w.alloc (.cells #[.int .i64 0, .int .i64 0, .string ⟨#[]⟩] 26))) := Lib.hid ((Below.refl _ _).alloc (Nat.le_refl _) _)
  have KN := Lib.hid (fun W => (show knownB ⟨#[115, 121, 109, 45, 99, 97, 116]⟩ = true by decide +kernel) ▸ rknown_c ⟨#[115, 121, 109, 45, 99, 97, 116]⟩ W)
  have FT := Lib.hid (fun W => hf ▸ rfits_c ⟨#[115, 121, 109, 45, 99, 97, 116]⟩ l.length W)
  have V := Lib.hid (fun W (h : Below w.heap.size w W) => hv.below h)
  have HO := Lib.hid hok
  have HP := Lib.hid hps
  have hlI : (l.length : Int) ≤ 30 := by omega
  have HS1 := Lib.hid hs
  clear hs
  clear hv hok hps hf
  go_enter Tryz.func14, Tryz.ntmps14
  go_wp2_with fail
  refine (KN.out _).mono ?_
  rintro e w1 ⟨rfl, b1⟩
  have E1 := Lib.hid b1; clear b1
  go_wp2_with fail
  refine (FT.out _).mono ?_
  rintro e w' ⟨rfl, rfl⟩
  go_wp2_with fail
  obtain ⟨wz, hwz⟩ : ∃ wz, wz = w.alloc (.cells #[.int .i64 0, .int .i64 0, .string ⟨#[]⟩] 26) := ⟨_, rfl⟩
  have HZ : Hid (wz.heap[w.heap.size]? = some (.cells #[.int .i64 0, .int .i64 0, .string ⟨#[]⟩] 26)) := Lib.hid (by rw [hwz]; exact heap_alloc_new w _)
  rw [← hwz] at h0 E1
  clear hwz
  go_loopw [6, 7] (fun o i wr => ∃ k : Nat, k ≤ l.length ∧ i = .int .i64 k ∧ ∃ S : ByteArray, o = .string S ∧ S.size ≤ 1000 * k ∧ Hid (S = cat (l.take k)) ∧ Hid (Below wz.heap.size wz wr)) (fun _ i _ => l.length - (intOf i).toNat)
  case atStart => exact ⟨0, by omega, rfl, _, rfl, Nat.zero_le _, Lib.hid rfl, E1⟩
  case round =>
    obtain ⟨k, hk, rfl, S, rfl, hSs, hS, hB⟩ := hrel
    have hSI : (S.size : Int) ≤ 30000 := by omega
    have EW := Lib.hid (h0.out.trans (hB.out.mono h0.out.size))
    by_cases hlt : k < l.length
    · have hltI : (k : Int) < (l.length : Int) := by omega
      obtain ⟨ad, rfl, c0, c1, c2⟩ := (V.out _ EW.out).at hlt
      have hN := Lib.hid (show cat (l.take (k + 1)) = cat (l.take k) ++ plainS l[k] by rw [List.take_succ_eq_append_getElem hlt, cat_snoc])
      have hc := Lib.hid (HO.out l[k] (List.getElem_mem hlt))
      have hp := HP.out l[k] (List.getElem_mem hlt)
      generalize l[k] = v at *
      obtain ⟨a, b, s⟩ := v
      dsimp only at c0 c1 c2
      have PC := Lib.hid (plain_c (a, b, s) hc.out.n)
      generalize plainS (a, b, s) = x at *
      have hxs : (x.size : Int) ≤ 1000 := by omega
      have hxq : Hid (S.size + x.size ≤ 1000 * (k + 1)) := Lib.hid (by omega)
      clear hp
      go_wp2_with fail
      refine (PC.out _).mono ?_
      rintro e w3 ⟨rfl, b3⟩
      have E3 := Lib.hid (hB.out.trans (b3.mono hB.out.size))
      clear b3 c0 c1 c2
      go_wp2_with fail
      exact ⟨⟨k + 1, by omega, by go_num, _, rfl, by rw [ByteArray.size_append]; exact hxq.out, Lib.hid (by rw [hN.out, hS.out]), E3⟩, by simp [intOf]; omega⟩
    · obtain rfl : k = l.length := by omega
      have hSc : S = cat l := by rw [hS.out, List.take_length]
      clear hS
      have h1 : (40 : Int) < (S.size : Int) := by have := HS1.out; rw [← hSc] at this; omega
      clear hSc
      obtain ⟨⟨_, _, _⟩, ⟨_, _, _⟩⟩ := new3g HZ.out hB.out
      have E9 := Lib.hid (h0.out.trans (hB.out.mono h0.out.size))
      go_wp2_with fail
      exact bodyPost_ret (v := .tuple #[Vl.val v0, .int .i64 4]) (by simp [results, Tryz.results14, go_sem, *]) rfl ⟨rfl, put3 E9.out⟩
set_option maxHeartbeats 4000000 in
theorem rapply_sym_bad (A : Option Addr) (c : Nat) (l : List Vl) (w : World) (hv : ValsAt w A l) (hok : ∀ v ∈ l, okV v) (hps : ∀ v ∈ l, (plainS v).size ≤ 1000) (hl : l.length ≤ 30) (hf : fits (arity ⟨#[115, 121, 109, 45, 99, 97, 116]⟩) l.length = true) (hs : (cat l).size ≤ 40) (hr : rightB (vS (cat l)) = false) :
    Calls Tryz.prog 14 #[.string ⟨#[115, 121, 109, 45, 99, 97, 116]⟩, .slice A l.length c] w fun e w' => e = .returned (pairV (v0, 2)) ∧ Below w.heap.size w w' := by
  have h0 : Hid (Below w.heap.size w (w.alloc (.cells #[.int .i64 0, .int .i64 0, .string ⟨#[]⟩] 26))) := Lib.hid ((Below.refl _ _).alloc (Nat.le_refl _) _)
  have KN := Lib.hid (fun W => (show knownB ⟨#[115, 121, 109, 45, 99, 97, 116]⟩ = true by decide +kernel) ▸ rknown_c ⟨#[115, 121, 109, 45, 99, 97, 116]⟩ W)
  have FT := Lib.hid (fun W => hf ▸ rfits_c ⟨#[115, 121, 109, 45, 99, 97, 116]⟩ l.length W)
  have V := Lib.hid (fun W (h : Below w.heap.size w W) => hv.below h)
  have HO := Lib.hid hok
  have HP := Lib.hid hps
  have hlI : (l.length : Int) ≤ 30 := by omega
  have HS1 := Lib.hid hs
  clear hs
  have HR1 := Lib.hid hr
  clear hr
  clear hv hok hps hf
  go_enter Tryz.func14, Tryz.ntmps14
  go_wp2_with fail
  refine (KN.out _).mono ?_
  rintro e w1 ⟨rfl, b1⟩
  have E1 := Lib.hid b1; clear b1
  go_wp2_with fail
  refine (FT.out _).mono ?_
  rintro e w' ⟨rfl, rfl⟩
  go_wp2_with fail
  obtain ⟨wz, hwz⟩ : ∃ wz, wz = w.alloc (.cells #[.int .i64 0, .int .i64 0, .string ⟨#[]⟩] 26) := ⟨_, rfl⟩
  have HZ : Hid (wz.heap[w.heap.size]? = some (.cells #[.int .i64 0, .int .i64 0, .string ⟨#[]⟩] 26)) := Lib.hid (by rw [hwz]; exact heap_alloc_new w _)
  rw [← hwz] at h0 E1
  clear hwz
  go_loopw [6, 7] (fun o i wr => ∃ k : Nat, k ≤ l.length ∧ i = .int .i64 k ∧ ∃ S : ByteArray, o = .string S ∧ S.size ≤ 1000 * k ∧ Hid (S = cat (l.take k)) ∧ Hid (Below wz.heap.size wz wr)) (fun _ i _ => l.length - (intOf i).toNat)
  case atStart => exact ⟨0, by omega, rfl, _, rfl, Nat.zero_le _, Lib.hid rfl, E1⟩
  case round =>
    obtain ⟨k, hk, rfl, S, rfl, hSs, hS, hB⟩ := hrel
    have hSI : (S.size : Int) ≤ 30000 := by omega
    have EW := Lib.hid (h0.out.trans (hB.out.mono h0.out.size))
    by_cases hlt : k < l.length
    · have hltI : (k : Int) < (l.length : Int) := by omega
      obtain ⟨ad, rfl, c0, c1, c2⟩ := (V.out _ EW.out).at hlt
      have hN := Lib.hid (show cat (l.take (k + 1)) = cat (l.take k) ++ plainS l[k] by rw [List.take_succ_eq_append_getElem hlt, cat_snoc])
      have hc := Lib.hid (HO.out l[k] (List.getElem_mem hlt))
      have hp := HP.out l[k] (List.getElem_mem hlt)
      generalize l[k] = v at *
      obtain ⟨a, b, s⟩ := v
      dsimp only at c0 c1 c2
      have PC := Lib.hid (plain_c (a, b, s) hc.out.n)
      generalize plainS (a, b, s) = x at *
      have hxs : (x.size : Int) ≤ 1000 := by omega
      have hxq : Hid (S.size + x.size ≤ 1000 * (k + 1)) := Lib.hid (by omega)
      clear hp
      go_wp2_with fail
      refine (PC.out _).mono ?_
      rintro e w3 ⟨rfl, b3⟩
      have E3 := Lib.hid (hB.out.trans (b3.mono hB.out.size))
      clear b3 c0 c1 c2
      go_wp2_with fail
      exact ⟨⟨k + 1, by omega, by go_num, _, rfl, by rw [ByteArray.size_append]; exact hxq.out, Lib.hid (by rw [hN.out, hS.out]), E3⟩, by simp [intOf]; omega⟩
    · obtain rfl : k = l.length := by omega
      have hSc : S = cat l := by rw [hS.out, List.take_length]
      clear hS
      have h1 : (S.size : Int) ≤ (40 : Int) := by have := HS1.out; rw [← hSc] at this; omega
      subst hSc
      have RC := Lib.hid (rright_w (vS (cat l)) false HR1.out (by have := HS1.out; show (cat l).size ≤ _; omega))
      generalize cat l = S at *
      go_wp2_with fail
      refine (rSym_c _ _).mono ?_
      rintro e w3 ⟨rfl, b3⟩
      have E3 := Lib.hid (hB.out.trans (b3.mono hB.out.size)); clear b3
      go_wp2_with fail
      refine (RC.out _).mono ?_
      rintro e w4 ⟨rfl, b4⟩
      have E4 := Lib.hid (E3.out.trans (b4.mono E3.out.size)); clear b4
      obtain ⟨⟨_, _, _⟩, ⟨_, _, _⟩⟩ := new3g HZ.out E4.out
      have E9 := Lib.hid (h0.out.trans (E4.out.mono h0.out.size))
      go_wp2_with fail
      exact bodyPost_ret (v := .tuple #[Vl.val v0, .int .i64 2]) (by simp [results, Tryz.results14, go_sem, *]) rfl ⟨rfl, put3 E9.out⟩
set_option maxHeartbeats 4000000 in
theorem rapply_sym_yes (A : Option Addr) (c : Nat) (l : List Vl) (w : World) (hv : ValsAt w A l) (hok : ∀ v ∈ l, okV v) (hps : ∀ v ∈ l, (plainS v).size ≤ 1000) (hl : l.length ≤ 30) (hf : fits (arity ⟨#[115, 121, 109, 45, 99, 97, 116]⟩) l.length = true) (hs : (cat l).size ≤ 40) (hr : rightB (vS (cat l)) = true) :
    Calls Tryz.prog 14 #[.string ⟨#[115, 121, 109, 45, 99, 97, 116]⟩, .slice A l.length c] w fun e w' => e = .returned (pairV (vS (cat l), 0)) ∧ Below w.heap.size w w' := by
  have h0 : Hid (Below w.heap.size w (w.alloc (.cells #[.int .i64 0, .int .i64 0, .string ⟨#[]⟩] 26))) := Lib.hid ((Below.refl _ _).alloc (Nat.le_refl _) _)
  have KN := Lib.hid (fun W => (show knownB ⟨#[115, 121, 109, 45, 99, 97, 116]⟩ = true by decide +kernel) ▸ rknown_c ⟨#[115, 121, 109, 45, 99, 97, 116]⟩ W)
  have FT := Lib.hid (fun W => hf ▸ rfits_c ⟨#[115, 121, 109, 45, 99, 97, 116]⟩ l.length W)
  have V := Lib.hid (fun W (h : Below w.heap.size w W) => hv.below h)
  have HO := Lib.hid hok
  have HP := Lib.hid hps
  have hlI : (l.length : Int) ≤ 30 := by omega
  have HS1 := Lib.hid hs
  clear hs
  have HR1 := Lib.hid hr
  clear hr
  clear hv hok hps hf
  go_enter Tryz.func14, Tryz.ntmps14
  go_wp2_with fail
  refine (KN.out _).mono ?_
  rintro e w1 ⟨rfl, b1⟩
  have E1 := Lib.hid b1; clear b1
  go_wp2_with fail
  refine (FT.out _).mono ?_
  rintro e w' ⟨rfl, rfl⟩
  go_wp2_with fail
  obtain ⟨wz, hwz⟩ : ∃ wz, wz = w.alloc (.cells #[.int .i64 0, .int .i64 0, .string ⟨#[]⟩] 26) := ⟨_, rfl⟩
  have HZ : Hid (wz.heap[w.heap.size]? = some (.cells #[.int .i64 0, .int .i64 0, .string ⟨#[]⟩] 26)) := Lib.hid (by rw [hwz]; exact heap_alloc_new w _)
  rw [← hwz] at h0 E1
  clear hwz
  go_loopw [6, 7] (fun o i wr => ∃ k : Nat, k ≤ l.length ∧ i = .int .i64 k ∧ ∃ S : ByteArray, o = .string S ∧ S.size ≤ 1000 * k ∧ Hid (S = cat (l.take k)) ∧ Hid (Below wz.heap.size wz wr)) (fun _ i _ => l.length - (intOf i).toNat)
  case atStart => exact ⟨0, by omega, rfl, _, rfl, Nat.zero_le _, Lib.hid rfl, E1⟩
  case round =>
    obtain ⟨k, hk, rfl, S, rfl, hSs, hS, hB⟩ := hrel
    have hSI : (S.size : Int) ≤ 30000 := by omega
    have EW := Lib.hid (h0.out.trans (hB.out.mono h0.out.size))
    by_cases hlt : k < l.length
    · have hltI : (k : Int) < (l.length : Int) := by omega
      obtain ⟨ad, rfl, c0, c1, c2⟩ := (V.out _ EW.out).at hlt
      have hN := Lib.hid (show cat (l.take (k + 1)) = cat (l.take k) ++ plainS l[k] by rw [List.take_succ_eq_append_getElem hlt, cat_snoc])
      have hc := Lib.hid (HO.out l[k] (List.getElem_mem hlt))
      have hp := HP.out l[k] (List.getElem_mem hlt)
      generalize l[k] = v at *
      obtain ⟨a, b, s⟩ := v
      dsimp only at c0 c1 c2
      have PC := Lib.hid (plain_c (a, b, s) hc.out.n)
      generalize plainS (a, b, s) = x at *
      have hxs : (x.size : Int) ≤ 1000 := by omega
      have hxq : Hid (S.size + x.size ≤ 1000 * (k + 1)) := Lib.hid (by omega)
      clear hp
      go_wp2_with fail
      refine (PC.out _).mono ?_
      rintro e w3 ⟨rfl, b3⟩
      have E3 := Lib.hid (hB.out.trans (b3.mono hB.out.size))
      clear b3 c0 c1 c2
      go_wp2_with fail
      exact ⟨⟨k + 1, by omega, by go_num, _, rfl, by rw [ByteArray.size_append]; exact hxq.out, Lib.hid (by rw [hN.out, hS.out]), E3⟩, by simp [intOf]; omega⟩
    · obtain rfl : k = l.length := by omega
      have hSc : S = cat l := by rw [hS.out, List.take_length]
      clear hS
      have h1 : (S.size : Int) ≤ (40 : Int) := by have := HS1.out; rw [← hSc] at this; omega
      subst hSc
      have RC := Lib.hid (rright_w (vS (cat l)) true HR1.out (by have := HS1.out; show (cat l).size ≤ _; omega))
      clear HS1 HR1 HO HP V
      go_wp2_with fail
      refine (rSym_c _ _).mono ?_
      rintro e w3 ⟨rfl, b3⟩
      have E3 := Lib.hid (hB.out.trans (b3.mono hB.out.size)); clear b3
      go_wp2_with fail
      refine (RC.out _).mono ?_
      rintro e w4 ⟨rfl, b4⟩
      have E4 := Lib.hid (E3.out.trans (b4.mono E3.out.size)); clear b4
      go_wp2_with fail
      refine (rSym_c _ _).mono ?_
      rintro e w5 ⟨rfl, b5⟩
      have E5 := Lib.hid (E4.out.trans (b5.mono E4.out.size)); clear b5
      obtain ⟨⟨_, _, _⟩, ⟨_, _, _⟩⟩ := new3g HZ.out E5.out
      have E9 := Lib.hid (h0.out.trans (E5.out.mono h0.out.size))
      go_wp2_with fail
      exact bodyPost_ret (v := .tuple #[Vl.val (vS (cat l)), .int .i64 0]) (by simp [results, Tryz.results14, go_sem, *]) rfl ⟨rfl, put3 E9.out⟩
end Go.Proofs.YtmadnehipagakaaGreatDoor
