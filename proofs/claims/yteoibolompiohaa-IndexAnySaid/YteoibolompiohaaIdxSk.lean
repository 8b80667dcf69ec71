/- The law IndexSets. Conditions: as each theorem says. -/
import Derived.Test.YteoibolompiohaaIdxSx
import Derived.Test.YteoibolompiohaaIdxSj
namespace Go.Proofs.Yteoibolompiohaa
open Go.RowKit

section
variable {C C' : List Pr} {k o : Key} {n : Int}
theorem mem_get (hs : SortedK C) {p : Pr} (h : p ∈ C) : numF C p.1 = p.2 ∧ hasF C p.1 = true := by
  obtain ⟨i, hi, rfl⟩ := List.mem_iff_getElem.1 h
  exact get_here hs i hi
theorem get_same (hs : SortedK C) (hs' : SortedK C') (k : Key) (h : ∀ p : Pr, p.1 = k → (p ∈ C ↔ p ∈ C')) : numF C' k = numF C k ∧ hasF C' k = hasF C k := by
  cases hc : hasF C k with
  | true =>
    obtain ⟨p, hp, rfl⟩ := (hasF_iff hs k).1 hc
    have h1 := mem_get hs hp
    have h2 := mem_get hs' ((h p rfl).1 hp)
    exact ⟨h2.1.trans h1.1.symm, h2.2⟩
  | false =>
    have hc' : hasF C' k = false := by
      cases hc' : hasF C' k with
      | false => rfl
      | true =>
        obtain ⟨p, hp, e⟩ := (hasF_iff hs' k).1 hc'
        rw [(hasF_iff hs k).2 ⟨p, (h p e).2 hp, e⟩] at hc
        cases hc
    exact ⟨by rw [num_no hc', num_no hc], hc'⟩
theorem mem_cut {p : Pr} (h : p ∈ C) (hk : p.1 ≠ k) (hh : hasF C k = true) : p ∈ C.take (spotF C k) ∨ p ∈ C.drop (spotF C k + 1) := by
  obtain ⟨hl, e⟩ := hasF_lt hh
  rw [← List.take_append_drop (spotF C k) C, List.mem_append, List.drop_eq_getElem_cons hl, List.mem_cons] at h
  rcases h with h | h | h
  · exact .inl h
  · exact absurd (by rw [h]; exact e) hk
  · exact .inr h
theorem mem_ins {p : Pr} (h : p ∈ C) (hk : p.1 ≠ k) : p ∈ insF C k n := by
  unfold insF
  rw [List.mem_append, List.mem_cons]
  by_cases hh : hasF C k = true
  · rw [if_pos hh]
    rcases mem_cut h hk hh with h | h
    · exact .inl h
    · exact .inr (.inr h)
  · rw [if_neg hh, Nat.add_zero]
    rw [← List.take_append_drop (spotF C k) C, List.mem_append] at h
    rcases h with h | h
    · exact .inl h
    · exact .inr (.inr h)
theorem mem_del {p : Pr} (h : p ∈ C) (hk : p.1 ≠ k) : p ∈ delF C k := by
  unfold delF
  by_cases hh : hasF C k = true
  · rw [if_pos hh]
    unfold cutL
    rw [List.mem_append]
    exact mem_cut h hk hh
  · rw [if_neg hh]; exact h
theorem ins_get (hs : SortedK C) (k : Key) (n : Int) : numF (insF C k n) k = n ∧ hasF (insF C k n) k = true :=
  mem_get (p := (k, n)) (insF_sorted hs k n) (by unfold insF; simp)
theorem ins_far (hs : SortedK C) (n : Int) (h : o ≠ k) : numF (insF C k n) o = numF C o ∧ hasF (insF C k n) o = hasF C o :=
  get_same hs (insF_sorted hs k n) o (fun p e => ⟨fun hp => mem_ins hp (by rw [e]; exact h), fun hp => by
    rcases ins_mem hp with rfl | hp
    · exact absurd e.symm h
    · exact hp⟩)
theorem del_far (hs : SortedK C) (h : o ≠ k) : numF (delF C k) o = numF C o ∧ hasF (delF C k) o = hasF C o :=
  get_same hs (delF_sorted hs k) o (fun p e => ⟨fun hp => mem_del hp (by rw [e]; exact h), fun hp => del_mem hp⟩)
theorem del_gone (hs : SortedK C) (k : Key) : hasF (delF C k) k = false := by
  cases hd : hasF (delF C k) k with
  | false => rfl
  | true =>
    obtain ⟨p, hp, e⟩ := (hasF_iff (delF_sorted hs k) k).1 hd
    cases hh : hasF C k with
    | false =>
      rw [(hasF_iff hs k).2 ⟨p, del_mem hp, e⟩] at hh
      cases hh
    | true =>
      obtain ⟨hl, e1⟩ := hasF_lt hh
      have e0 : C = C.take (spotF C k) ++ C[spotF C k] :: C.drop (spotF C k + 1) := by
        rw [List.getElem_cons_drop, List.take_append_drop]
      have hs2 := hs
      rw [e0, SortedK.append] at hs2
      unfold delF at hp
      rw [if_pos hh] at hp
      unfold cutL at hp
      rcases List.mem_append.1 hp with hp | hp
      · exact absurd e (kLt_ne ((sorted_part hs k).1 p hp))
      · have h3 := List.rel_of_pairwise_cons hs2.2.1 hp
        rw [e1, e, kLt_irrefl] at h3
        cases h3
end
set_option maxRecDepth 100000 in
set_option maxHeartbeats 4000000 in
theorem sets_law (L : List Opr) (a : Option Addr) (c : Nat) (k o : Key) (n : Int) (w : World) (hL : L.length ≤ 9223372036854775807) (h : RowsAt 3 oprCells w (.slice a L.length c) L) (hl : ∀ x ∈ L, x.key.length ≤ 1000000000000000000) (hlk : k.length ≤ 1000000000000000000) :
    Calls Try.prog 6 #[.slice a L.length c, .string (bs k), .int .i64 n, .string (bs o)] w fun e w' => e = .returned (.bool true) ∧ Below w.heap.size w w' := by
  have HD := Lib.hid (done_any L a c w hL h)
  unfold DoneGot ptrV at HD
  have HAw := Lib.hid awake_any
  have hCk : ∀ p ∈ runC L (min L.length 400), p.1.length ≤ 1000000000000000000 := fun p hp => by
    obtain ⟨x, hx, e⟩ := run_mem hp
    rw [e]
    exact hl x hx
  clear h hL hl
  generalize runC L (min L.length 400) = C at *
  obtain ⟨C1, hC1⟩ : ∃ C1, C1 = insF C k n := ⟨_, rfl⟩
  obtain ⟨C2, hC2⟩ : ∃ C2, C2 = delF C1 k := ⟨_, rfl⟩
  obtain ⟨C3, hC3⟩ : ∃ C3, C3 = delF C2 k := ⟨_, rfl⟩
  obtain ⟨N0, hN0⟩ : ∃ N0, N0 = numF C k := ⟨_, rfl⟩
  obtain ⟨h0, hh0⟩ : ∃ h0, h0 = hasF C k := ⟨_, rfl⟩
  obtain ⟨F0, hF0⟩ : ∃ F0, F0 = numF C o := ⟨_, rfl⟩
  obtain ⟨F1, hF1⟩ : ∃ F1, F1 = hasF C o := ⟨_, rfl⟩
  obtain ⟨ln, hln⟩ : ∃ ln, ln = C.length := ⟨_, rfl⟩
  have H3 : Hid (∀ p ∈ C3, p.1.length ≤ 1000000000000000000) := Lib.hid (fun p hp => by
    rw [hC3] at hp
    have hp := del_mem hp
    rw [hC2] at hp
    have hp := del_mem hp
    rw [hC1] at hp
    rcases ins_mem hp with rfl | hp
    · exact hlk
    · exact hCk p hp)
  have HQ : Hid (SortedK C → ((numF C1 k = n ∧ hasF C1 k = true) ∧ (numF C2 k = 0 ∧ hasF C2 k = false) ∧ (o ≠ k → (numF C1 o = F0 ∧ hasF C1 o = F1) ∧ numF C3 o = F0 ∧ hasF C3 o = F1))) := Lib.hid (fun hs => by
    have s1 := insF_sorted hs k n
    rw [← hC1] at s1
    have s2 := delF_sorted s1 k
    rw [← hC2] at s2
    have g2 := del_gone s1 k
    rw [← hC2] at g2
    refine ⟨by rw [hC1]; exact ins_get hs k n, ⟨num_no g2, g2⟩, fun ho => ?_⟩
    have a1 := ins_far hs n ho
    rw [← hC1, ← hF0, ← hF1] at a1
    have a2 := del_far s1 ho
    rw [← hC2, a1.1, a1.2] at a2
    have a3 := del_far s2 ho
    rw [← hC3, a2.1, a2.2] at a3
    exact ⟨a1, a3⟩)
  have HLn : Hid (C1.length = if h0 = true then ln else ln + 1) := Lib.hid (by rw [hC1, hh0, hln]; exact insF_length C k n)
  have HN0 := Lib.hid (And.intro hN0 (And.intro hh0 (And.intro hF0 (And.intro hF1 hln))))
  have HC := Lib.hid (And.intro hC1 (And.intro hC2 hC3))
  clear hC1 hC2 hC3 hN0 hh0 hF0 hF1 hln hlk hCk
  go_enter Try.func6, Try.ntmps6
  go_upto_region 2 with (go_at_call 18; (with_reducible refine HD.out.mono ?_); rintro e w1 ⟨m, rfl, T1, b1⟩)
  have HQ := Lib.hid (HQ.out T1.sorted)
  have HG1 := tree_get T1 k
  unfold ptrV at HG1
  rw [← HN0.out.1, ← HN0.out.2.1] at HG1
  have HG1 := Lib.hid HG1
  have HT1 := Lib.hid (And.intro T1 b1)
  clear T1 b1 HD
  go_upto_region 3 with (go_at_call 19; (with_reducible refine HG1.out.mono ?_); rintro e w2 ⟨rfl, hb2⟩)
  have HT2 := Lib.hid (And.intro (HT1.out.1.grew hb2) (HT1.out.2.trans (hb2.mono HT1.out.2.size)))
  have HG2 := tree_get HT2.out.1 o
  unfold ptrV at HG2
  rw [← HN0.out.2.2.1, ← HN0.out.2.2.2.1] at HG2
  have HG2 := Lib.hid HG2
  clear hb2 HG1 HT1
  go_upto_region 4 with (go_at_call 19; (with_reducible refine HG2.out.mono ?_); rintro e w3 ⟨rfl, hb3⟩)
  have HT3 := Lib.hid (And.intro (HT2.out.1.grew hb3) (HT2.out.2.trans (hb3.mono HT2.out.2.size)))
  have HL3 := tree_len HT3.out.1
  unfold ptrV at HL3
  rw [← HN0.out.2.2.2.2] at HL3
  have HL3 := Lib.hid HL3
  have HS4 := tree_set HT3.out.1 k n (by omega)
  unfold SetGot ptrV at HS4
  rw [← HN0.out.1, ← HN0.out.2.1, ← HC.out.1] at HS4
  have HS4 := Lib.hid HS4
  have hln4 : ln ≤ 400 := by rw [HN0.out.2.2.2.2]; exact HT3.out.1.len
  clear hb3 HG2 HT2
  go_upto_region 5 with (go_at_call 20; (with_reducible refine HL3.out.mono ?_); rintro e w' ⟨rfl, rfl⟩)
  go_upto_region 6 with (go_at_call 21; (with_reducible refine HS4.out.mono ?_); rintro e w4 ⟨m4, rfl, T4, u4⟩)
  have HT4 := Lib.hid (And.intro T4 (And.intro u4.g (HT3.out.2.trans (u4.below HT3.out.2.size))))
  have HG5 := tree_get T4 k
  unfold ptrV at HG5
  rw [HQ.out.1.1, HQ.out.1.2, u4.g] at HG5
  have HG5 := Lib.hid HG5
  clear T4 u4 HL3 HS4 HT3
  go_upto_region 7 with (go_at_call 19; (with_reducible refine HG5.out.mono ?_); rintro e w5 ⟨rfl, hb5⟩)
  have HT5 := Lib.hid (And.intro (HT4.out.1.grew hb5) (And.intro HT4.out.2.1 (HT4.out.2.2.trans (hb5.mono HT4.out.2.2.size))))
  have HL5 := tree_len HT5.out.1
  unfold ptrV at HL5
  rw [HLn.out, HT5.out.2.1] at HL5
  have HG6 := tree_get HT5.out.1 o
  unfold ptrV at HG6
  rw [HT5.out.2.1] at HG6
  have HG6 := Lib.hid HG6
  clear hb5 HT4 HG5 HLn
  have hw : IntKind.i64.wrap ((ln : Int) + 1) = (ln : Int) + 1 := IntWalk.i64_in _ (by omega)
  have s0 : ((N0 : Int) != N0) = false := by simp
  have s1 : ((n : Int) != n) = false := by simp
  have s2 : ((ln : Int) != ln) = false := by simp
  have s3 : (((ln : Int) + 1) != (ln : Int) + 1) = false := by simp
  have s4 : ((F0 : Int) != F0) = false := by simp
  have s5 : ((F0 : Int) == F0) = true := by simp
  have s6 : ((n : Int) == n) = true := by simp
  have s7 : (F1 != F1) = false := by cases F1 <;> rfl
  have s8 : (F1 == F1) = true := by cases F1 <;> rfl
  cases h0 with
  | true =>
    rw [if_pos rfl] at HL5
    have HL5 := Lib.hid HL5
    go_upto_region 9 with (go_at_call 20; (with_reducible refine HL5.out.mono ?_); rintro e w' ⟨rfl, rfl⟩)
    clear HL5
    by_cases ho : o = k
    · subst ho
      have t0 : ((bs o).toList != (bs o).toList) = false := by simp
      have t1 : ((bs o).toList == (bs o).toList) = true := by simp
      go_upto_region 10 with (go_at_call 19; (with_reducible refine HG6.out.mono ?_); rintro e w6 ⟨rfl, hb6⟩)
      have HT6 := Lib.hid (And.intro (HT5.out.1.grew hb6) (And.intro HT5.out.2.1 (HT5.out.2.2.trans (hb6.mono HT5.out.2.2.size))))
      have HD7 := tree_del HT6.out.1 o
      unfold DelGot ptrV at HD7
      rw [HQ.out.1.1, HQ.out.1.2, ← HC.out.2.1, HT6.out.2.1] at HD7
      have HD7 := Lib.hid HD7
      clear hb6 HT5
      go_upto_region 13 with (go_at_call 22; (with_reducible refine HD7.out.mono ?_); rintro e w7 ⟨m7, rfl, T7, u7⟩)
      have HT7 := Lib.hid (And.intro T7 (And.intro (u7.g.trans HT6.out.2.1) (HT6.out.2.2.trans (u7.below HT6.out.2.2.size))))
      have HG8 := tree_get HT7.out.1 o
      unfold ptrV at HG8
      rw [HQ.out.2.1.1, HQ.out.2.1.2, HT7.out.2.1] at HG8
      have HG8 := Lib.hid HG8
      clear T7 u7 HD7 HT6
      go_upto_region 14 with (go_at_call 19; (with_reducible refine HG8.out.mono ?_); rintro e w8 ⟨rfl, hb8⟩)
      have HT8 := Lib.hid (And.intro (HT7.out.1.grew hb8) (And.intro HT7.out.2.1 (HT7.out.2.2.trans (hb8.mono HT7.out.2.2.size))))
      have HD9 := tree_del HT8.out.1 o
      unfold DelGot ptrV at HD9
      rw [HQ.out.2.1.1, HQ.out.2.1.2, ← HC.out.2.2, HT8.out.2.1] at HD9
      have HD9 := Lib.hid HD9
      clear hb8 HG8 HT7
      go_upto_region 15 with (go_at_call 22; (with_reducible refine HD9.out.mono ?_); rintro e w9 ⟨m9, rfl, T9, u9⟩)
      have HT9 := Lib.hid (And.intro T9 (And.intro (u9.g.trans HT8.out.2.1) (HT8.out.2.2.trans (u9.below HT8.out.2.2.size))))
      have HG10 := tree_get HT9.out.1 o
      unfold ptrV at HG10
      rw [HT9.out.2.1] at HG10
      have HG10 := Lib.hid HG10
      clear T9 u9 HD9 HT8
      go_upto_region 16 with (go_at_call 19; (with_reducible refine HG10.out.mono ?_); rintro e w10 ⟨rfl, hb10⟩)
      have HT10 := Lib.hid (And.intro (HT9.out.1.grew hb10) (And.intro HT9.out.2.1 (HT9.out.2.2.trans (hb10.mono HT9.out.2.2.size))))
      have HR := tree_right HT10.out.1 H3.out
      unfold RightSaid ptrV at HR
      rw [HT10.out.2.1] at HR
      have HR := Lib.hid HR
      clear hb10 HG10 HT9
      go_wp2_with (first
        | (go_at_call 23; (with_reducible refine HR.out.mono ?_); rintro e w11 ⟨rfl, hb11⟩)
        | (go_at_call 14; (with_reducible refine (HAw.out _).mono ?_); rintro e w12 ⟨rfl, hb12⟩))
      go_ret
      have B11 := HT10.out.2.2.trans (hb11.mono HT10.out.2.2.size)
      exact ⟨rfl, B11.trans (hb12.mono B11.size)⟩
    · have hne : bs o ≠ bs k := fun e => ho (by have := congrArg ByteArray.toList e; rwa [bs_toList, bs_toList] at this)
      have t0 : ((bs o).toList != (bs k).toList) = true := by rw [bs_toList, bs_toList]; exact bne_iff_ne.2 ho
      have t1 : ((bs o).toList == (bs k).toList) = false := by rw [bs_toList, bs_toList]; exact beq_eq_false_iff_ne.2 ho
      have HQ3 := Lib.hid (HQ.out.2.2 ho)
      have HG6 := HG6.out
      rw [HQ3.out.1.1, HQ3.out.1.2] at HG6
      have HG6 := Lib.hid HG6
      clear hne ho
      go_upto_region 10 with (go_at_call 19; (with_reducible refine HG6.out.mono ?_); rintro e w6 ⟨rfl, hb6⟩)
      have HT6 := Lib.hid (And.intro (HT5.out.1.grew hb6) (And.intro HT5.out.2.1 (HT5.out.2.2.trans (hb6.mono HT5.out.2.2.size))))
      have HD7 := tree_del HT6.out.1 k
      unfold DelGot ptrV at HD7
      rw [HQ.out.1.1, HQ.out.1.2, ← HC.out.2.1, HT6.out.2.1] at HD7
      have HD7 := Lib.hid HD7
      clear hb6 HT5
      go_upto_region 13 with (go_at_call 22; (with_reducible refine HD7.out.mono ?_); rintro e w7 ⟨m7, rfl, T7, u7⟩)
      have HT7 := Lib.hid (And.intro T7 (And.intro (u7.g.trans HT6.out.2.1) (HT6.out.2.2.trans (u7.below HT6.out.2.2.size))))
      have HG8 := tree_get HT7.out.1 k
      unfold ptrV at HG8
      rw [HQ.out.2.1.1, HQ.out.2.1.2, HT7.out.2.1] at HG8
      have HG8 := Lib.hid HG8
      clear T7 u7 HD7 HT6
      go_upto_region 14 with (go_at_call 19; (with_reducible refine HG8.out.mono ?_); rintro e w8 ⟨rfl, hb8⟩)
      have HT8 := Lib.hid (And.intro (HT7.out.1.grew hb8) (And.intro HT7.out.2.1 (HT7.out.2.2.trans (hb8.mono HT7.out.2.2.size))))
      have HD9 := tree_del HT8.out.1 k
      unfold DelGot ptrV at HD9
      rw [HQ.out.2.1.1, HQ.out.2.1.2, ← HC.out.2.2, HT8.out.2.1] at HD9
      have HD9 := Lib.hid HD9
      clear hb8 HG8 HT7
      go_upto_region 15 with (go_at_call 22; (with_reducible refine HD9.out.mono ?_); rintro e w9 ⟨m9, rfl, T9, u9⟩)
      have HT9 := Lib.hid (And.intro T9 (And.intro (u9.g.trans HT8.out.2.1) (HT8.out.2.2.trans (u9.below HT8.out.2.2.size))))
      have HG10 := tree_get HT9.out.1 o
      unfold ptrV at HG10
      rw [HQ3.out.2.1, HQ3.out.2.2, HT9.out.2.1] at HG10
      have HG10 := Lib.hid HG10
      clear T9 u9 HD9 HT8
      go_upto_region 16 with (go_at_call 19; (with_reducible refine HG10.out.mono ?_); rintro e w10 ⟨rfl, hb10⟩)
      have HT10 := Lib.hid (And.intro (HT9.out.1.grew hb10) (And.intro HT9.out.2.1 (HT9.out.2.2.trans (hb10.mono HT9.out.2.2.size))))
      have HR := tree_right HT10.out.1 H3.out
      unfold RightSaid ptrV at HR
      rw [HT10.out.2.1] at HR
      have HR := Lib.hid HR
      clear hb10 HG10 HT9
      go_wp2_with (first
        | (go_at_call 23; (with_reducible refine HR.out.mono ?_); rintro e w11 ⟨rfl, hb11⟩)
        | (go_at_call 14; (with_reducible refine (HAw.out _).mono ?_); rintro e w12 ⟨rfl, hb12⟩))
      go_ret
      have B11 := HT10.out.2.2.trans (hb11.mono HT10.out.2.2.size)
      exact ⟨rfl, B11.trans (hb12.mono B11.size)⟩
  | false =>
    rw [if_neg (by decide), Int.natCast_add] at HL5
    have HL5 := Lib.hid (show Calls Try.prog 20 #[.pointer (some ⟨m.g, 0, none⟩)] w5 fun e w' => e = .returned (.int .i64 ((ln : Int) + 1)) ∧ w5 = w' from HL5)
    go_upto_region 9 with (go_at_call 20; (with_reducible refine HL5.out.mono ?_); rintro e w' ⟨rfl, rfl⟩)
    clear HL5
    by_cases ho : o = k
    · subst ho
      have t0 : ((bs o).toList != (bs o).toList) = false := by simp
      have t1 : ((bs o).toList == (bs o).toList) = true := by simp
      go_upto_region 10 with (go_at_call 19; (with_reducible refine HG6.out.mono ?_); rintro e w6 ⟨rfl, hb6⟩)
      have HT6 := Lib.hid (And.intro (HT5.out.1.grew hb6) (And.intro HT5.out.2.1 (HT5.out.2.2.trans (hb6.mono HT5.out.2.2.size))))
      have HD7 := tree_del HT6.out.1 o
      unfold DelGot ptrV at HD7
      rw [HQ.out.1.1, HQ.out.1.2, ← HC.out.2.1, HT6.out.2.1] at HD7
      have HD7 := Lib.hid HD7
      clear hb6 HT5
      go_upto_region 13 with (go_at_call 22; (with_reducible refine HD7.out.mono ?_); rintro e w7 ⟨m7, rfl, T7, u7⟩)
      have HT7 := Lib.hid (And.intro T7 (And.intro (u7.g.trans HT6.out.2.1) (HT6.out.2.2.trans (u7.below HT6.out.2.2.size))))
      have HG8 := tree_get HT7.out.1 o
      unfold ptrV at HG8
      rw [HQ.out.2.1.1, HQ.out.2.1.2, HT7.out.2.1] at HG8
      have HG8 := Lib.hid HG8
      clear T7 u7 HD7 HT6
      go_upto_region 14 with (go_at_call 19; (with_reducible refine HG8.out.mono ?_); rintro e w8 ⟨rfl, hb8⟩)
      have HT8 := Lib.hid (And.intro (HT7.out.1.grew hb8) (And.intro HT7.out.2.1 (HT7.out.2.2.trans (hb8.mono HT7.out.2.2.size))))
      have HD9 := tree_del HT8.out.1 o
      unfold DelGot ptrV at HD9
      rw [HQ.out.2.1.1, HQ.out.2.1.2, ← HC.out.2.2, HT8.out.2.1] at HD9
      have HD9 := Lib.hid HD9
      clear hb8 HG8 HT7
      go_upto_region 15 with (go_at_call 22; (with_reducible refine HD9.out.mono ?_); rintro e w9 ⟨m9, rfl, T9, u9⟩)
      have HT9 := Lib.hid (And.intro T9 (And.intro (u9.g.trans HT8.out.2.1) (HT8.out.2.2.trans (u9.below HT8.out.2.2.size))))
      have HG10 := tree_get HT9.out.1 o
      unfold ptrV at HG10
      rw [HT9.out.2.1] at HG10
      have HG10 := Lib.hid HG10
      clear T9 u9 HD9 HT8
      go_upto_region 16 with (go_at_call 19; (with_reducible refine HG10.out.mono ?_); rintro e w10 ⟨rfl, hb10⟩)
      have HT10 := Lib.hid (And.intro (HT9.out.1.grew hb10) (And.intro HT9.out.2.1 (HT9.out.2.2.trans (hb10.mono HT9.out.2.2.size))))
      have HR := tree_right HT10.out.1 H3.out
      unfold RightSaid ptrV at HR
      rw [HT10.out.2.1] at HR
      have HR := Lib.hid HR
      clear hb10 HG10 HT9
      go_wp2_with (first
        | (go_at_call 23; (with_reducible refine HR.out.mono ?_); rintro e w11 ⟨rfl, hb11⟩)
        | (go_at_call 14; (with_reducible refine (HAw.out _).mono ?_); rintro e w12 ⟨rfl, hb12⟩))
      go_ret
      have B11 := HT10.out.2.2.trans (hb11.mono HT10.out.2.2.size)
      exact ⟨rfl, B11.trans (hb12.mono B11.size)⟩
    · have hne : bs o ≠ bs k := fun e => ho (by have := congrArg ByteArray.toList e; rwa [bs_toList, bs_toList] at this)
      have t0 : ((bs o).toList != (bs k).toList) = true := by rw [bs_toList, bs_toList]; exact bne_iff_ne.2 ho
      have t1 : ((bs o).toList == (bs k).toList) = false := by rw [bs_toList, bs_toList]; exact beq_eq_false_iff_ne.2 ho
      have HQ3 := Lib.hid (HQ.out.2.2 ho)
      have HG6 := HG6.out
      rw [HQ3.out.1.1, HQ3.out.1.2] at HG6
      have HG6 := Lib.hid HG6
      clear hne ho
      go_upto_region 10 with (go_at_call 19; (with_reducible refine HG6.out.mono ?_); rintro e w6 ⟨rfl, hb6⟩)
      have HT6 := Lib.hid (And.intro (HT5.out.1.grew hb6) (And.intro HT5.out.2.1 (HT5.out.2.2.trans (hb6.mono HT5.out.2.2.size))))
      have HD7 := tree_del HT6.out.1 k
      unfold DelGot ptrV at HD7
      rw [HQ.out.1.1, HQ.out.1.2, ← HC.out.2.1, HT6.out.2.1] at HD7
      have HD7 := Lib.hid HD7
      clear hb6 HT5
      go_upto_region 13 with (go_at_call 22; (with_reducible refine HD7.out.mono ?_); rintro e w7 ⟨m7, rfl, T7, u7⟩)
      have HT7 := Lib.hid (And.intro T7 (And.intro (u7.g.trans HT6.out.2.1) (HT6.out.2.2.trans (u7.below HT6.out.2.2.size))))
      have HG8 := tree_get HT7.out.1 k
      unfold ptrV at HG8
      rw [HQ.out.2.1.1, HQ.out.2.1.2, HT7.out.2.1] at HG8
      have HG8 := Lib.hid HG8
      clear T7 u7 HD7 HT6
      go_upto_region 14 with (go_at_call 19; (with_reducible refine HG8.out.mono ?_); rintro e w8 ⟨rfl, hb8⟩)
      have HT8 := Lib.hid (And.intro (HT7.out.1.grew hb8) (And.intro HT7.out.2.1 (HT7.out.2.2.trans (hb8.mono HT7.out.2.2.size))))
      have HD9 := tree_del HT8.out.1 k
      unfold DelGot ptrV at HD9
      rw [HQ.out.2.1.1, HQ.out.2.1.2, ← HC.out.2.2, HT8.out.2.1] at HD9
      have HD9 := Lib.hid HD9
      clear hb8 HG8 HT7
      go_upto_region 15 with (go_at_call 22; (with_reducible refine HD9.out.mono ?_); rintro e w9 ⟨m9, rfl, T9, u9⟩)
      have HT9 := Lib.hid (And.intro T9 (And.intro (u9.g.trans HT8.out.2.1) (HT8.out.2.2.trans (u9.below HT8.out.2.2.size))))
      have HG10 := tree_get HT9.out.1 o
      unfold ptrV at HG10
      rw [HQ3.out.2.1, HQ3.out.2.2, HT9.out.2.1] at HG10
      have HG10 := Lib.hid HG10
      clear T9 u9 HD9 HT8
      go_upto_region 16 with (go_at_call 19; (with_reducible refine HG10.out.mono ?_); rintro e w10 ⟨rfl, hb10⟩)
      have HT10 := Lib.hid (And.intro (HT9.out.1.grew hb10) (And.intro HT9.out.2.1 (HT9.out.2.2.trans (hb10.mono HT9.out.2.2.size))))
      have HR := tree_right HT10.out.1 H3.out
      unfold RightSaid ptrV at HR
      rw [HT10.out.2.1] at HR
      have HR := Lib.hid HR
      clear hb10 HG10 HT9
      go_wp2_with (first
        | (go_at_call 23; (with_reducible refine HR.out.mono ?_); rintro e w11 ⟨rfl, hb11⟩)
        | (go_at_call 14; (with_reducible refine (HAw.out _).mono ?_); rintro e w12 ⟨rfl, hb12⟩))
      go_ret
      have B11 := HT10.out.2.2.trans (hb11.mono HT10.out.2.2.size)
      exact ⟨rfl, B11.trans (hb12.mono B11.size)⟩
/-- THE LAW IndexSets. -/
theorem indexSets_walk (W : World) (v : Value) (fs : ByteArray) (n : Int) (ts : ByteArray) (h : IsIopsW W v) (hk : fs.size ≤ reachBytes) (_ : (Lit.int .i64 n).wf = true) (_ : ts.size ≤ maxLen) :
    Calls Try.prog 6 #[v, .string fs, .int .i64 n, .string ts] W fun e w' => e = .returned (.bool true) ∧ Below W.heap.size W w' := by
  obtain ⟨L, a, cap, rfl, l1, l2, hL, hl⟩ := h
  obtain ⟨k, rfl⟩ : ∃ k, fs = bs k := ⟨fs.data.toList, (bs_of fs).symm⟩
  obtain ⟨o, rfl⟩ : ∃ k, ts = bs k := ⟨ts.data.toList, (bs_of ts).symm⟩
  unfold maxLen at l2
  unfold reachBytes at hl hk
  refine sets_law L a cap k o n W (by omega) hL (fun x hx => by have := hl x hx; omega) ?_
  have : (bs k).size = k.length := by simp [bs, ByteArray.size]
  omega
end Go.Proofs.Yteoibolompiohaa
