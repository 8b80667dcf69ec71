/- The law IndexAny. Conditions: as each theorem says. -/
import Derived.Test.YteoibolompiohaaIdxSk
namespace Go.Proofs.Yteoibolompiohaa
open Go.RowKit

section
variable {C C1 C2 : List Pr} {k : Key} {S : List Key}
theorem sorted_ext : ∀ {C1 C2 : List Pr}, SortedK C1 → SortedK C2 → (∀ p, p ∈ C1 ↔ p ∈ C2) → C1 = C2
  | [], [], _, _, _ => rfl
  | [], b :: l, _, _, h => absurd ((h b).2 (List.mem_cons_self ..)) (by simp)
  | a :: l, [], _, _, h => absurd ((h a).1 (List.mem_cons_self ..)) (by simp)
  | a :: l, b :: l2, h1, h2, h => by
    have p1 := (List.pairwise_cons.1 h1).1
    have p2 := (List.pairwise_cons.1 h2).1
    have e : a = b := by
      rcases List.mem_cons.1 ((h a).1 (List.mem_cons_self ..)) with e | e
      · exact e
      · rcases List.mem_cons.1 ((h b).2 (List.mem_cons_self ..)) with f | f
        · exact f.symm
        · have q1 := p2 a e
          have q2 := p1 b f
          rw [kLt_asymm q1] at q2
          cases q2
    subst e
    congr 1
    refine sorted_ext (List.pairwise_cons.1 h1).2 (List.pairwise_cons.1 h2).2 (fun p => ⟨fun hp => ?_, fun hp => ?_⟩)
    · rcases List.mem_cons.1 ((h p).1 (List.mem_cons_of_mem _ hp)) with e | e
      · have := p1 p hp
        rw [e, kLt_irrefl] at this
        cases this
      · exact e
    · rcases List.mem_cons.1 ((h p).2 (List.mem_cons_of_mem _ hp)) with e | e
      · have := p2 p hp
        rw [e, kLt_irrefl] at this
        cases this
      · exact e
/-- Each key with its length; keys out of S alone. -/
structure Seen (S : List Key) (C : List Pr) : Prop where
  sorted : SortedK C
  num : ∀ p ∈ C, p.2 = ((bs p.1).size : Int)
  out : ∀ p ∈ C, p.1 ∈ S
theorem ins_old (h : Seen S C) {p : Pr} (hp : p ∈ C) : p ∈ insF C k ((bs k).size : Int) := by
  by_cases e : p.1 = k
  · have : p = (k, ((bs k).size : Int)) := by
      have := h.num p hp
      obtain ⟨a, b⟩ := p
      simp only at e this
      subst e
      rw [this]
    rw [this]
    unfold insF
    simp
  · exact mem_ins hp e
theorem ins_new (C : List Pr) (k : Key) : ∃ p ∈ insF C k ((bs k).size : Int), p.1 = k := ⟨(k, ((bs k).size : Int)), by unfold insF; simp, rfl⟩
theorem Seen.ins (h : Seen S C) (hk : k ∈ S) : Seen S (insF C k ((bs k).size : Int)) :=
  ⟨insF_sorted h.sorted _ _, fun p hp => by
    rcases ins_mem hp with rfl | hp
    · rfl
    · exact h.num p hp, fun p hp => by
    rcases ins_mem hp with rfl | hp
    · exact hk
    · exact h.out p hp⟩
theorem Seen.mono {S' : List Key} (h : Seen S C) (hs : ∀ k ∈ S, k ∈ S') : Seen S' C := ⟨h.sorted, h.num, fun p hp => hs _ (h.out p hp)⟩
theorem seen_all (h1 : Seen S C1) (h2 : Seen S C2) (a1 : ∀ k ∈ S, ∃ p ∈ C1, p.1 = k) (a2 : ∀ k ∈ S, ∃ p ∈ C2, p.1 = k) : C1 = C2 := by
  have one : ∀ {A B : List Pr}, Seen S A → Seen S B → (∀ k ∈ S, ∃ p ∈ B, p.1 = k) → ∀ p ∈ A, p ∈ B := by
    intro A B hA hB hb p hp
    obtain ⟨q, hq, e⟩ := hb _ (hA.out p hp)
    have n1 := hA.num p hp
    have n2 := hB.num q hq
    rw [e, ← n1] at n2
    have : q = p := Prod.ext e n2
    rw [← this]; exact hq
  exact sorted_ext h1.sorted h2.sorted (fun p => ⟨one h1 h2 a2 p, one h2 h1 a1 p⟩)
end
def firstC (L : List Key) (i : Nat) : List Pr := (L.take i).foldl (fun C s => insF C s ((bs s).size : Int)) []
theorem first_succ (L : List Key) (i : Nat) (h : i < L.length) : firstC L (i + 1) = insF (firstC L i) L[i] ((bs L[i]).size : Int) := by unfold firstC; rw [List.take_succ_eq_append_getElem h, List.foldl_append]; rfl
theorem first_all (L : List Key) : ∀ i, i ≤ L.length → Seen (L.take i) (firstC L i) ∧ ∀ k ∈ L.take i, ∃ p ∈ firstC L i, p.1 = k := by
  intro i
  induction i with
  | zero => intro _; exact ⟨⟨List.Pairwise.nil, fun p hp => (by cases hp), fun p hp => (by cases hp)⟩, fun k hk => by simp at hk⟩
  | succ i ih =>
    intro hi
    have hi' : i < L.length := by omega
    obtain ⟨h1, h2⟩ := ih (by omega)
    rw [first_succ L i hi', List.take_succ_eq_append_getElem hi']
    have h3 : Seen (L.take i ++ [L[i]]) (firstC L i) := h1.mono (fun k hk => List.mem_append.2 (.inl hk))
    refine ⟨h3.ins (List.mem_append.2 (.inr (List.mem_singleton.2 rfl))), fun k hk => ?_⟩
    rcases List.mem_append.1 hk with hk | hk
    · obtain ⟨p, hp, e⟩ := h2 k hk
      exact ⟨p, ins_old h3 hp, e⟩
    · rw [List.mem_singleton] at hk
      subst hk
      exact ins_new _ _
/-- What the second tree has while the loop goes down. -/
def TailOk (L : List Key) (M i : Nat) (C : List Pr) : Prop := Seen (L.take M) C ∧ ∀ j (hj : j < L.length), i ≤ j → j < M → ∃ p ∈ C, p.1 = L[j]
theorem tail_step {L : List Key} {M i kx : Nat} {C : List Pr} (h : TailOk L M (i + 1) C) (hi : i < L.length) (hk : kx < L.length) (hiM : i < M) (hkM : kx < M) :
    TailOk L M i (insF (insF C L[kx] ((bs L[kx]).size : Int)) L[i] ((bs L[i]).size : Int)) := by
  have m1 : L[kx] ∈ L.take M := List.mem_iff_getElem.2 ⟨kx, by rw [List.length_take]; omega, by simp⟩
  have m2 : L[i] ∈ L.take M := List.mem_iff_getElem.2 ⟨i, by rw [List.length_take]; omega, by simp⟩
  have s1 := h.1.ins m1
  refine ⟨s1.ins m2, fun j hj hij hjM => ?_⟩
  rcases Nat.lt_or_ge i j with h' | h'
  · obtain ⟨p, hp, e⟩ := h.2 j hj h' hjM
    exact ⟨p, ins_old s1 (ins_old h.1 hp), e⟩
  · obtain rfl : j = i := by omega
    exact ins_new _ _
theorem tail_end {L : List Key} {M : Nat} {C : List Pr} (h : TailOk L M 0 C) (hM : M ≤ L.length) : C = firstC L M := by
  obtain ⟨h1, h2⟩ := first_all L M hM
  refine seen_all h.1 h1 (fun k hk => ?_) h2
  obtain ⟨j, hj, rfl⟩ := List.mem_iff_getElem.1 hk
  rw [List.length_take] at hj
  obtain ⟨p, hp, e⟩ := h.2 j (by omega) (Nat.zero_le _) (by omega)
  exact ⟨p, hp, by rw [e]; simp⟩
/-- Two trees in memory, none of which has a block of the other one. -/
def AnyAt (w : World) (g1 g2 h1 h2 : Nat) (C1 C2 : List Pr) (wr : World) : Prop :=
  ∃ m1 m2, m1.g = g1 ∧ m2.g = g2 ∧ Tree w.heap.size h1 m1 C1 wr ∧ Tree w.heap.size h2 m2 C2 wr ∧ (∀ b, m1.foot b → ¬ m2.foot b) ∧ Below w.heap.size w wr
section
variable {B hi : Nat} {m m' m2 : Mem} {C C1 C2 : List Pr} {w wr w' : World} {g1 g2 h1 h2 : Nat}
theorem Turned.stays (u : Turned B m m' wr w') (T : Tree B hi m2 C wr) (hd : ∀ b, m2.foot b → ¬ m.foot b) : Tree B hi m2 C w' ∧ ∀ b, m2.foot b → ¬ m'.foot b := by
  have hb := u.below T.g_ge
  exact ⟨T.away (F := m.foot) ⟨hb.os, hb.tape, hb.output, u.size, fun i hi hn => (u.far i hi hn).1⟩ (fun b h1 h2 => hd b h2 h1), fun b hb2 => (u.far b (T.foot_lt hb2) (hd b hb2)).2⟩
theorem AnyAt.grew (h : AnyAt w g1 g2 h1 h2 C1 C2 wr) (hb : Below wr.heap.size wr w') : AnyAt w g1 g2 h1 h2 C1 C2 w' := by
  obtain ⟨m1, m2, e1, e2, T1, T2, hd, hB⟩ := h
  exact ⟨m1, m2, e1, e2, T1.grew hb, T2.grew hb, hd, hB.trans (hb.mono hB.size)⟩
def AnySet (w : World) (g1 g2 h1 h2 : Nat) (C1 C2 : List Pr) (e : Ending) (w' : World) : Prop := (∃ x y, e = .returned (.tuple #[.int .i64 x, .bool y])) ∧ AnyAt w g1 g2 h1 h2 C1 C2 w'
theorem AnyAt.left (h : AnyAt w g1 g2 h1 h2 C1 C2 wr) (k : Key) (n : Int) (hh : h1 + 1 ≤ 1000) : Calls Try.prog 21 #[.pointer (some ⟨g1, 0, none⟩), .string (bs k), .int .i64 n] wr (AnySet w g1 g2 (h1 + 1) h2 (insF C1 k n) C2) := by
  obtain ⟨m1, m2, rfl, rfl, T1, T2, hd, hB⟩ := h
  refine (tree_set T1 k n hh).mono ?_
  rintro e w' ⟨m', rfl, T', u⟩
  obtain ⟨T2', hd'⟩ := u.stays T2 (fun b a c => hd b c a)
  exact ⟨⟨_, _, rfl⟩, m', m2, u.g, rfl, T'.up (by have := T1.len; have := ins_short C1 k n; omega) (by omega), T2', fun b a c => hd' b c a, hB.trans (u.below hB.size)⟩
theorem AnyAt.right (h : AnyAt w g1 g2 h1 h2 C1 C2 wr) (k : Key) (n : Int) (hh : h2 + 1 ≤ 1000) : Calls Try.prog 21 #[.pointer (some ⟨g2, 0, none⟩), .string (bs k), .int .i64 n] wr (AnySet w g1 g2 h1 (h2 + 1) C1 (insF C2 k n)) := by
  obtain ⟨m1, m2, rfl, rfl, T1, T2, hd, hB⟩ := h
  refine (tree_set T2 k n hh).mono ?_
  rintro e w' ⟨m', rfl, T', u⟩
  obtain ⟨T1', hd'⟩ := u.stays T1 hd
  exact ⟨⟨_, _, rfl⟩, m1, m', rfl, u.g, T1', T'.up (by have := T2.len; have := ins_short C2 k n; omega) (by omega), hd', hB.trans (u.below hB.size)⟩
theorem AnyAt.below (h : AnyAt w g1 g2 h1 h2 C1 C2 wr) : Below w.heap.size w wr := by
  obtain ⟨m1, m2, e1, e2, T1, T2, hd, hB⟩ := h
  exact hB
def AllRange (C : List Pr) (wr : World) (e : Ending) (w' : World) : Prop := ∃ v, e = .returned v ∧ Grow PrT 2 prCells wr.heap.size v C w' ∧ Below wr.heap.size wr w'
theorem all_range (T : Tree B hi m C wr) (hc : C.length < 300) : Calls Try.prog 13 #[.pointer (some ⟨m.g, 0, none⟩), .string ⟨#[]⟩, .string ⟨#[]⟩, .int .i64 300] wr (AllRange C wr) := by
  have HR := tree_range T [] [] 300
  rw [rng_all C 300 (by omega)] at HR
  exact HR
/-- What the end asks of both. -/
theorem AnyAt.asks (h : AnyAt w g1 g2 h1 h2 C C wr) (h1' : h1 ≤ 200) :
    (Calls Try.prog 13 #[.pointer (some ⟨g1, 0, none⟩), .string ⟨#[]⟩, .string ⟨#[]⟩, .int .i64 300] wr (AllRange C wr)) ∧
    (Calls Try.prog 13 #[.pointer (some ⟨g2, 0, none⟩), .string ⟨#[]⟩, .string ⟨#[]⟩, .int .i64 300] wr (AllRange C wr)) ∧
    (Calls Try.prog 20 #[.pointer (some ⟨g1, 0, none⟩)] wr fun e w' => e = .returned (.int .i64 (C.length : Int)) ∧ wr = w') ∧
    (Calls Try.prog 20 #[.pointer (some ⟨g2, 0, none⟩)] wr fun e w' => e = .returned (.int .i64 (C.length : Int)) ∧ wr = w') ∧ C.length ≤ 200 := by
  obtain ⟨m1, m2, rfl, rfl, T1, T2, hd, hB⟩ := h
  have hl := T1.len
  exact ⟨all_range T1 (by omega), all_range T2 (by omega), tree_len T1, tree_len T2, by omega⟩
end
theorem tdiv2 (n : Nat) : (n : Int).tdiv 2 = ((n / 2 : Nat) : Int) := by rw [Int.tdiv_eq_ediv_of_nonneg (by omega)]; omega
theorem tmodN (a n : Nat) : (a : Int).tmod (n : Int) = ((a % n : Nat) : Int) := by rw [Int.tmod_eq_emod_of_nonneg (by omega)]; omega
set_option maxRecDepth 100000 in
set_option maxHeartbeats 4000000 in
theorem any_law (L : List Key) (a : Option Addr) (c : Nat) (bY : Int) (w : World) (hL : L.length ≤ 9223372036854775807) (h : StrsAt w (.slice a L.length c) L) :
    Calls Try.prog 7 #[.slice a L.length c, .int .i64 bY] w fun e w' => e = .returned (.bool true) ∧ Below w.heap.size w w' := by
  have HO := Lib.hid h
  have HN := Lib.hid (fun W => new_any W)
  unfold NewSaid ptrV at HN
  have HAw := Lib.hid awake_any
  obtain ⟨M, hM⟩ : ∃ M, M = min L.length 200 := ⟨_, rfl⟩
  have hM1 : M ≤ L.length := by omega
  have hM2 : M ≤ 200 := by omega
  have HM := Lib.hid hM
  clear h hM
  go_enter Try.func7, Try.ntmps7
  go_upto_region 2 with (go_at_call 10; (with_reducible refine (HN.out _).mono ?_); rintro e w1 ⟨m1, rfl, T1, b1⟩)
  have HT1 := Lib.hid (And.intro T1 b1)
  clear T1 b1
  go_upto_region 3 with (go_at_call 10; (with_reducible refine (HN.out _).mono ?_); rintro e w2 ⟨m2, rfl, T2, b2⟩)
  have H1 : Hid (AnyAt w m1.g m2.g 0 0 [] [] w2) := Lib.hid ⟨m1, m2, rfl, rfl, HT1.out.1.grew b2, T2.mono HT1.out.2.size, fun b h1 h2 => by have := HT1.out.1.foot_lt h1; have := T2.fresh b h2; omega, HT1.out.2.trans (b2.mono HT1.out.2.size)⟩
  obtain ⟨g1, hg1⟩ : ∃ g1, g1 = m1.g := ⟨_, rfl⟩
  obtain ⟨g2, hg2⟩ : ∃ g2, g2 = m2.g := ⟨_, rfl⟩
  rw [← hg1, ← hg2] at H1
  rw [← hg1, ← hg2]
  clear T2 b2 hg1 hg2 HN HT1
  go_wp2
  go_loopg [7] M (fun gk v7 wr => ∃ i : Nat, v7 = .int .i64 (i : Int) ∧ i + gk = M ∧ Hid (AnyAt w g1 g2 i 0 (firstC L i) [] wr))
  case atStart => exact ⟨0, rfl, by omega, H1⟩
  case round =>
    obtain ⟨i, rfl, hi, HA⟩ := hrel
    by_cases hlt : i < M
    · have hiL : i < L.length := by omega
      obtain ⟨b, off, rfl, k0⟩ := strs_get HO.out i hiL
      have k0 := Grew.cell HA.out.below k0
      have hil : (i : Int) < (L.length : Int) := by omega
      have hi4 : (i : Int) < 200 := by omega
      have HS := Lib.hid ((HA.out.grew (Below.refl _ wr).drew).left L[i] ((bs L[i]).size : Int) (by omega))
      have HF := Lib.hid (first_succ L i hiL)
      unfold str at k0
      generalize L[i] = x at *
      go_wp2_with (fail)
      go_region_with (go_at_call 21; (with_reducible refine HS.out.mono ?_); rintro e w3 ⟨⟨x0, y0, rfl⟩, hA3⟩)
      all_goals
        have HA3 : Hid (AnyAt w g1 g2 (i + 1) 0 (firstC L (i + 1)) [] w3) := Lib.hid (by rw [HF.out]; exact hA3)
        clear hA3
        go_wp2
        go_roundg (gk - 1)
        case rel => exact ⟨i + 1, by go_num, by omega, HA3⟩
        case measure => omega
    · obtain rfl : M = i := by omega
      have hor : L.length ≤ M ∨ (M = 200 ∧ 200 < L.length) := by have := HM.out; omega
      have HA2 : Hid (AnyAt w g1 g2 200 0 (firstC L M) [] wr) := Lib.hid (by obtain ⟨m1, m2, e1, e2, T1, T2, hd, hB⟩ := HA.out; exact ⟨m1, m2, e1, e2, T1.up (by omega) (by omega), T2, hd, hB⟩)
      have HTl : Hid (TailOk L M M []) := Lib.hid ⟨⟨List.Pairwise.nil, fun p hp => (by cases hp), fun p hp => (by cases hp)⟩, fun j _ h1 h2 => by omega⟩
      have hw0 : IntKind.i64.wrap ((M : Int) - 1) = (M : Int) - 1 := IntWalk.i64_in _ (by omega)
      clear HA H1
      rcases hor with h0 | h0
      · have h1 : ¬ (M : Int) < (L.length : Int) := by omega
        have h2 : (L.length : Int) = (M : Int) := by omega
        have h3 : (M : Int) ≤ 200 := by omega
        clear h0 HM
        go_wp2
        go_loopg [9] M (fun gk v9 wr => ∃ (z : Int) (C : List Pr), v9 = .int .i64 z ∧ Hid (z = (gk : Int) - 1) ∧ gk ≤ M ∧ Hid (AnyAt w g1 g2 200 (2 * (M - gk)) (firstC L M) C wr ∧ TailOk L M gk C))
        case atStart => exact ⟨_, [], rfl, Lib.hid (by omega), Nat.le_refl _, Lib.hid ⟨by rw [Nat.sub_self]; exact HA2.out, HTl.out⟩⟩
        case round =>
          obtain ⟨z, C, rfl, HZ, hgM, HC⟩ := hrel
          clear HA2 HTl
          rcases Nat.eq_zero_or_pos gk with hz | hpos
          · subst hz
            obtain rfl : z = -1 := by have := HZ.out; omega
            have hC : C = firstC L M := tail_end HC.out.2 hM1
            have HA := Lib.hid (show AnyAt w g1 g2 200 (2 * (M - 0)) (firstC L M) (firstC L M) wr by have := HC.out.1; rw [hC] at this; exact this)
            clear hC HC HZ
            generalize firstC L M = D at *
            have hDl := (HA.out.asks (Nat.le_refl _)).2.2.2.2
            have HR1 := (HA.out.asks (Nat.le_refl _)).1
            unfold AllRange at HR1
            have HR1 := Lib.hid HR1
            go_upto_region 17 with (go_at_call 13; (with_reducible refine HR1.out.mono ?_); rintro e w4 ⟨v4, rfl, hG4, hb4⟩)
            obtain ⟨la, lc, hv4⟩ := hG4.slice
            rw [hv4] at hG4
            subst hv4
            have HA4 := Lib.hid (HA.out.grew hb4)
            have HR2 := (HA4.out.asks (Nat.le_refl _)).2.1
            unfold AllRange at HR2
            have HR2 := Lib.hid HR2
            have HG4 := Lib.hid hG4
            clear hG4 hb4 HR1 HA
            go_upto_region 18 with (go_at_call 13; (with_reducible refine HR2.out.mono ?_); rintro e w5 ⟨v5, rfl, hG5, hb5⟩)
            obtain ⟨xa, xc, hv5⟩ := hG5.slice
            rw [hv5] at hG5
            subst hv5
            have HA5 := Lib.hid (HA4.out.grew hb5)
            have HGL := Lib.hid (row_get (HG4.out.below hb5)).2
            have HGX := Lib.hid (row_get hG5).2
            have HL1 := Lib.hid (HA5.out.asks (Nat.le_refl _)).2.2.1
            have HL2 := Lib.hid (HA5.out.asks (Nat.le_refl _)).2.2.2.1
            clear hG5 hb5 HR2 HA4 HG4
            have n0 : ((D.length : Int) != (D.length : Int)) = false := by simp
            go_wp2_with (first
              | (go_at_call 20; (with_reducible refine HL1.out.mono ?_); rintro e w' ⟨rfl, rfl⟩)
              | (go_at_call 20; (with_reducible refine HL2.out.mono ?_); rintro e w' ⟨rfl, rfl⟩))
            go_loopg [13] D.length (fun gk v13 wr => ∃ i : Nat, v13 = .int .i64 (i : Int) ∧ i + gk = D.length ∧ Hid (Below w5.heap.size w5 wr))
            case atStart => exact ⟨0, rfl, by omega, Lib.hid (Below.refl _ _)⟩
            case round =>
              obtain ⟨i, rfl, hi, HB⟩ := hrel
              by_cases hlt : i < D.length
              · obtain ⟨lb, rfl, k0, k1⟩ := HGL.out i hlt
                obtain ⟨xb, rfl, q0, q1⟩ := HGX.out i hlt
                have k0 := Grew.cell HB.out k0
                have k1 := Grew.cell HB.out k1
                have q0 := Grew.cell HB.out q0
                have q1 := Grew.cell HB.out q1
                have hil : (i : Int) < (D.length : Int) := by omega
                have di : decide ((i : Int) < (D.length : Int)) = true := decide_eq_true hil
                generalize D[i] = x at *
                have e0 : ((x.2 : Int) == x.2) = true := beq_self_eq_true _
                have e1 : ((x.2 : Int) != x.2) = false := by simp
                have s0 : ((bs x.1).toList == (bs x.1).toList) = true := beq_self_eq_true _
                go_upto_region 23 with (fail)
                go_quiet (fail)
                have HB6 := Lib.hid (HB.out.trans (drewN_below wr nq HB.out.size))
                go_wp2
                go_roundg (gk - 1)
                case rel => exact ⟨i + 1, by go_num, by omega, HB6⟩
                case measure => omega
              · obtain rfl : i = D.length := by omega
                have HBw := Lib.hid (HA5.out.below.trans (HB.out.mono HA5.out.below.size))
                go_wp2_with (go_at_call 14; (with_reducible refine (HAw.out _).mono ?_); rintro e w9 ⟨rfl, hb9⟩)
                go_ret
                exact ⟨rfl, HBw.out.trans (hb9.mono HBw.out.size)⟩
          · obtain ⟨i, rfl⟩ : ∃ i, gk = i + 1 := ⟨gk - 1, by omega⟩
            obtain rfl : z = (i : Int) := by have := HZ.out; omega
            have hiM : i < M := by omega
            have hiL : i < L.length := by omega
            have dz : (0 : Int) ≤ (i : Int) := by omega
            have hil : (i : Int) < (L.length : Int) := by omega
            have wi : IntKind.i64.wrap ((i : Int) - 1) = (i : Int) - 1 := IntWalk.i64_in _ (by omega)
            have wy1 : -2 < bY.tmod 2 := by have := Int.lt_tmod_of_pos bY (show (0 : Int) < 2 by omega); omega
            have wy2 : bY.tmod 2 < 2 := Int.tmod_lt_of_pos bY (by omega)
            have wy : IntKind.i64.wrap (bY.tmod 2) = bY.tmod 2 := IntWalk.i64_in _ (by omega)
            by_cases hp : bY.tmod 2 = 0
            · obtain ⟨kx, hkx⟩ : ∃ kx, kx = (i * 7 + M / 2) % M := ⟨_, rfl⟩
              have hkM : kx < M := by rw [hkx]; exact Nat.mod_lt _ (by omega)
              have hkL : kx < L.length := by omega
              have e1 : IntKind.i64.wrap ((i : Int) * 7) = (i : Int) * 7 := IntWalk.i64_in _ (by omega)
              have e2 : (M : Int).tdiv 2 = ((M / 2 : Nat) : Int) := tdiv2 M
              have e4 : ((i : Int) * 7 + ((M / 2 : Nat) : Int)).tmod (M : Int) = (kx : Int) := by rw [hkx, ← tmodN]; congr 1
              have hqd : M / 2 ≤ 200 := by omega
              generalize M / 2 = qd at *
              have e3 : IntKind.i64.wrap ((i : Int) * 7 + (qd : Int)) = (i : Int) * 7 + (qd : Int) := IntWalk.i64_in _ (by omega)
              have e6 : IntKind.i64.wrap (qd : Int) = (qd : Int) := IntWalk.i64_in _ (by omega)
              have hM0 : ¬ (M : Int) = 0 := by omega
              have hM0' : ((M : Int) == 0) = false := beq_eq_false_iff_ne.2 hM0
              have e5 : IntKind.i64.wrap (kx : Int) = (kx : Int) := IntWalk.i64_in _ (by omega)
              have dk : (0 : Int) ≤ (kx : Int) := by omega
              have hkl : (kx : Int) < (L.length : Int) := by omega
              clear hkx
              obtain ⟨b, off, rfl, c0⟩ := strs_get HO.out kx hkL
              obtain ⟨b', off', ha', c1⟩ := strs_get HO.out i hiL
              simp only [Option.some.injEq, Addr.mk.injEq, and_true] at ha'
              obtain ⟨rfl, rfl⟩ := ha'
              unfold str at c0 c1
              have HTs := Lib.hid (tail_step HC.out.2 hiL hkL hiM hkM)
              have HC1 := Lib.hid HC.out.1
              have HS1 := Lib.hid ((HC1.out.grew (Below.refl _ wr).drew).right L[kx] ((bs L[kx]).size : Int) (by omega))
              generalize L[kx] = x at *
              generalize L[i] = y at *
              have HK1 := Lib.hid c1
              have c0 := Grew.cell HC1.out.below c0
              clear c1 HC HZ
              go_upto_region 14 with (fail)
              go_region_with (go_at_call 21; (with_reducible refine HS1.out.mono ?_); rintro e w3 ⟨⟨x0, y0, rfl⟩, hA3⟩)
              all_goals
                have c1 := Grew.cell hA3.below HK1.out
                have HA3 := Lib.hid hA3
                clear hA3 c0
                have HS2 := Lib.hid ((HA3.out.grew (Below.refl _ w3).drew).right y ((bs y).size : Int) (by omega))
                go_wp2_with (fail)
                go_region_with (go_at_call 21; (with_reducible refine HS2.out.mono ?_); rintro e w4 ⟨⟨x1, y1, rfl⟩, hA4⟩)
                all_goals
                  have HA4 := Lib.hid hA4
                  clear hA4 c1
                  go_wp2
                  go_roundg i
                  case rel => exact ⟨(i : Int) - 1, _, rfl, Lib.hid rfl, by omega, Lib.hid ⟨by rw [show 2 * (M - i) = 2 * (M - (i + 1)) + 1 + 1 by omega]; exact HA4.out, HTs.out⟩⟩
                  case measure => omega
            · have hkM : i < M := hiM
              have hkL : i < L.length := hiL
              obtain ⟨b, off, rfl, c0⟩ := strs_get HO.out i hkL
              obtain ⟨b', off', ha', c1⟩ := strs_get HO.out i hiL
              simp only [Option.some.injEq, Addr.mk.injEq, and_true] at ha'
              obtain ⟨rfl, rfl⟩ := ha'
              unfold str at c0 c1
              have HTs := Lib.hid (tail_step HC.out.2 hiL hkL hiM hkM)
              have HC1 := Lib.hid HC.out.1
              have HS1 := Lib.hid ((HC1.out.grew (Below.refl _ wr).drew).right L[i] ((bs L[i]).size : Int) (by omega))
              generalize L[i] = y at *
              have HK1 := Lib.hid c1
              have c0 := Grew.cell HC1.out.below c0
              clear c1 HC HZ
              go_upto_region 14 with (fail)
              go_region_with (go_at_call 21; (with_reducible refine HS1.out.mono ?_); rintro e w3 ⟨⟨x0, y0, rfl⟩, hA3⟩)
              all_goals
                have c1 := Grew.cell hA3.below HK1.out
                have HA3 := Lib.hid hA3
                clear hA3 c0
                have HS2 := Lib.hid ((HA3.out.grew (Below.refl _ w3).drew).right y ((bs y).size : Int) (by omega))
                go_wp2_with (fail)
                go_region_with (go_at_call 21; (with_reducible refine HS2.out.mono ?_); rintro e w4 ⟨⟨x1, y1, rfl⟩, hA4⟩)
                all_goals
                  have HA4 := Lib.hid hA4
                  clear hA4 c1
                  go_wp2
                  go_roundg i
                  case rel => exact ⟨(i : Int) - 1, _, rfl, Lib.hid rfl, by omega, Lib.hid ⟨by rw [show 2 * (M - i) = 2 * (M - (i + 1)) + 1 + 1 by omega]; exact HA4.out, HTs.out⟩⟩
                  case measure => omega
      · obtain ⟨h0, h2⟩ := h0
        have h1 : ¬ (M : Int) < 200 := by omega
        have h3 : (200 : Int) < (L.length : Int) := by omega
        have h4 : (M : Int) < (L.length : Int) := by omega
        have H200 := Lib.hid h0
        clear h0 h2 HM
        go_wp2
        go_loopg [9] M (fun gk v9 wr => ∃ (z : Int) (C : List Pr), v9 = .int .i64 z ∧ Hid (z = (gk : Int) - 1) ∧ gk ≤ M ∧ Hid (AnyAt w g1 g2 200 (2 * (M - gk)) (firstC L M) C wr ∧ TailOk L M gk C))
        case atStart => exact ⟨_, [], rfl, Lib.hid (by have := H200.out; omega), Nat.le_refl _, Lib.hid ⟨by rw [Nat.sub_self]; exact HA2.out, HTl.out⟩⟩
        case round =>
          obtain ⟨z, C, rfl, HZ, hgM, HC⟩ := hrel
          clear HA2 HTl
          rcases Nat.eq_zero_or_pos gk with hz | hpos
          · subst hz
            obtain rfl : z = -1 := by have := HZ.out; omega
            have hC : C = firstC L M := tail_end HC.out.2 hM1
            have HA := Lib.hid (show AnyAt w g1 g2 200 (2 * (M - 0)) (firstC L M) (firstC L M) wr by have := HC.out.1; rw [hC] at this; exact this)
            clear hC HC HZ
            generalize firstC L M = D at *
            have hDl := (HA.out.asks (Nat.le_refl _)).2.2.2.2
            have HR1 := (HA.out.asks (Nat.le_refl _)).1
            unfold AllRange at HR1
            have HR1 := Lib.hid HR1
            go_upto_region 17 with (go_at_call 13; (with_reducible refine HR1.out.mono ?_); rintro e w4 ⟨v4, rfl, hG4, hb4⟩)
            obtain ⟨la, lc, hv4⟩ := hG4.slice
            rw [hv4] at hG4
            subst hv4
            have HA4 := Lib.hid (HA.out.grew hb4)
            have HR2 := (HA4.out.asks (Nat.le_refl _)).2.1
            unfold AllRange at HR2
            have HR2 := Lib.hid HR2
            have HG4 := Lib.hid hG4
            clear hG4 hb4 HR1 HA
            go_upto_region 18 with (go_at_call 13; (with_reducible refine HR2.out.mono ?_); rintro e w5 ⟨v5, rfl, hG5, hb5⟩)
            obtain ⟨xa, xc, hv5⟩ := hG5.slice
            rw [hv5] at hG5
            subst hv5
            have HA5 := Lib.hid (HA4.out.grew hb5)
            have HGL := Lib.hid (row_get (HG4.out.below hb5)).2
            have HGX := Lib.hid (row_get hG5).2
            have HL1 := Lib.hid (HA5.out.asks (Nat.le_refl _)).2.2.1
            have HL2 := Lib.hid (HA5.out.asks (Nat.le_refl _)).2.2.2.1
            clear hG5 hb5 HR2 HA4 HG4
            have n0 : ((D.length : Int) != (D.length : Int)) = false := by simp
            go_wp2_with (first
              | (go_at_call 20; (with_reducible refine HL1.out.mono ?_); rintro e w' ⟨rfl, rfl⟩)
              | (go_at_call 20; (with_reducible refine HL2.out.mono ?_); rintro e w' ⟨rfl, rfl⟩))
            go_loopg [13] D.length (fun gk v13 wr => ∃ i : Nat, v13 = .int .i64 (i : Int) ∧ i + gk = D.length ∧ Hid (Below w5.heap.size w5 wr))
            case atStart => exact ⟨0, rfl, by omega, Lib.hid (Below.refl _ _)⟩
            case round =>
              obtain ⟨i, rfl, hi, HB⟩ := hrel
              by_cases hlt : i < D.length
              · obtain ⟨lb, rfl, k0, k1⟩ := HGL.out i hlt
                obtain ⟨xb, rfl, q0, q1⟩ := HGX.out i hlt
                have k0 := Grew.cell HB.out k0
                have k1 := Grew.cell HB.out k1
                have q0 := Grew.cell HB.out q0
                have q1 := Grew.cell HB.out q1
                have hil : (i : Int) < (D.length : Int) := by omega
                have di : decide ((i : Int) < (D.length : Int)) = true := decide_eq_true hil
                generalize D[i] = x at *
                have e0 : ((x.2 : Int) == x.2) = true := beq_self_eq_true _
                have e1 : ((x.2 : Int) != x.2) = false := by simp
                have s0 : ((bs x.1).toList == (bs x.1).toList) = true := beq_self_eq_true _
                go_upto_region 23 with (fail)
                go_quiet (fail)
                have HB6 := Lib.hid (HB.out.trans (drewN_below wr nq HB.out.size))
                go_wp2
                go_roundg (gk - 1)
                case rel => exact ⟨i + 1, by go_num, by omega, HB6⟩
                case measure => omega
              · obtain rfl : i = D.length := by omega
                have HBw := Lib.hid (HA5.out.below.trans (HB.out.mono HA5.out.below.size))
                go_wp2_with (go_at_call 14; (with_reducible refine (HAw.out _).mono ?_); rintro e w9 ⟨rfl, hb9⟩)
                go_ret
                exact ⟨rfl, HBw.out.trans (hb9.mono HBw.out.size)⟩
          · obtain ⟨i, rfl⟩ : ∃ i, gk = i + 1 := ⟨gk - 1, by omega⟩
            obtain rfl : z = (i : Int) := by have := HZ.out; omega
            have hiM : i < M := by omega
            have hiL : i < L.length := by omega
            have dz : (0 : Int) ≤ (i : Int) := by omega
            have hil : (i : Int) < (L.length : Int) := by omega
            have wi : IntKind.i64.wrap ((i : Int) - 1) = (i : Int) - 1 := IntWalk.i64_in _ (by omega)
            have wy1 : -2 < bY.tmod 2 := by have := Int.lt_tmod_of_pos bY (show (0 : Int) < 2 by omega); omega
            have wy2 : bY.tmod 2 < 2 := Int.tmod_lt_of_pos bY (by omega)
            have wy : IntKind.i64.wrap (bY.tmod 2) = bY.tmod 2 := IntWalk.i64_in _ (by omega)
            by_cases hp : bY.tmod 2 = 0
            · obtain ⟨kx, hkx⟩ : ∃ kx, kx = (i * 7 + M / 2) % M := ⟨_, rfl⟩
              have hkM : kx < M := by rw [hkx]; exact Nat.mod_lt _ (by omega)
              have hkL : kx < L.length := by omega
              have e1 : IntKind.i64.wrap ((i : Int) * 7) = (i : Int) * 7 := IntWalk.i64_in _ (by omega)
              have e4 : ((i : Int) * 7 + 100).tmod 200 = (kx : Int) := by
                have h5 := H200.out
                rw [hkx, ← tmodN, h5]
                congr 1
              have e3 : IntKind.i64.wrap ((i : Int) * 7 + 100) = (i : Int) * 7 + 100 := IntWalk.i64_in _ (by omega)
              have e5 : IntKind.i64.wrap (kx : Int) = (kx : Int) := IntWalk.i64_in _ (by omega)
              have dk : (0 : Int) ≤ (kx : Int) := by omega
              have hkl : (kx : Int) < (L.length : Int) := by omega
              clear hkx
              obtain ⟨b, off, rfl, c0⟩ := strs_get HO.out kx hkL
              obtain ⟨b', off', ha', c1⟩ := strs_get HO.out i hiL
              simp only [Option.some.injEq, Addr.mk.injEq, and_true] at ha'
              obtain ⟨rfl, rfl⟩ := ha'
              unfold str at c0 c1
              have HTs := Lib.hid (tail_step HC.out.2 hiL hkL hiM hkM)
              have HC1 := Lib.hid HC.out.1
              have HS1 := Lib.hid ((HC1.out.grew (Below.refl _ wr).drew).right L[kx] ((bs L[kx]).size : Int) (by omega))
              generalize L[kx] = x at *
              generalize L[i] = y at *
              have HK1 := Lib.hid c1
              have c0 := Grew.cell HC1.out.below c0
              clear c1 HC HZ
              go_upto_region 14 with (fail)
              go_region_with (go_at_call 21; (with_reducible refine HS1.out.mono ?_); rintro e w3 ⟨⟨x0, y0, rfl⟩, hA3⟩)
              all_goals
                have c1 := Grew.cell hA3.below HK1.out
                have HA3 := Lib.hid hA3
                clear hA3 c0
                have HS2 := Lib.hid ((HA3.out.grew (Below.refl _ w3).drew).right y ((bs y).size : Int) (by omega))
                go_wp2_with (fail)
                go_region_with (go_at_call 21; (with_reducible refine HS2.out.mono ?_); rintro e w4 ⟨⟨x1, y1, rfl⟩, hA4⟩)
                all_goals
                  have HA4 := Lib.hid hA4
                  clear hA4 c1
                  go_wp2
                  go_roundg i
                  case rel => exact ⟨(i : Int) - 1, _, rfl, Lib.hid rfl, by omega, Lib.hid ⟨by rw [show 2 * (M - i) = 2 * (M - (i + 1)) + 1 + 1 by omega]; exact HA4.out, HTs.out⟩⟩
                  case measure => omega
            · have hkM : i < M := hiM
              have hkL : i < L.length := hiL
              obtain ⟨b, off, rfl, c0⟩ := strs_get HO.out i hkL
              obtain ⟨b', off', ha', c1⟩ := strs_get HO.out i hiL
              simp only [Option.some.injEq, Addr.mk.injEq, and_true] at ha'
              obtain ⟨rfl, rfl⟩ := ha'
              unfold str at c0 c1
              have HTs := Lib.hid (tail_step HC.out.2 hiL hkL hiM hkM)
              have HC1 := Lib.hid HC.out.1
              have HS1 := Lib.hid ((HC1.out.grew (Below.refl _ wr).drew).right L[i] ((bs L[i]).size : Int) (by omega))
              generalize L[i] = y at *
              have HK1 := Lib.hid c1
              have c0 := Grew.cell HC1.out.below c0
              clear c1 HC HZ
              go_upto_region 14 with (fail)
              go_region_with (go_at_call 21; (with_reducible refine HS1.out.mono ?_); rintro e w3 ⟨⟨x0, y0, rfl⟩, hA3⟩)
              all_goals
                have c1 := Grew.cell hA3.below HK1.out
                have HA3 := Lib.hid hA3
                clear hA3 c0
                have HS2 := Lib.hid ((HA3.out.grew (Below.refl _ w3).drew).right y ((bs y).size : Int) (by omega))
                go_wp2_with (fail)
                go_region_with (go_at_call 21; (with_reducible refine HS2.out.mono ?_); rintro e w4 ⟨⟨x1, y1, rfl⟩, hA4⟩)
                all_goals
                  have HA4 := Lib.hid hA4
                  clear hA4 c1
                  go_wp2
                  go_roundg i
                  case rel => exact ⟨(i : Int) - 1, _, rfl, Lib.hid rfl, by omega, Lib.hid ⟨by rw [show 2 * (M - i) = 2 * (M - (i + 1)) + 1 + 1 by omega]; exact HA4.out, HTs.out⟩⟩
                  case measure => omega
/-- THE LAW IndexAny. -/
theorem indexAny_walk (W : World) (v : Value) (n : Int) (h : IsStrs W v) (_ : (Lit.int .i64 n).wf = true) : Calls Try.prog 7 #[v, .int .i64 n] W fun e w' => e = .returned (.bool true) ∧ Below W.heap.size W w' := by
  obtain ⟨L, a, cap, rfl, l1, l2, hL, _⟩ := h
  unfold maxLen at l2
  exact any_law L a cap n W (by omega) hL
end Go.Proofs.Yteoibolompiohaa
