/- The walks of the reference's value, bytes, one, Unquote. Conditions: as each theorem says. -/
import Derived.Test.YtmiloedhhnknpaaDoorNamR
namespace Go.Proofs.YtmiloedhhnknpaaDoor
open Go.RowKit

def vOf (c : UInt8) : Int := if 48 ≤ c.toNat ∧ c.toNat ≤ 57 then (c.toNat : Int) - 48 else if 97 ≤ c.toNat ∧ c.toNat ≤ 102 then (c.toNat : Int) - 87 else -1
theorem vOf_rng (c : UInt8) : -1 ≤ vOf c ∧ vOf c ≤ 15 := by
  unfold vOf
  split
  · omega
  · split
    · omega
    · omega
set_option maxRecDepth 100000 in
theorem value_any (c : UInt8) (w : World) : Calls Tryd.prog 42 #[.int .u8 (c.toNat : Int)] w fun e w' => e = .returned (.int .i64 (vOf c)) ∧ w = w' := by
  have HV : Hid (vOf c = if 48 ≤ c.toNat ∧ c.toNat ≤ 57 then (c.toNat : Int) - 48 else if 97 ≤ c.toNat ∧ c.toNat ≤ 102 then (c.toNat : Int) - 87 else -1) := by show _ = _; rfl
  generalize vOf c = V at *
  have hc := UInt8.toNat_lt c
  generalize c.toNat = n at *
  have hn : (n : Int) < 256 := by omega
  by_cases h1 : 48 ≤ n
  · have t1 : decide (48 ≤ (n : Int)) = true := decide_eq_true (by omega)
    by_cases h2 : n ≤ 57
    · as_aux_lemma =>
      have t2 : decide ((n : Int) ≤ 57) = true := decide_eq_true (by omega)
      rw [if_pos ⟨h1, h2⟩] at HV
      go_enter Tryd.func42, Tryd.ntmps42
      go_wp2
      go_ret
      exact ⟨by rw [HV.out]; rfl, rfl⟩
    have t2 : decide ((n : Int) ≤ 57) = false := decide_eq_false (by omega)
    rw [if_neg (fun h => h2 h.2)] at HV
    by_cases h3 : 97 ≤ n
    · have t3 : decide (97 ≤ (n : Int)) = true := decide_eq_true (by omega)
      by_cases h4 : n ≤ 102
      · as_aux_lemma =>
        have t4 : decide ((n : Int) ≤ 102) = true := decide_eq_true (by omega)
        rw [if_pos ⟨h3, h4⟩] at HV
        go_enter Tryd.func42, Tryd.ntmps42
        go_wp2
        go_ret
        exact ⟨by rw [HV.out]; exact congrArg (fun z => Ending.returned (Value.int .i64 z)) (by omega), rfl⟩
      · as_aux_lemma =>
        have t4 : decide ((n : Int) ≤ 102) = false := decide_eq_false (by omega)
        rw [if_neg (fun h => h4 h.2)] at HV
        go_enter Tryd.func42, Tryd.ntmps42
        go_wp2
        go_ret
        exact ⟨by rw [HV.out]; rfl, rfl⟩
    · as_aux_lemma =>
      have t3 : decide (97 ≤ (n : Int)) = false := decide_eq_false (by omega)
      rw [if_neg (fun h => h3 h.1)] at HV
      go_enter Tryd.func42, Tryd.ntmps42
      go_wp2
      go_ret
      exact ⟨by rw [HV.out]; rfl, rfl⟩
  · as_aux_lemma =>
    have t1 : decide (48 ≤ (n : Int)) = false := decide_eq_false (by omega)
    have t3 : decide (97 ≤ (n : Int)) = false := decide_eq_false (by omega)
    rw [if_neg (fun h => h1 h.1), if_neg (fun h => by omega)] at HV
    go_enter Tryd.func42, Tryd.ntmps42
    go_wp2
    go_ret
    exact ⟨by rw [HV.out]; rfl, rfl⟩

/-- A rune's bytes, as the reference lays them (a surrogate's half too). -/
def bytL (n : Nat) : List Nat := if n < 128 then [n] else if n < 2048 then [192 + n / 64, 128 + n % 64] else if n < 65536 then [224 + n / 4096, 128 + n / 64 % 64, 128 + n % 64] else [240 + n / 262144, 128 + n / 4096 % 64, 128 + n / 64 % 64, 128 + n % 64]
def bytS (n : Nat) : List UInt8 := (bytL n).map UInt8.ofNat
theorem convN (w : World) (xs : List Nat) (hx : ∀ x ∈ xs, x < 256) (o : Obj) (ho : o = Obj.cells (xs.map fun n : Nat => Value.int .u8 (n : Int)).toArray 5 (0, 0)) (k : Nat) (hk : k = xs.length) :
    (convert 32 9 (.slice (some ⟨w.heap.size, 0, none⟩) k k)).run Tryd.prog (w.alloc o) = .ok (.string (bs (xs.map UInt8.ofNat))) (w.alloc o) := by
  subst ho hk
  have h := run_convert_bytes_back (P := Tryd.prog) (w.alloc (.cells (xs.map fun n : Nat => Value.int .u8 (n : Int)).toArray 5)) 32 9 5 ⟨w.heap.size, 0, none⟩ xs.length (xs.map UInt8.ofNat) Tryd.underlying32 Tryd.underlying5 Tryd.underlying9 (fun j hj => by
    have ha : (⟨w.heap.size, 0, none⟩ : Addr).add j = ⟨w.heap.size, j, none⟩ := by unfold Addr.add; split <;> simp_all
    rw [ha, World.cell?_alloc_at _ _ _ _ rfl]
    have hj' : j < xs.length := by simpa using hj
    simp only [List.getElem_map]
    rw [u8_ofNat _ (hx _ (List.getElem_mem hj'))]
    simp [hj'])
  rw [List.length_map] at h
  exact h
theorem orN (m x k : Nat) (hm : m % 2 ^ k = 0) (hx : x < 2 ^ k) (h : m + x < 9223372036854775808) : bits .or .i64 (m : Int) (x : Int) = ((m + x : Nat) : Int) := by
  have := or_shift (m / 2 ^ k) x k hx (by rw [Nat.div_mul_cancel (Nat.dvd_of_mod_eq_zero hm)]; omega) (by omega)
  rw [Nat.div_mul_cancel (Nat.dvd_of_mod_eq_zero hm)] at this
  exact this
theorem and63 (x : Nat) (h : x < 9223372036854775808) : bits .and .i64 (x : Int) 63 = ((x % 64 : Nat) : Int) := and_mask x 6 63 rfl (by omega) h
set_option maxRecDepth 100000 in
set_option maxHeartbeats 2000000 in
theorem bytes_any (n : Nat) (hn : n ≤ 1114111) (w : World) : Calls Tryd.prog 43 #[.int .i64 (n : Int)] w fun e w' => e = .returned (.string (bs (bytS n))) ∧ Below w.heap.size w w' := by
  have HB : Hid (bytS n = (bytL n).map UInt8.ofNat) := by show _ = _; rfl
  generalize bytS n = R at *
  unfold bytL at HB
  have hn' : (n : Int) ≤ 1114111 := by omega
  by_cases h1 : n < 128
  · as_aux_lemma =>
    rw [if_pos h1] at HB
    have t1 : decide ((n : Int) < 128) = true := decide_eq_true (by omega)
    have hcv := convN w [n] (by intro x hx; simp at hx; omega) _ rfl 1 rfl
    simp only [List.map_cons, List.map_nil] at hcv
    go_enter Tryd.func43, Tryd.ntmps43
    go_wp2
    go_ret
    exact ⟨by rw [HB.out]; rfl, alloc_below _ _⟩
  have t1 : decide ((n : Int) < 128) = false := decide_eq_false (by omega)
  rw [if_neg h1] at HB
  have a0 := and63 n (by omega)
  have o0 : bits .or .i64 128 ((n % 64 : Nat) : Int) = ((128 + n % 64 : Nat) : Int) := orN 128 (n % 64) 7 rfl (by omega) (by omega)
  have l0 : 128 + n % 64 < 256 := by omega
  by_cases h2 : n < 2048
  · as_aux_lemma =>
    rw [if_pos h2] at HB
    have t2 : decide ((n : Int) < 2048) = true := decide_eq_true (by omega)
    have o1 : bits .or .i64 192 ((n / 64 : Nat) : Int) = ((192 + n / 64 : Nat) : Int) := orN 192 (n / 64) 6 rfl (by omega) (by omega)
    have hcv := convN w [192 + n / 64, 128 + n % 64] (by intro x hx; simp at hx; omega) _ rfl 2 rfl
    simp only [List.map_cons, List.map_nil] at hcv HB
    rw [show ((n / 64 : Nat) : Int) = (n : Int) / 64 by omega] at o1
    have l1 : 192 + n / 64 < 256 := by omega
    generalize 192 + n / 64 = A1 at *
    generalize 128 + n % 64 = A2 at *
    generalize n % 64 = B2 at *
    have l1' : (A1 : Int) < 256 := by omega
    have l2' : (A2 : Int) < 256 := by omega
    go_enter Tryd.func43, Tryd.ntmps43
    go_wp2
    go_ret
    exact ⟨by rw [HB.out]; rfl, alloc_below _ _⟩
  have t2 : decide ((n : Int) < 2048) = false := decide_eq_false (by omega)
  rw [if_neg h2] at HB
  have a6 := and63 (n / 64) (by omega)
  rw [show ((n / 64 : Nat) : Int) = (n : Int) / 64 by omega] at a6
  have o6 : bits .or .i64 128 ((n / 64 % 64 : Nat) : Int) = ((128 + n / 64 % 64 : Nat) : Int) := orN 128 (n / 64 % 64) 7 rfl (by omega) (by omega)
  have l6 : 128 + n / 64 % 64 < 256 := by omega
  by_cases h3 : n < 65536
  · as_aux_lemma =>
    rw [if_pos h3] at HB
    have t3 : decide ((n : Int) < 65536) = true := decide_eq_true (by omega)
    have o1 : bits .or .i64 224 ((n / 4096 : Nat) : Int) = ((224 + n / 4096 : Nat) : Int) := orN 224 (n / 4096) 5 rfl (by omega) (by omega)
    have hcv := convN w [224 + n / 4096, 128 + n / 64 % 64, 128 + n % 64] (by intro x hx; simp at hx; omega) _ rfl 3 rfl
    simp only [List.map_cons, List.map_nil] at hcv HB
    rw [show ((n / 4096 : Nat) : Int) = (n : Int) / 4096 by omega] at o1
    have l1 : 224 + n / 4096 < 256 := by omega
    generalize 224 + n / 4096 = A1 at *
    generalize 128 + n / 64 % 64 = A3 at *
    generalize n / 64 % 64 = B3 at *
    generalize 128 + n % 64 = A2 at *
    generalize n % 64 = B2 at *
    have l1' : (A1 : Int) < 256 := by omega
    have l2' : (A2 : Int) < 256 := by omega
    have l3' : (A3 : Int) < 256 := by omega
    go_enter Tryd.func43, Tryd.ntmps43
    go_wp2
    go_ret
    exact ⟨by rw [HB.out]; rfl, alloc_below _ _⟩
  · as_aux_lemma =>
    rw [if_neg h3] at HB
    have t3 : decide ((n : Int) < 65536) = false := decide_eq_false (by omega)
    have a12 := and63 (n / 4096) (by omega)
    rw [show ((n / 4096 : Nat) : Int) = (n : Int) / 4096 by omega] at a12
    have o12 : bits .or .i64 128 ((n / 4096 % 64 : Nat) : Int) = ((128 + n / 4096 % 64 : Nat) : Int) := orN 128 (n / 4096 % 64) 7 rfl (by omega) (by omega)
    have l12 : 128 + n / 4096 % 64 < 256 := by omega
    have o1 : bits .or .i64 240 ((n / 262144 : Nat) : Int) = ((240 + n / 262144 : Nat) : Int) := orN 240 (n / 262144) 4 rfl (by omega) (by omega)
    have hcv := convN w [240 + n / 262144, 128 + n / 4096 % 64, 128 + n / 64 % 64, 128 + n % 64] (by intro x hx; simp at hx; omega) _ rfl 4 rfl
    simp only [List.map_cons, List.map_nil] at hcv HB
    rw [show ((n / 262144 : Nat) : Int) = (n : Int) / 262144 by omega] at o1
    have l1 : 240 + n / 262144 < 256 := by omega
    generalize 240 + n / 262144 = A1 at *
    generalize 128 + n / 4096 % 64 = A4 at *
    generalize n / 4096 % 64 = B4 at *
    generalize 128 + n / 64 % 64 = A3 at *
    generalize n / 64 % 64 = B3 at *
    generalize 128 + n % 64 = A2 at *
    generalize n % 64 = B2 at *
    have l1' : (A1 : Int) < 256 := by omega
    have l2' : (A2 : Int) < 256 := by omega
    have l3' : (A3 : Int) < 256 := by omega
    have l4' : (A4 : Int) < 256 := by omega
    go_enter Tryd.func43, Tryd.ntmps43
    go_wp2
    go_ret
    exact ⟨by rw [HB.out]; rfl, alloc_below _ _⟩

def digF (l : List UInt8) : Nat → Nat → Nat → Nat × Nat
  | 0, i, n => (n, i)
  | f + 1, i, n => if i < l.length ∧ i < 10 ∧ (0 : Int) ≤ vOf (l.getD i 0) then digF l f (i + 1) (16 * n + (vOf (l.getD i 0)).toNat) else (n, i)
def oneP (l : List UInt8) : List UInt8 × Nat :=
  if l.getD 0 0 ≠ 92 then (l.take 1, 1)
  else if 4 ≤ l.length ∧ l.getD 1 0 = 120 ∧ (0 : Int) ≤ vOf (l.getD 2 0) ∧ (0 : Int) ≤ vOf (l.getD 3 0) then ([UInt8.ofNat ((16 : Int) * vOf (l.getD 2 0) + vOf (l.getD 3 0)).toNat], 4)
  else if l.length < 5 ∨ (l.drop 1).take 2 ≠ [117, 123] then ([], 0)
  else if l.length ≤ (digF l 7 3 0).2 ∨ l.getD (digF l 7 3 0).2 0 ≠ 125 ∨ 1114111 < (digF l 7 3 0).1 then ([], 0)
  else (bytS (digF l 7 3 0).1, (digF l 7 3 0).2 + 1)
theorem digF_end (l : List UInt8) (f i n : Nat) (h : ¬ (i < l.length ∧ i < 10 ∧ (0 : Int) ≤ vOf (l.getD i 0))) : digF l f i n = (n, i) := by
  cases f with
  | zero => rfl
  | succ f => rw [digF, if_neg h]
theorem digF_on (l : List UInt8) (f i n : Nat) (h : i < l.length ∧ i < 10 ∧ (0 : Int) ≤ vOf (l.getD i 0)) : digF l (f + 1) i n = digF l f (i + 1) (16 * n + (vOf (l.getD i 0)).toNat) := by rw [digF, if_pos h]
def OneSaid (p : List UInt8 × Nat) (w : World) (e : Ending) (w' : World) : Prop := e = .returned (.tuple #[.string (bs p.1), .int .i64 (p.2 : Int)]) ∧ Below w.heap.size w w'
theorem neg_get (s : ByteArray) (k : Nat) (h : k < s.size) (n : UInt8) (m : Nat) (hm : n.toNat = m) : (s.data.toList.getD k 0 = n) ↔ s[k].toNat = m := by
  rw [getD_at s k h]
  subst hm
  exact ⟨fun h => by rw [h], fun h => UInt8.toNat_inj.1 h⟩

set_option maxRecDepth 1000000 in
set_option maxHeartbeats 2000000 in
theorem one_0 (s : ByteArray) (w : World) (hp : 0 < s.size) (hs : s.size ≤ 1000000) (h : s[0].toNat ≠ 92) : Calls Tryd.prog 32 #[.string s] w fun e w' => OneSaid (oneP s.data.toList) w e w' := by
  have hR : Hid (oneP s.data.toList = (s.data.toList.take 1, 1)) := by
    show _ = _
    unfold oneP
    rw [if_pos]
    intro h2
    exact h ((neg_get s 0 hp 92 92 rfl).1 h2)
  have HX : Hid (bs (s.data.toList.take 1) = s.extract 0 1) := by show _ = _; rw [← bs_of (s.extract 0 1), ex_take]; rfl
  have t1 : ((s[0].toNat : Int) != 92) = true := by rw [bne_iff_ne]; omega
  have hp1 : (1 : Int) ≤ (s.size : Int) := by omega
  generalize oneP s.data.toList = R at *
  clear h
  go_enter Tryd.func32, Tryd.ntmps32
  go_wp2
  go_ret2
  exact ⟨by rw [hR.out]; simp only; rw [HX.out]; rfl, Below.refl _ _⟩
theorem convD (w : World) (n : Nat) (h : n < 256) (o : Obj) (ho : o = Obj.cells #[.int .u8 (n : Int)] 5 (0, 0)) :
    (convert 32 9 (.slice (some ⟨w.heap.size, 0, none⟩) 1 1)).run Tryd.prog (w.alloc o).drew = .ok (.string (bs [UInt8.ofNat n])) (w.alloc o).drew := by
  subst ho
  exact run_convert_bytes_back (P := Tryd.prog) (w.alloc (.cells #[.int .u8 (n : Int)] 5)).drew 32 9 5 ⟨w.heap.size, 0, none⟩ 1 [UInt8.ofNat n] Tryd.underlying32 Tryd.underlying5 Tryd.underlying9 (fun j hj => by
    have hj0 : j = 0 := by simpa using hj
    subst hj0
    show (w.alloc _).cell? ⟨w.heap.size, 0, none⟩ = _
    rw [World.cell?_alloc_at _ _ _ _ rfl]
    show some (Value.int .u8 _) = some (Value.int .u8 ((UInt8.ofNat n).toNat : Int))
    rw [u8_ofNat n (by omega)])
set_option maxRecDepth 1000000 in
set_option maxHeartbeats 2000000 in
theorem one_x (s : ByteArray) (w : World) (hp : 4 ≤ s.size) (hs : s.size ≤ 1000000) (h : s[0].toNat = 92) (h1 : s[1].toNat = 120) (h2 : (0 : Int) ≤ vOf s[2]) (h3 : (0 : Int) ≤ vOf s[3]) : Calls Tryd.prog 32 #[.string s] w fun e w' => OneSaid (oneP s.data.toList) w e w' := by
  have hR : Hid (oneP s.data.toList = ([UInt8.ofNat ((16 : Int) * vOf s[2] + vOf s[3]).toNat], 4)) := by
    show _ = _
    unfold oneP
    rw [if_neg (fun hh => hh ((neg_get s 0 (by omega) 92 92 rfl).2 h)), getD_at s 2 (by omega), getD_at s 3 (by omega), if_pos ⟨by rw [← Lib.size_eq]; exact hp, (neg_get s 1 (by omega) 120 120 rfl).2 h1, h2, h3⟩]
  have t1 : ((s[0].toNat : Int) != 92) = false := by simp; omega
  have t2 : decide (4 ≤ (s.size : Int)) = true := decide_eq_true (by omega)
  have t3 : ((s[1].toNat : Int) == 120) = true := by rw [beq_iff_eq]; omega
  have hp4 : (4 : Int) ≤ (s.size : Int) := by omega
  have HV2 := Lib.hid (fun X => value_any s[2] X)
  have HV3 := Lib.hid (fun X => value_any s[3] X)
  obtain ⟨_, r2⟩ := vOf_rng s[2]
  obtain ⟨_, r3⟩ := vOf_rng s[3]
  generalize oneP s.data.toList = R at *
  generalize vOf s[2] = V2 at *
  generalize vOf s[3] = V3 at *
  obtain ⟨a, rfl⟩ := Int.eq_ofNat_of_zero_le h2
  obtain ⟨b, rfl⟩ := Int.eq_ofNat_of_zero_le h3
  have t4 : decide (0 ≤ (a : Int)) = true := decide_eq_true h2
  have t5 : decide (0 ≤ (b : Int)) = true := decide_eq_true h3
  obtain ⟨P, hP⟩ : ∃ P, P = 16 * a := ⟨_, rfl⟩
  obtain ⟨U, hU⟩ : ∃ U, U = P + b := ⟨_, rfl⟩
  have hU2 : U < 256 := by omega
  have w1 : IntKind.i64.wrap (16 * (a : Int)) = (P : Int) := by rw [IntKind.wrap_i64]; omega
  have w2 : IntKind.i64.wrap ((P : Int) + (b : Int)) = (U : Int) := by rw [IntKind.wrap_i64]; omega
  have w3 : IntKind.u8.wrap (U : Int) = (U : Int) := by simp [IntKind.wrap, IntKind.signed, IntKind.bits]; omega
  have hR2 : Hid (R = ([UInt8.ofNat U], 4)) := by show _ = _; rw [hR.out, show ((16 : Int) * (a : Int) + (b : Int)).toNat = U by omega]
  have hcv := convD w U hU2 _ rfl
  have hcv2 := conv1b w U (by omega) _ rfl
  clear h h1 h2 h3 hP hU hR
  go_enter Tryd.func32, Tryd.ntmps32
  go_wp2_with (fail)
  refine (HV2.out _).mono ?_
  rintro e w1 ⟨rfl, rfl⟩
  go_wp2_with (fail)
  refine (HV3.out _).mono ?_
  rintro e w1 ⟨rfl, rfl⟩
  go_wp2_with (fail)
  go_region_with (first | (go_at_call 42; first | (with_reducible refine (HV2.out _).mono ?_; (rintro e w' ⟨rfl, rfl⟩)) | (with_reducible refine (HV3.out _).mono ?_; (rintro e w' ⟨rfl, rfl⟩))))
  all_goals go_wp2
  all_goals go_ret2
  all_goals exact ⟨by rw [hR2.out]; rfl, by first | exact alloc_below _ _ | exact (alloc_below w _).drew | exact below_drewN (alloc_below w _) _⟩
end Go.Proofs.YtmiloedhhnknpaaDoor
