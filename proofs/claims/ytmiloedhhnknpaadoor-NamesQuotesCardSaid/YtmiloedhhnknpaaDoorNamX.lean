/- Numbers to the base 16: strconv.FormatInt, and the reference's hex. Conditions: as each theorem says (FormatInt: the table deBruijn64tab as it was laid). -/
import Derived.Test.YtmiloedhhnknpaaDoorNamI
import Derived.Test.YtmiloedhhnknpaaDoorBlk
namespace Go.Proofs.YtmiloedhhnknpaaDoor
open Go.RowKit

def hexDigs : List UInt8 := [48, 49, 50, 51, 52, 53, 54, 55, 56, 57, 97, 98, 99, 100, 101, 102]
def dig (n : Nat) : UInt8 := hexDigs.getD n 0
def hexF : Nat → Nat → List UInt8
  | 0, n => [dig n]
  | f + 1, n => if n < 16 then [dig n] else hexF f (n / 16) ++ [dig (n % 16)]
def hexL (n : Nat) : List UInt8 := hexF n n
theorem hexF_any : ∀ (f g n : Nat), n ≤ f → n ≤ g → hexF f n = hexF g n
  | 0, 0, _, _, _ => rfl
  | 0, g + 1, n, h, _ => by
    obtain rfl : n = 0 := by omega
    rfl
  | f + 1, 0, n, _, h => by
    obtain rfl : n = 0 := by omega
    rfl
  | f + 1, g + 1, n, h, h' => by
    unfold hexF
    split
    · rfl
    · rw [hexF_any f g (n / 16) (by omega) (by omega)]
theorem hexL_lo (n : Nat) (h : n < 16) : hexL n = [dig n] := by
  unfold hexL
  cases n with
  | zero => rfl
  | succ n => rw [hexF, if_pos h]
theorem hexL_hi (n : Nat) (h : 16 ≤ n) : hexL n = hexL (n / 16) ++ [dig (n % 16)] := by
  unfold hexL
  obtain ⟨m, rfl⟩ : ∃ m, n = m + 1 := ⟨n - 1, by omega⟩
  rw [hexF, if_neg (by omega), hexF_any m ((m + 1) / 16) ((m + 1) / 16) (by omega) (by omega)]
theorem hexL_len (n : Nat) : ∀ d, n < 16 ^ d → 0 < d → (hexL n).length ≤ d := by
  intro d
  induction d generalizing n with
  | zero => intro _ h; omega
  | succ d ih =>
    intro h _
    by_cases hn : n < 16
    · rw [hexL_lo n hn]; simp
    · rw [hexL_hi n (by omega), List.length_append]
      have hd : 0 < d := by
        cases d with
        | zero => simp at h; omega
        | succ d => omega
      have := ih (n / 16) (by rw [Nat.pow_succ] at h; omega) hd
      simp; omega

set_option maxRecDepth 100000 in
theorem digit_any (n : Nat) (h : n < 16) (w : World) : Calls Tryd.prog 33 #[.int .i64 (n : Int)] w fun e w' => e = .returned (.string (bs [dig n])) ∧ w = w' := by
  have HE : Hid ((⟨#[48, 49, 50, 51, 52, 53, 54, 55, 56, 57, 97, 98, 99, 100, 101, 102]⟩ : ByteArray).extract n (n + 1) = bs [dig n]) := by
    show _ = _
    rw [Lib.extract_eq]
    have key : ∀ k : Fin 16, ((hexDigs.drop k.val).take (k.val + 1 - k.val)) = [dig k.val] := by decide +kernel
    exact congrArg bs (key ⟨n, h⟩)
  have hn : (n : Int) < 16 := by omega
  go_enter Tryd.func33, Tryd.ntmps33
  go_wp2
  go_ret
  exact ⟨by rw [← HE.out]; rfl, rfl⟩
set_option maxRecDepth 100000 in
theorem hex_any : ∀ (n : Nat) (_ : n ≤ 9223372036854775807) (w : World), Calls Tryd.prog 34 #[.int .i64 (n : Int)] w fun e w' => e = .returned (.string (bs (hexL n))) ∧ w = w' := by
  intro n
  induction n using Nat.strongRecOn with
  | ind n ih =>
    intro hmax w
    by_cases h : n < 16
    · as_aux_lemma =>
      rw [hexL_lo n h]
      have hd : decide ((n : Int) < 16) = true := decide_eq_true (by omega)
      have HD := Lib.hid (fun W => digit_any n h W)
      clear ih
      go_enter Tryd.func34, Tryd.ntmps34
      go_wp2_with (go_at_call 33; refine (HD.out _).mono ?_; rintro e w' ⟨rfl, rfl⟩)
      go_ret
      exact ⟨rfl, rfl⟩
    · as_aux_lemma =>
      have HX : Hid (bs (hexL n) = bs (hexL (n / 16)) ++ bs [dig (n % 16)]) := by show _ = _; rw [hexL_hi n (by omega), bs_append]
      have hd : decide ((n : Int) < 16) = false := decide_eq_false (by omega)
      have HD := Lib.hid (fun W => digit_any (n % 16) (by omega) W)
      have HI := Lib.hid (fun W => ih (n / 16) (by omega) (by omega) W)
      have hl := hexL_len (n / 16) 16 (by omega) (by omega)
      have hl1 : (bs (hexL (n / 16))).size ≤ 16 := by rw [bs_size]; exact hl
      have hl2 : (bs [dig (n % 16)]).size = 1 := rfl
      rw [show ((n / 16 : Nat) : Int) = (n : Int) / 16 from by omega] at HI
      rw [show ((n % 16 : Nat) : Int) = (n : Int) % 16 from by omega] at HD
      clear ih
      go_enter Tryd.func34, Tryd.ntmps34
      go_wp2_with (fail)
      refine (HI.out _).mono ?_
      rintro e w' ⟨rfl, rfl⟩
      go_wp2_with (fail)
      refine (HD.out _).mono ?_
      rintro e w' ⟨rfl, rfl⟩
      go_wp2
      go_ret
      exact ⟨by rw [HX.out]; rfl, rfl⟩

/-- The table of math/bits, so far as it is read here. -/
def DebAt (w : World) : Prop := w.cell? ⟨5, 15, none⟩ = some (.int .u8 4)
theorem DebAt.below {w w' : World} (h : DebAt w) (hb : Below w.heap.size w w') : DebAt w' := Grew.cell hb h
theorem tzKey : IntKind.u64.wrap (bits BinOp.and IntKind.u64 16 (IntKind.u64.wrap (-16)) * 285870213051353865) / 288230376151711744 = 15 := by decide +kernel
set_option maxRecDepth 100000 in
theorem tz64_any (w : World) (h : DebAt w) : Calls Tryd.prog 66 #[.int .u64 16] w fun e w' => e = .returned (.int .i64 4) ∧ w = w' := by
  unfold DebAt at h
  have hk := tzKey
  go_enter Tryd.func66, Tryd.ntmps66
  go_wp2
  go_ret
  exact ⟨rfl, rfl⟩
set_option maxRecDepth 100000 in
theorem tz_any (w : World) (h : DebAt w) : Calls Tryd.prog 58 #[.int .u64 16] w fun e w' => e = .returned (.int .i64 4) ∧ w = w' := by
  have HT := Lib.hid (tz64_any w h)
  go_enter Tryd.func58, Tryd.ntmps58
  go_wp2_with (fail)
  refine HT.out.mono ?_
  rintro e w' ⟨rfl, rfl⟩
  go_wp2
  go_ret
  exact ⟨rfl, rfl⟩
theorem powKey : bits BinOp.and IntKind.i64 16 15 = 0 := by decide +kernel
set_option maxRecDepth 100000 in
theorem pow2_any (w : World) : Calls Tryd.prog 57 #[.int .i64 16] w fun e w' => e = .returned (.bool true) ∧ w = w' := by
  have hk := powKey
  go_enter Tryd.func57, Tryd.ntmps57
  go_wp2
  go_ret
  exact ⟨rfl, rfl⟩

theorem digIdx (m : Nat) (h : m < 16) (W : World) : (Instr.index 9 (.string ⟨#[48, 49, 50, 51, 52, 53, 54, 55, 56, 57, 97, 98, 99, 100, 101, 102, 103, 104, 105, 106, 107, 108, 109, 110, 111, 112, 113, 114, 115, 116, 117, 118, 119, 120, 121, 122]⟩) (.int .u64 (m : Int))).run Tryd.prog W = .ok (.int .u8 ((dig m).toNat : Int)) W := by
  rw [run_index_string W _ _ _ _ Tryd.underlying9, dif_pos ⟨by omega, by show (m : Int) < 36; omega⟩]
  have key : ∀ k : Fin 16, ((⟨#[48, 49, 50, 51, 52, 53, 54, 55, 56, 57, 97, 98, 99, 100, 101, 102, 103, 104, 105, 106, 107, 108, 109, 110, 111, 112, 113, 114, 115, 116, 117, 118, 119, 120, 121, 122]⟩ : ByteArray)[k.val]'(Nat.lt_of_lt_of_le k.isLt (by decide))) = dig k.val := by decide +kernel
  have := key ⟨m, h⟩
  simp only [Int.toNat_natCast]
  rw [this]
theorem arrTail (g k : Nat) (h : k < 65) (W : World) : (Instr.sliceAt 71 (.pointer (some ⟨g, 0, none⟩)) (some (.int .i64 (k : Int))) none none).run Tryd.prog W = .ok (.slice (some ⟨g, k, none⟩) (65 - k) (65 - k)) W := by
  have e : Tryd.prog.arrayLen 71 = 65 := by kernel_rfl
  have he : Tryd.prog.elem 71 = 5 := by kernel_rfl
  have hu : Tryd.prog.underlying 71 = some (.array (Tryd.prog.arrayLen 71) (Tryd.prog.elem 71)) := by kernel_rfl
  rw [run_sliceAt_array_l W _ _ hu _ _ (by omega) (by rw [e]; omega), e, he, Tryd.sizeOf5 W]
  have ha : (⟨g, 0, none⟩ : Addr).add k = ⟨g, k, none⟩ := by unfold Addr.add; split <;> simp_all
  simp only [Result.andThen, slicedAt, Int.toNat_natCast, Nat.mul_one, ha]
  rw [if_neg (by omega)]
theorem cells_back (W : World) (g k : Nat) (T : TypeId) (cs : List Value) (D : List UInt8) (h : BlkAt g T cs W) (hd : cs.drop k = byteCells D) (n : Nat) (hn : D.length = n) :
    (convert 32 9 (.slice (some ⟨g, k, none⟩) n n)).run Tryd.prog W = .ok (.string (bs D)) W := by
  subst hn
  refine run_convert_bytes_back (P := Tryd.prog) W 32 9 5 ⟨g, k, none⟩ D.length D Tryd.underlying32 Tryd.underlying5 Tryd.underlying9 (fun j hj => ?_)
  have ha : (⟨g, k, none⟩ : Addr).add j = ⟨g, k + j, none⟩ := by unfold Addr.add; split <;> simp_all
  rw [ha]
  refine h.cell ?_
  rw [← List.getElem?_drop, hd]
  simp [byteCells, hj]
theorem and15 (v : Nat) (h : v < 18446744073709551616) : bits .and .u64 (v : Int) 15 = ((v % 16 : Nat) : Int) := by
  have := u64_and_nat v 15 h (by omega)
  rw [show v &&& 15 = v % 16 from Nat.and_two_pow_sub_one_eq_mod v 4] at this
  exact this
set_option maxRecDepth 1000000 in
set_option maxHeartbeats 2000000 in
theorem formatBits_any (u : Nat) (hu : u < 4294967296) (w : World) (h : DebAt w) :
    Calls Tryd.prog 49 #[.slice none 0 0, .int .u64 (u : Int), .int .i64 16, .bool false, .bool false] w fun e w' => e = .returned (.tuple #[.slice none 0 0, .string (bs (hexL u))]) ∧ Below w.heap.size w w' := by
  go_enter Tryd.func49, Tryd.ntmps49
  go_wp2_with (fail)
  refine (pow2_any _).mono ?_
  rintro e w' ⟨rfl, rfl⟩
  go_wp2_with (fail)
  refine (tz_any _ (h.below (alloc_below _ _))).mono ?_
  rintro e w' ⟨rfl, rfl⟩
  go_wp2_with (fail)
  go_loopw [1, 13] (fun v1 v13 wr => ∃ (v i : Nat) (cs : List Value) (D : List UInt8), v1 = .int .u64 (v : Int) ∧ v13 = .int .i64 (i : Int) ∧ BlkAt w.heap.size 71 cs wr ∧ cs.length = 65 ∧ Hid (cs.drop i = byteCells D) ∧ i + D.length = 65 ∧ D.length ≤ 8 ∧ Hid (v * 16 ^ D.length ≤ u) ∧ Hid (hexL u = hexL v ++ D) ∧ Below w.heap.size w wr) (fun v1 _ _ => (intOf v1).toNat)
  case atStart => exact ⟨u, 65, List.replicate 65 (.int .u8 0), [], rfl, rfl, heap_alloc_new w _, by simp, by show _ = _; simp [byteCells], by simp, by simp, by show _ ≤ _; simp, by show _ = _; simp, alloc_below _ _⟩
  case round =>
    obtain ⟨v, i, cs, D, rfl, rfl, hblk, hcl, hD, hi, hD8, hle, hhx, hbw⟩ := hrel
    have hvu : v ≤ u := by
      have h1 : 1 ≤ 16 ^ D.length := Nat.pow_pos (by omega)
      exact Nat.le_trans (Nat.le_mul_of_pos_right v h1) hle.out
    have Hcl := Lib.hid hcl
    obtain ⟨m, hm⟩ : ∃ m, m = v % 16 := ⟨_, rfl⟩
    have hm16 : m < 16 := by omega
    have ham : bits .and .u64 (v : Int) 15 = (m : Int) := by rw [and15 v (by omega), hm]
    have hidx := digIdx m hm16
    have Hm := Lib.hid hm
    clear hm
    by_cases hv : 16 ≤ v
    · have hDl : D.length < 8 := by
        refine Decidable.byContradiction fun hn => ?_
        have h1 : 16 ^ 8 ≤ 16 ^ D.length := Nat.pow_le_pow_right (by omega) (by omega)
        have h2 : 16 * 16 ^ D.length ≤ v * 16 ^ D.length := Nat.mul_le_mul_right _ hv
        have := hle.out
        omega
      obtain ⟨k, rfl⟩ : ∃ k, i = k + 1 := ⟨i - 1, by omega⟩
      have c0 := hblk.cell (i := k) (v := cs[k]'(by omega)) (by simp)
      have f0 := hblk.frozen k
      have hset := Lib.hid (hblk.set k (.int .u8 ((dig m).toNat : Int)))
      have Hdrop : Hid ((cs.set k (.int .u8 ((dig m).toNat : Int))).drop k = byteCells (dig m :: D)) := by
        show _ = _
        have hd := hD.out
        have hl : k < (cs.set k (.int .u8 ((dig m).toNat : Int))).length := by rw [List.length_set]; omega
        rw [List.drop_eq_getElem_cons hl, List.getElem_set_self, List.drop_set_of_lt (by omega), hd]
        rfl
      have Hle2 : Hid (v / 16 * 16 ^ (dig m :: D).length ≤ u) := by
        show _ ≤ _
        have h1 := hle.out
        rw [List.length_cons, Nat.pow_succ, Nat.mul_comm (16 ^ D.length), ← Nat.mul_assoc]
        exact Nat.le_trans (Nat.mul_le_mul_right _ (by omega)) h1
      have Hhx2 : Hid (hexL u = hexL (v / 16) ++ (dig m :: D)) := by
        show _ = _
        rw [hhx.out, hexL_hi v hv, Hm.out]
        simp
      generalize cs[k]'(by omega) = c at *
      clear hcl
      as_aux_lemma =>
      have hdv : decide (16 ≤ (v : Int)) = true := decide_eq_true (by omega)
      go_wp2
      go_roundw
      case rel => exact ⟨v / 16, k, cs.set k (.int .u8 ((dig m).toNat : Int)), dig m :: D, congrArg _ (by omega), rfl, hset.out, by simp; exact Hcl.out, Hdrop, by simp; omega, by simp; omega, Hle2, Hhx2, hbw.setCell (p := ⟨w.heap.size, k, none⟩) (Nat.le_refl _) _⟩
      case measure => show ((v : Int) / 16).toNat < ((v : Int)).toNat; omega
    · as_aux_lemma =>
      have hdv : decide (16 ≤ (v : Int)) = false := decide_eq_false (by omega)
      have hDl : D.length < 65 := by omega
      obtain ⟨k, rfl⟩ : ∃ k, i = k + 1 := ⟨i - 1, by omega⟩
      have c0 := hblk.cell (i := k) (v := cs[k]'(by omega)) (by simp)
      have f0 := hblk.frozen k
      have hset := Lib.hid (hblk.set k (.int .u8 ((dig m).toNat : Int)))
      have Hdrop : Hid ((cs.set k (.int .u8 ((dig m).toNat : Int))).drop k = byteCells (dig m :: D)) := by
        show _ = _
        have hd := hD.out
        have hl : k < (cs.set k (.int .u8 ((dig m).toNat : Int))).length := by rw [List.length_set]; omega
        rw [List.drop_eq_getElem_cons hl, List.getElem_set_self, List.drop_set_of_lt (by omega), hd]
        rfl
      have HX : Hid (hexL u = dig m :: D) := by
        show _ = _
        rw [hhx.out, hexL_lo v (by omega), Hm.out, Nat.mod_eq_of_lt (by omega)]
        rfl
      have hidx2 := digIdx v (by omega)
      rw [show dig v = dig m by rw [Hm.out, Nat.mod_eq_of_lt (by omega)]] at hidx2
      have hsl := arrTail w.heap.size k (by omega)
      have hcv := cells_back _ w.heap.size k _ _ _ hset.out Hdrop.out (65 - k) (by simp; omega)
      have Hbw := Lib.hid hbw
      generalize cs[k]'(by omega) = c at *
      clear hcl hblk hbw
      go_wp2
      go_ret2
      exact ⟨by rw [HX.out]; rfl, Hbw.out.setCell (p := ⟨w.heap.size, k, none⟩) (Nat.le_refl _) _⟩

set_option maxRecDepth 1000000 in
theorem formatI_any (u : Nat) (hu : u < 4294967296) (w : World) (h : DebAt w) :
    Calls Tryd.prog 37 #[.int .i64 (u : Int), .int .i64 16] w fun e w' => e = .returned (.string (bs (hexL u))) ∧ Below w.heap.size w w' := by
  have HB := Lib.hid (fun W hW => formatBits_any u hu W hW)
  go_enter Tryd.func37, Tryd.ntmps37
  go_wp2_with (fail)
  refine (HB.out _ h).mono ?_
  rintro e w1 ⟨rfl, hb⟩
  go_wp2
  go_ret
  exact ⟨rfl, hb⟩
/-- THE CONTRACT OF strconv.FormatInt(u, 16). -/
theorem formatInt_any (u : Nat) (hu : u < 4294967296) (w : World) (h : DebAt w) :
    Calls Tryd.prog 25 #[.int .i64 (u : Int), .int .i64 16] w fun e w' => e = .returned (.string (bs (hexL u))) ∧ Below w.heap.size w w' := by
  have HB := Lib.hid (fun W hW => formatI_any u hu W hW)
  go_enter Tryd.func25, Tryd.ntmps25
  go_wp2_with (fail)
  refine (HB.out _ h).mono ?_
  rintro e w1 ⟨rfl, hb⟩
  go_wp2
  go_ret
  exact ⟨rfl, hb⟩
end Go.Proofs.YtmiloedhhnknpaaDoor
