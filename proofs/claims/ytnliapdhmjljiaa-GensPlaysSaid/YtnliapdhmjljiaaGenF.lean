/- Calls that came in; the walk of done. Conditions: as each theorem says. -/
import Derived.Test.YtnliapdhmjljiaaGenE
import Derived.Test.YtnliapdhmjljiaaOpen
namespace Go.Proofs.Ytnliapdhmjljiaa
open Go.RowKit

def opCells (o : Int × Int) : List Value := [.int .i64 o.1, .int .i64 o.2]
abbrev OpT : TypeId := 29
theorem cop : Try.prog.cellsOf OpT = 2 := by kernel_rfl
theorem ci : Try.prog.cellsOf 3 = 1 := by kernel_rfl
def IsOps (w : World) (v : Value) : Prop := IsRows 2 opCells (fun _ _ => True) w v
open Go.WideShapes Go.ChangeShapes in
theorem open_ops {H : Type} {enc : TypeId × Value → H} {w : World} {r : Reach} {base : Nat} {v : Value} {d : DataW H} {p : List MemPlace}
    (hv : Value.okWide Try.prog w r base 22 v) (h : DataW.Trod enc Try.prog w 0 (fun _ => true) true 22 v d p) : IsOps w v := by
  refine open_rows Try.underlying22 cop (by decide) (fun fuel cs x hx => ?_) (fun y => rfl) hv h
  obtain ⟨xs, n, _, _, hl, hlen, hg⟩ := DataW.trod_struct Try.underlying29 hx
  rw [cop] at hl
  match cs, hl, xs, hlen with
  | [c0, c1], _, [y0, y1], _ =>
    obtain ⟨a, e0, _, _⟩ := DataW.trod_int Try.underlying3 (by simpa using hg 0 _ rfl)
    obtain ⟨b, e1, _, _⟩ := DataW.trod_int Try.underlying3 (by simpa using hg 1 _ rfl)
    rw [ci] at e0 e1
    simp at e0 e1
    subst e0 e1
    exact ⟨(a, b), rfl, trivial⟩
theorem runK_take (ops : List (Int × Int)) (i : Nat) (hi : i < ops.length) : runK (ops.take (i + 1)) = (stepK (runK (ops.take i)) ops[i]).1 := by
  unfold runK
  rw [List.take_succ_eq_append_getElem hi, List.foldl_append]; rfl
def DoneSaid (w : World) (ops : List (Int × Int)) (e : Ending) (w' : World) : Prop :=
  e = .returned (.pointer (some ⟨w.heap.size, 0, none⟩)) ∧ Live (fun b => w.heap.size ≤ b ∧ b < w'.heap.size) w.heap.size (runK (ops.take 200)) 200 w' ∧ Below w.heap.size w w'
theorem live_own {base kb n : Nat} {s : Ks} {w1 w2 : World} (h : Live (Foot (fun b => base ≤ b ∧ b < w1.heap.size) w1 w2) kb s n w2) (hs : w1.heap.size ≤ w2.heap.size) (hb : base ≤ w1.heap.size) : Live (fun b => base ≤ b ∧ b < w2.heap.size) kb s n w2 :=
  h.wider (fun i hi => by rcases hi with hi | hi; exact ⟨hi.1, by omega⟩; exact ⟨by omega, hi.2⟩) (fun i hi => hi.2)
set_option maxRecDepth 100000 in
set_option maxHeartbeats 1000000 in
theorem done_any (a : Option Addr) (c : Nat) (ops : List (Int × Int)) (w : World) (h : RowsAt 2 opCells w (.slice a ops.length c) ops) (hl : ops.length ≤ 9223372036854775807) : Calls Try.prog 22 #[.slice a ops.length c] w (DoneSaid w ops) := by
  have HO := Lib.hid h
  have HN := Lib.hid (fun W => new_live W)
  clear h
  go_enter Try.func22, Try.ntmps22
  go_wp2_with (go_at_call 9; (with_reducible refine (HN.out _).mono ?_); rintro e w1 ⟨rfl, hl1, hb1⟩; have HL1 := Lib.hid hl1; have HB1 := Lib.hid hb1; clear hl1 hb1)
  go_loopw [4] (fun i wr => ∃ k : Nat, k ≤ ops.length ∧ k ≤ 200 ∧ i = .int .i64 k ∧ Live (fun b => w.heap.size ≤ b ∧ b < wr.heap.size) w.heap.size (runK (ops.take k)) k wr ∧ Below w.heap.size w wr) (fun i _ => 200 - (intOf i).toNat)
  case atStart => exact ⟨0, Nat.zero_le _, by omega, rfl, HL1.out, HB1.out⟩
  case round =>
    obtain ⟨k, hk, hk2, rfl, hL, hB⟩ := hrel
    by_cases hlt : k < ops.length
    · by_cases h2 : k < 200
      · obtain ⟨b, off, rfl, hr⟩ := HO.out.get k hlt
        have c0 : wr.cell? ⟨b, off + k * 2, none⟩ = some (.int .i64 ops[k].1) := Grew.cell hB (hr 0 _ rfl)
        have c1 : wr.cell? ⟨b, off + k * 2 + 1, none⟩ = some (.int .i64 ops[k].2) := Grew.cell hB (hr 1 _ rfl)
        have HD := Lib.hid (do_any hL (by omega) ops[k])
        have HT := Lib.hid (runK_take ops k hlt)
        have HB := Lib.hid hB
        have hsz := hB.size
        have hd2 : decide ((k : Int) < 200) = true := decide_eq_true (by omega)
        clear hr hL hB
        generalize ops[k] = o at *
        go_wp2_with (go_at_call 14; (with_reducible refine HD.out.mono ?_); rintro e w2 ⟨rfl, hl2, ha2⟩; have HL2 := Lib.hid (live_own hl2 ha2.size hsz); have HB2 := Lib.hid (HB.out.trans (ha2.below hsz (fun i hi => hi.1))); clear hl2 ha2)
        go_roundw
        case rel => exact ⟨k + 1, by omega, by omega, by go_num, by rw [HT.out]; exact HL2.out, HB2.out⟩
        case measure => simp [intOf]; omega
      · obtain rfl : k = 200 := by omega
        have HL := Lib.hid hL
        have HB := Lib.hid hB
        have hd2 : decide (((200 : Nat) : Int) < 200) = false := decide_eq_false (by omega)
        clear hL hB
        go_wp2
        go_ret
        exact ⟨rfl, HL.out, HB.out⟩
    · obtain rfl : k = ops.length := by omega
      have HL := Lib.hid hL
      have HB := Lib.hid hB
      have ht : ops.take ops.length = ops.take 200 := by rw [List.take_length, List.take_of_length_le hk2]
      have HT := Lib.hid ht
      clear hL hB ht
      go_wp2
      go_ret
      exact ⟨rfl, by rw [← HT.out]; exact HL.out.more hk2, HB.out⟩
end Go.Proofs.Ytnliapdhmjljiaa
