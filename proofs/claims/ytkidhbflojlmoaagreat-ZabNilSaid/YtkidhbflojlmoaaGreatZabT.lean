/- The walk of committed. Conditions: as each theorem says. -/
import Derived.Test.YtkidhbflojlmoaaGreatZabS
namespace Go.Proofs.YtkidhbflojlmoaaGreat
open Go.RowKit

theorem ents_take {w : World} {a : Option Addr} {n cap : Nat} {L : List Ent} (h : EntsAt w (.slice a n cap) L) (k c : Nat) (hk : k ≤ L.length) : EntsAt w (.slice a k c) (L.take k) := by
  refine ⟨a, c, by rw [List.length_take, Nat.min_eq_left hk], fun i hi => ?_⟩
  rw [List.length_take, Nat.min_eq_left hk] at hi
  obtain ⟨b, off, e, hc⟩ := ents_get h i (by omega)
  exact ⟨b, off, e, by rw [List.getElem_take]; exact hc⟩
theorem log_take {w : World} {a : Option Addr} {n cap : Nat} {L : List Ent} (h : EntsAt w (.slice a n cap) L) (k c : Nat) (hk : k ≤ L.length) (hn : L.length ≤ 1000000) (hc : L.length ≤ c) : LogOf (.slice a k c) (L.take k) w :=
  ⟨a, c, by rw [List.length_take, Nat.min_eq_left hk], ents_take h k c hk, by rw [List.length_take]; omega, by rw [List.length_take]; omega⟩
theorem field_log (x0 x1 x2 x3 : Int) (s : ByteArray) (a : Option Addr) (m c : Nat) (W : World) : (Instr.field StaT (.agg #[.int .i64 x0, .int .i64 x1, .int .i64 x2, .int .i64 x3, .string s, .slice a m c]) 4).run Tryz.prog W = .ok (.slice a m c) W := by kernel_rfl
theorem field_acc (x0 x1 x2 x3 : Int) (s : ByteArray) (a : Option Addr) (m c : Nat) (W : World) : (Instr.field StaT (.agg #[.int .i64 x0, .int .i64 x1, .int .i64 x2, .int .i64 x3, .string s, .slice a m c]) 0).run Tryz.prog W = .ok (.int .i64 x0) W := by kernel_rfl
theorem field_commit (x0 x1 : Int) (b : Bool) (x2 x3 : Int) (W : World) : (Instr.field PhaT (.agg #[.int .i64 x0, .int .i64 x1, .bool b, .int .i64 x2, .int .i64 x3]) 3).run Tryz.prog W = .ok (.agg #[.int .i64 x2, .int .i64 x3]) W := by kernel_rfl
set_option maxRecDepth 100000 in
set_option maxHeartbeats 4000000 in
theorem comm_any (g : Nat) (n : Nd) (hf : n.fit) (L : List Ent) (w : World) (h : NodeAt g n w) (hL : LogAt n L w) :
    Calls Tryz.prog 8 #[ptrV g] w fun e w' => ∃ a c, e = .returned (.slice a (findN L n.commit) c) ∧ LogOf (.slice a (findN L n.commit) c) (L.take (findN L n.commit)) w' ∧ Below w.heap.size w w' := by
  have HS := state_any g n hf L w h hL
  have HPh := fun W (hB : Grew w W) => phase_any g n W (BlkAt.grew h hB)
  have hfl := findN_le L n.commit
  have HF1 := Lib.hid (findN_below L n.commit)
  have HF2 := Lib.hid (findN_at L n.commit)
  unfold ptrV at HS HPh ⊢
  unfold stateV at HS
  unfold phaseV at HPh
  have HS := Lib.hid HS
  have HPh := Lib.hid HPh
  have HLs : ∀ (i : Nat) (hi : i < L.length) W, Calls Tryz.prog 26 #[.agg #[.int .i64 n.commit.1, .int .i64 n.commit.2], .agg #[.int .i64 L[i].e, .int .i64 L[i].c]] W fun e w' => e = .returned (.bool (lessZ n.commit L[i].z)) ∧ Below W.heap.size W w' := fun i hi W => less_any n.commit L[i].z W
  have HLs := Lib.hid HLs
  generalize startedB n = sb at *
  generalize n.is = is at *
  generalize n.leader = ld at *
  generalize hz : n.commit = z at *
  generalize findN L z = k at *
  clear h hL hf hz
  have f3 := field_commit
  go_enter Tryz.func8, Tryz.ntmps8
  go_upto_region 2 with (go_at_call 11; (with_reducible refine HS.out.mono ?_); rintro e w1 ⟨v, rfl, hL1, hb1⟩; obtain ⟨a, c, rfl, hE, hln, hlc⟩ := hL1; have f4 : ∀ W, (Instr.field 46 (.agg #[.int .i64 n.acc, .int .i64 n.cur, .int .i64 n.beg.1, .int .i64 n.beg.2, .string (bs n.img), .slice a L.length c]) 4).run Tryz.prog W = .ok (.slice a L.length c) W := fun W => field_log _ _ _ _ _ a L.length c W)
  have HE := Lib.hid hE
  have HB1 := Lib.hid hb1
  clear hE hb1
  go_wp2_with (fail)
  go_loopw [4] (fun v4 wr => ∃ i : Nat, v4 = .int .i64 (i : Int) ∧ i ≤ k ∧ Below w1.heap.size w1 wr) (fun v4 _ => L.length - (intOf v4).toNat)
  case atStart => exact ⟨0, rfl, Nat.zero_le _, Below.refl _ _⟩
  case round =>
    obtain ⟨i, rfl, hik, hbr⟩ := hrel
    have HBr := Lib.hid hbr
    by_cases hi : i < L.length
    · obtain ⟨bb, off, rfl, e0, e1, -⟩ := ents_get (EntsAt.grew HE.out hbr) i hi
      have hI : (i : Int) < (L.length : Int) := by omega
      have HG := Lib.hid (show ∀ W, Grew wr W → Grew w W from fun W hW => HB1.out.trans ((HBr.out.trans (Below.mono (show Below wr.heap.size wr W from hW) HBr.out.size)).mono HB1.out.size))
      have HLi := HLs.out i hi
      by_cases hk : i < k
      · rw [HF1.out i hi hk] at HLi
        have HLi := Lib.hid HLi
        clear hbr
        go_wp2_with (fail)
        have hex := Grew.all wr
        refine wp_region_grew (by kernel_rfl) (by kernel_rfl) ?_
        repeat (first | go_big_quiet_skip | (go_big_quiet_want; first | (refine quiet_load_mid 41 _ rfl bb (off + i * 3) rfl [.int .i64 L[i].e, .int .i64 L[i].c] _ (fun W hW => range2 (Grew.cell hW e0) (Grew.cell hW e1)) Tryz.underlying41 rfl (by kernel_rfl) ?_; simp only [Act.put, List.setIfInBounds_toArray, List.set_cons_succ, List.set_cons_zero]; go_big_quiet_on) | (go_big_quiet_op; first | go_big_quiet_on | (apply Exists.intro; refine ⟨fun W hW => ?_, ?_⟩; (first | (go_at_call 26; with_reducible exact Calls.grew hW (HLi.out _)) | (go_at_call 10; with_reducible exact Calls.grew hW (HPh.out _ (HG.out _ hW)))); go_big_quiet_on))))
        refine wpQuiet_nil ?_
        intro w3 hw3
        clear hex
        go_wp2
        go_roundw
        case rel => exact ⟨i + 1, by go_num, hk, HBr.out.trans (Below.mono (show Below wr.heap.size wr w3 from hw3) HBr.out.size)⟩
        case measure => simp [intOf]; omega
      · obtain rfl : i = k := by omega
        rw [HF2.out hi] at HLi
        have HLi := Lib.hid HLi
        clear hbr hk
        go_wp2_with (fail)
        have hex := Grew.all wr
        refine wp_region_grew (by kernel_rfl) (by kernel_rfl) ?_
        repeat (first | go_big_quiet_skip | (go_big_quiet_want; first | (refine quiet_load_mid 41 _ rfl bb (off + i * 3) rfl [.int .i64 L[i].e, .int .i64 L[i].c] _ (fun W hW => range2 (Grew.cell hW e0) (Grew.cell hW e1)) Tryz.underlying41 rfl (by kernel_rfl) ?_; simp only [Act.put, List.setIfInBounds_toArray, List.set_cons_succ, List.set_cons_zero]; go_big_quiet_on) | (go_big_quiet_op; first | go_big_quiet_on | (apply Exists.intro; refine ⟨fun W hW => ?_, ?_⟩; (first | (go_at_call 26; with_reducible exact Calls.grew hW (HLi.out _)) | (go_at_call 10; with_reducible exact Calls.grew hW (HPh.out _ (HG.out _ hW)))); go_big_quiet_on))))
        refine wpQuiet_nil ?_
        intro w3 hw3
        clear hex
        go_wp2
        go_ret
        have hb3 : Below w1.heap.size w1 w3 := HBr.out.trans (Below.mono (show Below wr.heap.size wr w3 from hw3) HBr.out.size)
        exact ⟨_, _, rfl, log_take (EntsAt.grew HE.out hb3) i c hfl hln hlc, HB1.out.trans (hb3.mono HB1.out.size)⟩
    · obtain rfl : i = k := by omega
      obtain rfl : i = L.length := by omega
      have h0 : ∀ ad : Addr, a = some ad → ad.add 0 = ad := fun ad _ => by unfold Addr.add; simp
      clear hbr
      go_wp2_with (fail)
      have hex := Grew.all wr
      refine wp_region_grew (by kernel_rfl) (by kernel_rfl) ?_
      repeat (first | go_big_quiet_skip | (go_big_quiet_want; first | (refine fail ?_; simp only [Act.put, List.setIfInBounds_toArray, List.set_cons_succ, List.set_cons_zero]; go_big_quiet_on) | (go_big_quiet_op; first | go_big_quiet_on | (apply Exists.intro; refine ⟨fun W hW => ?_, ?_⟩; (first | exact rfl); go_big_quiet_on))))
      refine wpQuiet_nil ?_
      intro w3 hw3
      clear hex
      have hb3 : Below w1.heap.size w1 w3 := HBr.out.trans (Below.mono (show Below wr.heap.size wr w3 from hw3) HBr.out.size)
      have HR := Lib.hid (And.intro (log_take (EntsAt.grew HE.out hb3) L.length c (Nat.le_refl _) hln hlc) (HB1.out.trans (hb3.mono HB1.out.size)))
      clear hw3 hb3
      go_wp2
      go_ret
      exact ⟨_, _, rfl, HR.out.1, HR.out.2⟩
end Go.Proofs.YtkidhbflojlmoaaGreat
