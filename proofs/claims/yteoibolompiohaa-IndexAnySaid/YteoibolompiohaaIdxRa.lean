/- The walk of right, a node at a time. Conditions: as each theorem says. -/
import Derived.Test.YteoibolompiohaaIdxI
namespace Go.Proofs.Yteoibolompiohaa
open Go.RowKit

def RightSaid (w : World) (e : Ending) (w' : World) : Prop := e = .returned (.bool true) ∧ Below w.heap.size w w'
structure NodeFit (n : Nod) (isRoot : Bool) (deep : Int) (fr tk : Key) : Prop where
  least : isRoot = true → n.ks.length ≠ 0 → 1 ≤ n.ps.length
  four : isRoot = false → 4 ≤ n.ps.length
  nine : n.ps.length ≤ 9
  kids : n.ks.length = 0 ∨ n.ks.length = n.ps.length + 1
  leaf : n.ks.length = 0 → deep = 1
  inner : n.ks.length ≠ 0 → 1 < deep ∧ deep ≤ 1000
  chain : ∀ i (h : i < n.ps.length), 0 < i → kLt (n.ps[i - 1]'(by omega)).1 (n.ps[i]).1 = true
  low : ∀ p ∈ n.ps, kLt p.1 fr = false
  high : ∀ p ∈ n.ps, tk = [] ∨ kLt p.1 tk = true
  some : n.ks.length ≠ 0 → ∀ p ∈ n.ps, p.1 ≠ []
  long : ∀ p ∈ n.ps, p.1.length ≤ 1000000000000000000
def kidFrom (n : Nod) (fr : Key) (i : Nat) : Key := if 0 < i then (n.ps.getD (i - 1) pr0).1 ++ [0] else fr
def kidTo (n : Nod) (tk : Key) (i : Nat) : Key := if i < n.ps.length then (n.ps.getD i pr0).1 else tk
theorem drewN_below {n : Nat} (w : World) (nq : Nat) (_ : n ≤ w.heap.size) : Below n w (w.drewN nq) := ⟨rfl, rfl, rfl, Nat.le_refl _, fun _ _ => rfl⟩
section
variable {m : Mem} {t : Tr} {w : World}
set_option maxRecDepth 100000 in
set_option maxHeartbeats 4000000 in
theorem right_step (h : TreeAt m t w) (a : Nat) (ha : a < t.nodes.length) (_ : t.nodes.length ≤ 1000000) (deep : Int) (fr tk : Key) (isRoot : Bool) (hroot : isRoot = decide (a = t.root)) (hf : NodeFit (t.nd a) isRoot deep fr tk)
    (ih : ∀ i (hi : i < (t.nd a).ks.length) (W : World), Below w.heap.size w W → Calls Try.prog 38 #[ptrV m.g, .int .i64 ((t.nd a).ks[i] : Int), .int .i64 (deep - 1), .string (bs (kidFrom (t.nd a) fr i)), .string (bs (kidTo (t.nd a) tk i))] W (RightSaid W)) :
    Calls Try.prog 38 #[ptrV m.g, .int .i64 (a : Int), .int .i64 deep, .string (bs fr), .string (bs tk)] w (RightSaid w) := by
  have g0 := h.top.cell (i := 0) rfl
  have g2 := h.top.cell (i := 2) rfl
  obtain ⟨pa, pc, ka, kc, c0, c1, hp, hk⟩ := h.read a ha
  have haa : (a : Int) < (t.nodes.length : Int) := by omega
  obtain ⟨N, hN⟩ : ∃ N, N = t.nd a := ⟨_, rfl⟩
  rw [← hN] at hf hp hk c0 c1 ih
  have HF := Lib.hid hf
  have HP := Lib.hid hp
  have HK := Lib.hid hk
  have HIH := Lib.hid ih
  have h9 := hf.nine
  have hk10 : N.ks.length ≤ 10 := by rcases hf.kids with e | e <;> omega
  have H := Lib.hid h
  have hgl := h.g_lt
  clear hf hp hk ih h hN
  unfold ptrV
  go_enter Try.func38, Try.ntmps38
  cases isRoot
  case' true =>
    have hr : a = t.root := by simpa using hroot.symm
    have hb : ((a : Int) == (t.root : Int)) = true := by rw [hr]; exact beq_self_eq_true _
    clear hr hroot
    go_upto_region 5 with (fail)
    have hl1 : ¬ (N.ps.length : Int) < (if (1 : Int) < (N.ks.length : Int) then (1 : Int) else (N.ks.length : Int)) := by
      have := HF.out.least rfl
      split <;> omega
    generalize (if (1 : Int) < (N.ks.length : Int) then (1 : Int) else (N.ks.length : Int)) = ls at *
  case' false =>
    have hr : ¬ a = t.root := by simpa using hroot.symm
    have hb : ((a : Int) == (t.root : Int)) = false := beq_eq_false_iff_ne.2 (by omega)
    clear hr hroot
    go_upto_region 5 with (fail)
    have hl1 : ¬ (N.ps.length : Int) < 4 := by
      have := HF.out.four rfl
      omega
  all_goals
    have hl9 : ¬ (9 : Int) < (N.ps.length : Int) := by omega
    obtain ⟨hd1, hd2⟩ : (N.ks.length = 0 → (deep == 1) = true) ∧ (N.ks.length ≠ 0 → (deep == 1) = false) := ⟨fun e => by rw [HF.out.leaf e]; rfl, fun e => by have := HF.out.inner e; exact beq_eq_false_iff_ne.2 (by omega)⟩
    rcases Nat.eq_zero_or_pos N.ks.length with h0 | h0
    case' inl =>
      have hkb : ((N.ks.length : Int) == 0) = true := by rw [h0]; rfl
      have hk0 : ¬ (0 : Int) < (N.ks.length : Int) := by omega
      have hdb := hd1 h0
      clear hd1 hd2 h0
      go_upto_region 7 with (fail)
      clear hkb hk0 hdb
      rename_i hz _ _ _ _
      clear hz
    case' inr =>
      have hkb : ((N.ks.length : Int) == 0) = false := beq_eq_false_iff_ne.2 (by omega)
      have hk0 : (0 : Int) < (N.ks.length : Int) := by omega
      have hdb := hd2 (by omega)
      have hw1 : IntKind.i64.wrap ((N.ps.length : Int) + 1) = (N.ps.length : Int) + 1 := IntWalk.i64_in _ (by omega)
      have hnq : ((N.ks.length : Int) != (N.ps.length : Int) + 1) = false := by
        have := HF.out.kids
        rw [show (N.ks.length : Int) = (N.ps.length : Int) + 1 by omega]
        simp
      have hnq2 : ((N.ks.length : Int) == (N.ps.length : Int) + 1) = true := by
        have := HF.out.kids
        rw [show (N.ks.length : Int) = (N.ps.length : Int) + 1 by omega]
        exact beq_self_eq_true _
      clear hd1 hd2 h0
      go_upto_region 7 with (fail)
      clear hkb hk0 hdb hw1 hnq hnq2
      rename_i hz _ _ _ _
      clear hz
  all_goals
    clear hl1 hl9 hb
    have hBx := BlkAt.alloc_new w [.slice pa N.ps.length pc, .slice ka N.ks.length kc] NdT
    have hB := alloc_below w (.cells #[.slice pa N.ps.length pc, .slice ka N.ks.length kc] NdT)
    obtain ⟨bx, hbx⟩ : ∃ bx, bx = w.heap.size := ⟨_, rfl⟩
    rw [← hbx] at hBx ⊢
    have hBx : BlkAt bx NdT [.slice pa N.ps.length pc, .slice ka N.ks.length kc] (w.alloc (.cells #[.slice pa N.ps.length pc, .slice ka N.ks.length kc] NdT)) := hBx
    clear hbx
    have b0 := hBx.cell (i := 0) rfl
    generalize (w.alloc (.cells #[.slice pa N.ps.length pc, .slice ka N.ks.length kc] NdT)) = w1 at *
    have HB := Lib.hid (And.intro hB hBx)
    clear hB hBx g0 g2 c0 c1 hgl
    go_wp2
    go_loopg [75] N.ps.length (fun gk v wr => ∃ i : Nat, v = .int .i64 (i : Int) ∧ i + gk = N.ps.length ∧ Hid (Below w.heap.size w wr ∧ BlkAt bx NdT [.slice pa N.ps.length pc, .slice ka N.ks.length kc] wr))
    case atStart => exact ⟨0, rfl, by omega, HB⟩
    case round =>
      obtain ⟨i, rfl, hi, HR⟩ := hrel
      have b0 := HR.out.2.cell (i := 0) rfl
      have hbl := HR.out.2.lt
      by_cases hlt : i < N.ps.length
      · obtain ⟨pb, rfl, k0, k1⟩ := HP.out i hlt
        have hpb : pb < wr.heap.size := Nat.lt_of_lt_of_le (block_lt_of_cell k1) HR.out.1.size
        have k0 := Grew.cell HR.out.1 k0
        have k1 := Grew.cell HR.out.1 k1
        obtain ⟨x, hx⟩ : ∃ x, x = N.ps[i] := ⟨_, rfl⟩
        have hxm : x ∈ N.ps := by rw [hx]; exact List.getElem_mem _
        have hlow : Op.bytesLess (bs x.1).toList (bs fr).toList = false := by rw [bs_toList, bs_toList]; exact HF.out.low x hxm
        have hhigh := HF.out.high x hxm
        have hch := HF.out.chain i hlt
        rw [← hx] at k0 k1 hch
        have hil : (i : Int) < (N.ps.length : Int) := by omega
        have hi9 : (i : Int) ≤ 9 := by omega
        have HX := Lib.hid hx
        clear hx hxm
        rcases Nat.eq_zero_or_pos i with rfl | hpos
        · clear hch
          cases tk with
          | nil =>
            have e0 : (bs []).toList = [] := bs_toList []
            have e1 : (bs []).toList.isEmpty = true := by rw [e0]; rfl
            clear hhigh
            go_upto_region 10 with (fail)
            go_quiet (fail)
            have hbq : Below wr.heap.size wr ((wr.alloc (.cells #[.string (bs x.1), .int .i64 x.2] PrT)).drewN nq) := Below.trans (alloc_below wr _) (drewN_below _ nq (by simp))
            have HR2 : Hid (Below w.heap.size w ((wr.alloc (.cells #[.string (bs x.1), .int .i64 x.2] PrT)).drewN nq) ∧ BlkAt bx NdT [.slice (some ⟨pb, 0, none⟩) N.ps.length pc, .slice ka N.ks.length kc] ((wr.alloc (.cells #[.string (bs x.1), .int .i64 x.2] PrT)).drewN nq)) := Lib.hid ⟨HR.out.1.trans (hbq.mono HR.out.1.size), HR.out.2.grew hbq⟩
            clear hbq
            go_wp2_with (fail)
            go_roundg (gk - 1)
            case rel => exact ⟨1, by go_num, by omega, HR2⟩
            case measure => omega
          | cons c0 c1 =>
            have e1 : (bs (c0 :: c1)).toList.isEmpty = false := by rw [bs_toList]; rfl
            have e0 : ¬ (bs (c0 :: c1)).toList = [] := by rw [bs_toList]; simp
            have e2 : Op.bytesLess (bs x.1).toList (bs (c0 :: c1)).toList = true := by
              rw [bs_toList, bs_toList]
              rcases hhigh with e | e
              · cases e
              · exact e
            clear hhigh
            go_upto_region 10 with (fail)
            go_quiet (fail)
            have hbq : Below wr.heap.size wr ((wr.alloc (.cells #[.string (bs x.1), .int .i64 x.2] PrT)).drewN nq) := Below.trans (alloc_below wr _) (drewN_below _ nq (by simp))
            have HR2 : Hid (Below w.heap.size w ((wr.alloc (.cells #[.string (bs x.1), .int .i64 x.2] PrT)).drewN nq) ∧ BlkAt bx NdT [.slice (some ⟨pb, 0, none⟩) N.ps.length pc, .slice ka N.ks.length kc] ((wr.alloc (.cells #[.string (bs x.1), .int .i64 x.2] PrT)).drewN nq)) := Lib.hid ⟨HR.out.1.trans (hbq.mono HR.out.1.size), HR.out.2.grew hbq⟩
            clear hbq
            go_wp2_with (fail)
            go_roundg (gk - 1)
            case rel => exact ⟨1, by go_num, by omega, HR2⟩
            case measure => omega
        · obtain ⟨pb', hpb', k2, k3⟩ := HP.out (i - 1) (by omega)
          simp only [Option.some.injEq, Addr.mk.injEq, and_true] at hpb'
          subst hpb'
          have k2 := Grew.cell HR.out.1 k2
          have hch := hch hpos
          have hle : Op.bytesLess (bs x.1).toList (bs (N.ps[i - 1]'(by omega)).1).toList = false := by rw [bs_toList, bs_toList]; exact kLt_asymm hch
          have hle2 : ((bs x.1).toList == (bs (N.ps[i - 1]'(by omega)).1).toList) = false := by rw [bs_toList, bs_toList]; exact beq_eq_false_iff_ne.2 (Ne.symm (kLt_ne hch))
          generalize (N.ps[i - 1]'(by omega)) = y at *
          have hpi : (0 : Int) < (i : Int) := by omega
          have hw : IntKind.i64.wrap ((i : Int) - 1) = (i : Int) - 1 := IntWalk.i64_in _ (by omega)
          have h01 : (0 : Int) ≤ (i : Int) - 1 := by omega
          have h02 : (i : Int) - 1 < (N.ps.length : Int) := by omega
          have ht1 : ((i : Int) - 1).toNat = i - 1 := by omega
          have hj : i - 1 < N.ps.length := by omega
          have dk0 : decide (0 < i) = true := decide_eq_true hpos
          have dk1 : decide ((0 : Int) ≤ (i : Int) - 1) = true := decide_eq_true h01
          have dk2 : decide ((i : Int) - 1 < (N.ps.length : Int)) = true := decide_eq_true h02
          clear hch k3
          cases tk with
          | nil =>
            have e0 : (bs []).toList = [] := bs_toList []
            have e1 : (bs []).toList.isEmpty = true := by rw [e0]; rfl
            clear hhigh
            go_upto_region 10 with (fail)
            go_quiet (fail)
            have hbq : Below wr.heap.size wr ((wr.alloc (.cells #[.string (bs x.1), .int .i64 x.2] PrT)).drewN nq) := Below.trans (alloc_below wr _) (drewN_below _ nq (by simp))
            have HR2 : Hid (Below w.heap.size w ((wr.alloc (.cells #[.string (bs x.1), .int .i64 x.2] PrT)).drewN nq) ∧ BlkAt bx NdT [.slice (some ⟨pb, 0, none⟩) N.ps.length pc, .slice ka N.ks.length kc] ((wr.alloc (.cells #[.string (bs x.1), .int .i64 x.2] PrT)).drewN nq)) := Lib.hid ⟨HR.out.1.trans (hbq.mono HR.out.1.size), HR.out.2.grew hbq⟩
            clear hbq
            go_wp2_with (fail)
            go_roundg (gk - 1)
            case rel => exact ⟨i + 1, by go_num, by omega, HR2⟩
            case measure => omega
          | cons c0 c1 =>
            have e1 : (bs (c0 :: c1)).toList.isEmpty = false := by rw [bs_toList]; rfl
            have e0 : ¬ (bs (c0 :: c1)).toList = [] := by rw [bs_toList]; simp
            have e2 : Op.bytesLess (bs x.1).toList (bs (c0 :: c1)).toList = true := by
              rw [bs_toList, bs_toList]
              rcases hhigh with e | e
              · cases e
              · exact e
            clear hhigh
            go_upto_region 10 with (fail)
            go_quiet (fail)
            have hbq : Below wr.heap.size wr ((wr.alloc (.cells #[.string (bs x.1), .int .i64 x.2] PrT)).drewN nq) := Below.trans (alloc_below wr _) (drewN_below _ nq (by simp))
            have HR2 : Hid (Below w.heap.size w ((wr.alloc (.cells #[.string (bs x.1), .int .i64 x.2] PrT)).drewN nq) ∧ BlkAt bx NdT [.slice (some ⟨pb, 0, none⟩) N.ps.length pc, .slice ka N.ks.length kc] ((wr.alloc (.cells #[.string (bs x.1), .int .i64 x.2] PrT)).drewN nq)) := Lib.hid ⟨HR.out.1.trans (hbq.mono HR.out.1.size), HR.out.2.grew hbq⟩
            clear hbq
            go_wp2_with (fail)
            go_roundg (gk - 1)
            case rel => exact ⟨i + 1, by go_num, by omega, HR2⟩
            case measure => omega
      · obtain rfl : i = N.ps.length := by omega
        have b1 := HR.out.2.cell (i := 1) rfl
        clear hi
        go_wp2
        go_loopg [114] N.ks.length (fun gk v wr => ∃ i : Nat, v = .int .i64 (i : Int) ∧ i + gk = N.ks.length ∧ Hid (Below w.heap.size w wr ∧ BlkAt bx NdT [.slice pa N.ps.length pc, .slice ka N.ks.length kc] wr))
        case atStart => exact ⟨0, rfl, by omega, HR⟩
        case round =>
          clear b0 b1 hbl HR
          obtain ⟨i, rfl, hi, HR⟩ := hrel
          have b0 := HR.out.2.cell (i := 0) rfl
          have b1 := HR.out.2.cell (i := 1) rfl
          have hbl := HR.out.2.lt
          by_cases hlt : i < N.ks.length
          · obtain ⟨kb, rfl, k0⟩ := HK.out i hlt
            have k0 := Grew.cell HR.out.1 k0
            have hkn := HF.out.kids
            have hN0 : N.ks.length ≠ 0 := by omega
            have hps1 : 1 ≤ N.ps.length := by first | exact HF.out.least rfl hN0 | (have := HF.out.four rfl; omega)
            have hsm := HF.out.some hN0
            have hdeep := HF.out.inner hN0
            have hwd : IntKind.i64.wrap (deep - 1) = deep - 1 := IntWalk.i64_in _ (by omega)
            have hcall := HIH.out i hlt wr HR.out.1
            unfold ptrV at hcall
            have hil : (i : Int) < (N.ks.length : Int) := by omega
            have hi9 : (i : Int) ≤ 10 := by omega
            generalize hkk : N.ks[i] = kid at *
            clear hkk hkn hdeep
            rcases Nat.eq_zero_or_pos i with rfl | hpos
            · obtain ⟨pb, rfl, k2, k3⟩ := HP.out 0 hps1
              have k2 := Grew.cell HR.out.1 k2
              have e1 := hsm _ (List.getElem_mem hps1)
              have hf0 : kidFrom N fr 0 = fr := if_neg (by omega)
              have ht0 : kidTo N tk 0 = (N.ps[0]'hps1).1 := by unfold kidTo; rw [if_pos (show 0 < N.ps.length from hps1)]; simp [List.getD, show 0 < N.ps.length from hps1]
              rw [hf0, ht0] at hcall
              have HCall := Lib.hid hcall
              generalize (N.ps[0]'hps1).1 = z at *
              have e0 : ¬ (bs z).toList = [] := by rw [bs_toList]; exact e1
              have e2 : (bs z).toList.isEmpty = false := by
                rw [bs_toList]
                cases z with
                | nil => exact absurd rfl e1
                | cons a b => rfl
              have hpl : (0 : Int) < (N.ps.length : Int) := by omega
              simp only [Nat.zero_mul] at k2
              clear e1 hcall hf0 ht0 k3 hsm
              go_wp2_with (go_at_call 38; (with_reducible refine HCall.out.mono ?_); rintro e w3 ⟨rfl, hb3⟩)
              have HR3 : Hid (Below w.heap.size w w3 ∧ BlkAt bx NdT [.slice (some ⟨pb, 0, none⟩) N.ps.length pc, .slice (some ⟨kb, 0, none⟩) N.ks.length kc] w3) := Lib.hid ⟨HR.out.1.trans (hb3.mono HR.out.1.size), HR.out.2.grew hb3⟩
              clear hb3
              go_roundg (gk - 1)
              case rel => exact ⟨1, by go_num, by omega, HR3⟩
              case measure => omega
            · obtain ⟨pb, rfl, k2, k3⟩ := HP.out (i - 1) (by have := HF.out.kids; omega)
              have k2 := Grew.cell HR.out.1 k2
              have hj : i - 1 < N.ps.length := by have := HF.out.kids; omega
              have hlong := HF.out.long _ (List.getElem_mem hj)
              have hf0 : kidFrom N fr i = (N.ps[i - 1]'hj).1 ++ [0] := by unfold kidFrom; rw [if_pos hpos]; simp [List.getD, hj]
              rw [hf0] at hcall
              generalize (N.ps[i - 1]'hj).1 = y at *
              rw [← bs_append, show bs [0] = ⟨#[0]⟩ from rfl] at hcall
              have hysz : ¬ 9223372036854775807 < (bs y).size + (⟨#[0]⟩ : ByteArray).size := by rw [bs_size]; show ¬ 9223372036854775807 < y.length + 1; omega
              have hpi : (0 : Int) < (i : Int) := by omega
              have hw : IntKind.i64.wrap ((i : Int) - 1) = (i : Int) - 1 := IntWalk.i64_in _ (by omega)
              have h01 : (0 : Int) ≤ (i : Int) - 1 := by omega
              have h02 : (i : Int) - 1 < (N.ps.length : Int) := by omega
              have ht1 : ((i : Int) - 1).toNat = i - 1 := by omega
              clear hf0 k3 hlong
              by_cases hlt2 : i < N.ps.length
              · obtain ⟨pb', hpb', k4, k5⟩ := HP.out i hlt2
                simp only [Option.some.injEq, Addr.mk.injEq, and_true] at hpb'
                subst hpb'
                have k4 := Grew.cell HR.out.1 k4
                have e1 := hsm _ (List.getElem_mem hlt2)
                have ht0 : kidTo N tk i = (N.ps[i]'hlt2).1 := by unfold kidTo; rw [if_pos hlt2]; simp [List.getD, hlt2]
                rw [ht0] at hcall
                have HCall := Lib.hid hcall
                generalize (N.ps[i]'hlt2).1 = z at *
                have e0 : ¬ (bs z).toList = [] := by rw [bs_toList]; exact e1
                have e2 : (bs z).toList.isEmpty = false := by
                  rw [bs_toList]
                  cases z with
                  | nil => exact absurd rfl e1
                  | cons a b => rfl
                have hpl : (i : Int) < (N.ps.length : Int) := by omega
                clear e1 hcall ht0 k5 hsm
                go_wp2_with (go_at_call 38; (with_reducible refine HCall.out.mono ?_); rintro e w3 ⟨rfl, hb3⟩)
                have HR3 : Hid (Below w.heap.size w w3 ∧ BlkAt bx NdT [.slice (some ⟨pb, 0, none⟩) N.ps.length pc, .slice (some ⟨kb, 0, none⟩) N.ks.length kc] w3) := Lib.hid ⟨HR.out.1.trans (hb3.mono HR.out.1.size), HR.out.2.grew hb3⟩
                clear hb3
                go_roundg (gk - 1)
                case rel => exact ⟨i + 1, by go_num, by omega, HR3⟩
                case measure => omega
              · have ht0 : kidTo N tk i = tk := if_neg hlt2
                rw [ht0] at hcall
                have HCall := Lib.hid hcall
                have hpl : ¬ (i : Int) < (N.ps.length : Int) := by omega
                clear hcall ht0 hsm
                cases tk with
                | nil =>
                  have e0 : (bs []).toList = [] := bs_toList []
                  have e1 : (bs []).toList.isEmpty = true := by rw [e0]; rfl
                  go_wp2_with (go_at_call 38; (with_reducible refine HCall.out.mono ?_); rintro e w3 ⟨rfl, hb3⟩)
                  have HR3 : Hid (Below w.heap.size w w3 ∧ BlkAt bx NdT [.slice (some ⟨pb, 0, none⟩) N.ps.length pc, .slice (some ⟨kb, 0, none⟩) N.ks.length kc] w3) := Lib.hid ⟨HR.out.1.trans (hb3.mono HR.out.1.size), HR.out.2.grew hb3⟩
                  clear hb3
                  go_roundg (gk - 1)
                  case rel => exact ⟨i + 1, by go_num, by omega, HR3⟩
                  case measure => omega
                | cons c0 c1 =>
                  have e1 : (bs (c0 :: c1)).toList.isEmpty = false := by rw [bs_toList]; rfl
                  have e0 : ¬ (bs (c0 :: c1)).toList = [] := by rw [bs_toList]; simp
                  go_wp2_with (go_at_call 38; (with_reducible refine HCall.out.mono ?_); rintro e w3 ⟨rfl, hb3⟩)
                  have HR3 : Hid (Below w.heap.size w w3 ∧ BlkAt bx NdT [.slice (some ⟨pb, 0, none⟩) N.ps.length pc, .slice (some ⟨kb, 0, none⟩) N.ks.length kc] w3) := Lib.hid ⟨HR.out.1.trans (hb3.mono HR.out.1.size), HR.out.2.grew hb3⟩
                  clear hb3
                  go_roundg (gk - 1)
                  case rel => exact ⟨i + 1, by go_num, by omega, HR3⟩
                  case measure => omega
          · obtain rfl : i = N.ks.length := by omega
            go_wp2
            go_ret
            exact ⟨rfl, HR.out.1⟩
end
end Go.Proofs.Yteoibolompiohaa
