/- The walk of keep's Save. Conditions: as each theorem says. -/
import Derived.Test.YtbaffabemomgjaaGreatDoorKepW
namespace Go.Proofs.YtbaffabemomgjaaGreatDoor
open Go.RowKit

theorem remove_length (d : Dk) (k : Bys) : (removeD d k).1.m.length ≤ d.m.length := by
  unfold removeD
  split
  · exact Nat.le_refl _
  split
  · rw [act_m]; exact Nat.le_refl _
  · exact del_length_le _ _
theorem append_length (d : Dk) (k x : Bys) : (appendD d k x).1.m.length ≤ d.m.length + 1 := by
  unfold appendD
  split
  · exact Nat.le_succ _
  split
  · exact Nat.le_succ _
  split
  · exact Nat.le_succ _
  · show (actD _).m.length ≤ _
    rw [act_m]; exact put_length_le _ _ _
theorem sync_length (d : Dk) (k : Bys) : (syncD d k).1.m.length ≤ d.m.length + 1 := by
  unfold syncD
  split
  · exact Nat.le_succ _
  split
  · show (actD _).m.length ≤ _
    rw [act_m]; exact Nat.le_succ _
  · exact put_length_le _ _ _
theorem rename_length (d : Dk) (k t : Bys) : (renameD d k t).1.m.length ≤ d.m.length + 1 := by
  unfold renameD
  split
  · exact Nat.le_succ _
  split
  · exact Nat.le_succ _
  split
  · exact Nat.le_succ _
  split
  · show (actD _).m.length ≤ _
    rw [act_m]; exact Nat.le_succ _
  · have h1 := put_length_le (delM d.m k) t (getF d.m k)
    have h2 := del_length_le d.m k
    show (putM _ _ _).length ≤ _
    omega
theorem clear_length (d : Dk) (k : Bys) : (clearD d k).1.m.length ≤ d.m.length := remove_length d k
theorem thenD_length {r : Dk × Int} {f : Dk → Dk × Int} {n : Nat} (h : r.1.m.length ≤ n) (hf : (f r.1).1.m.length ≤ n) : (thenD r f).1.m.length ≤ n := by unfold thenD; split; exact hf; exact h
theorem save_length (d : Dk) (k x : Bys) : (saveD d k x).1.m.length ≤ d.m.length + 3 := by
  unfold saveD
  split
  · exact Nat.le_add_right _ _
  split
  · exact Nat.le_add_right _ _
  split
  · exact Nat.le_add_right _ _
  have c1 := clear_length d (freshN k)
  have c2 := append_length (clearD d (freshN k)).1 (freshN k) (frameL x)
  have c3 := sync_length (appendD (clearD d (freshN k)).1 (freshN k) (frameL x)).1 (freshN k)
  have c4 := rename_length (syncD (appendD (clearD d (freshN k)).1 (freshN k) (frameL x)).1 (freshN k)).1 (freshN k) (fileN k)
  exact thenD_length (by omega) (thenD_length (by omega) (thenD_length (by omega) (by omega)))
theorem bs_cat (a b : Bys) : (⟨a.toArray⟩ : ByteArray) ++ bs b = bs (a ++ b) := bs_append a b
theorem bs_cat2 (a b : Bys) : bs a ++ (⟨b.toArray⟩ : ByteArray) = bs (a ++ b) := bs_append a b
/-- The disk behind the calls till now, and what they left alone. -/
structure Kw (g b : Nat) (w : World) (d : Dk) (W : World) : Prop where
  at_ : DkAt g b d W
  ap : Apart (DkF g b) w W
theorem Kw.grew {g b : Nat} {w : World} {d : Dk} {W W' : World} (h : Kw g b w d W) (hb : Below W.heap.size W W') : Kw g b w d W' := ⟨h.at_.grew hb, h.ap.trans (Apart.of_below (F := DkF g b) hb) (fun i hi => .inl hi)⟩
theorem Kw.done {g b : Nat} {w : World} {d d' : Dk} {W W' : World} {e : Ending} {r : Int} (h : Kw g b w d W) (k : DkDone g b d' r W e W') : e = .returned (.int .i64 r) ∧ Kw g b w d' W' := ⟨k.1, k.2.1, h.ap.trans k.2.2 (fun i hi => .inl hi)⟩
theorem Kw.start {g b : Nat} {w : World} {d : Dk} (h : DkAt g b d w) : Kw g b w d w := ⟨h, Apart.refl _ _⟩
set_option maxRecDepth 100000 in
theorem save_nil (k x : Bys) (w : World) : Calls Tryz.prog 7 #[.pointer none, strV k, strV x] w fun e w' => e = .returned (.int .i64 2) ∧ Below w.heap.size w w' := by
  have HW := Lib.hid (fun W => wrong_nil k W)
  unfold strV at *
  go_enter Tryz.func7, Tryz.ntmps7
  go_wp2_with (go_at_call 23; refine (HW.out _).mono ?_; rintro e w1 ⟨rfl, hb⟩)
  go_ret
  exact ⟨rfl, hb⟩
section
variable {g b : Nat} {d : Dk} {w : World}
set_option maxRecDepth 100000 in
set_option maxHeartbeats 1600000 in
theorem save_bad (h : DkAt g b d w) (k x : Bys) (hk : k.length ≤ maxLen) (hx : x.length ≤ maxLen) (hb : rightN k = false ∨ x = [] ∨ 65536 < x.length) : Calls Tryz.prog 7 #[ptrV g, strV k, strV x] w (DkDone g b (saveD d k x).1 (saveD d k x).2 w) := by
  have HW := Lib.hid (fun W => wrong_any g k hk W)
  have H0 := Lib.hid (Kw.start h)
  have hz := bs_size x
  cases hr : rightN k with
  | false =>
    have e : saveD d k x = (d, 1) := by unfold saveD; rw [if_pos hr]
    rw [e]
    unfold wrongD at HW
    rw [if_pos hr] at HW
    unfold strV ptrV at *
    clear h e hb hz hk hx
    go_enter Tryz.func7, Tryz.ntmps7
    go_wp2_with (go_at_call 23; refine (HW.out _).mono ?_; rintro e w1 ⟨rfl, hb⟩; have H1 := Lib.hid (H0.out.grew hb); clear hb)
    go_ret
    exact ⟨rfl, H1.out.at_, H1.out.ap⟩
  | true =>
    unfold wrongD at HW
    rw [if_neg (by rw [hr]; decide)] at HW
    by_cases h1 : x = []
    · subst h1
      have e : saveD d k [] = (d, 1) := by unfold saveD; rw [if_neg (by rw [hr]; decide), if_pos rfl]
      rw [e]
      have HF := Lib.hid (fun W => frame_none W)
      have e0 : strV [] = .string ⟨#[]⟩ := rfl
      rw [e0]
      unfold strV ptrV at *
      clear h e hb hz hk hx hr e0
      go_enter Tryz.func7, Tryz.ntmps7
      go_wp2_with (first
        | (go_at_call 23; refine (HW.out _).mono ?_; rintro e w1 ⟨rfl, hb⟩; have H1 := Lib.hid (H0.out.grew hb); clear hb)
        | (go_at_call 24; refine (HF.out _).mono ?_; rintro e w2 ⟨rfl, rfl⟩))
      go_ret
      exact ⟨rfl, H1.out.at_, H1.out.ap⟩
    · have h2 : 65536 < x.length := by
        rcases hb with hb | hb | hb
        · rw [hr] at hb; cases hb
        · exact absurd hb h1
        · exact hb
      have e : saveD d k x = (d, 31) := by unfold saveD; rw [if_neg (by rw [hr]; decide), if_neg h1, if_pos h2]
      rw [e]
      have HF := Lib.hid (fun W => frame_big (bs x) (by omega) (by omega) W)
      unfold strV ptrV at *
      clear h e hb hz hk hx hr h1 h2
      go_enter Tryz.func7, Tryz.ntmps7
      go_wp2_with (first
        | (go_at_call 23; refine (HW.out _).mono ?_; rintro e w1 ⟨rfl, hb⟩; have H1 := Lib.hid (H0.out.grew hb); clear hb)
        | (go_at_call 24; refine (HF.out _).mono ?_; rintro e w2 ⟨rfl, rfl⟩))
      go_ret
      exact ⟨rfl, H1.out.at_, H1.out.ap⟩
set_option maxRecDepth 100000 in
set_option maxHeartbeats 1600000 in
theorem save_good (h : DkAt g b d w) (hf : d.fit) (hn : d.m.length < 900000) (k x : Bys) (hr : rightN k = true) (h1 : x ≠ []) (h2 : x.length ≤ 65536) : Calls Tryz.prog 7 #[ptrV g, strV k, strV x] w (DkDone g b (saveD d k x).1 (saveD d k x).2 w) := by
  have hkl := (right_len hr).2
  have hm : maxLen = 2 ^ 63 - 1 := rfl
  have HW := Lib.hid (fun W => wrong_any g k (by omega) W)
  unfold wrongD at HW
  rw [if_neg (by rw [hr]; decide)] at HW
  have hz := bs_size x
  have h0 : 0 < x.length := by cases x with | nil => exact absurd rfl h1 | cons a r => simp
  have HF := Lib.hid (fun W => frame_good (bs x) (by omega) (by omega) W)
  rw [bs_data] at HF
  have H0 := Lib.hid (Kw.start h)
  have hFl := fresh_len k
  have hTl := file_len k
  have hfl := frame_length x
  have e0 : saveD d k x = thenD (clearD d (freshN k)) fun d1 => thenD (appendD d1 (freshN k) (frameL x)) fun d2 => thenD (syncD d2 (freshN k)) fun d3 => renameD d3 (freshN k) (fileN k) := by
    unfold saveD
    rw [if_neg (by rw [hr]; decide), if_neg h1, if_neg (by omega)]
  obtain ⟨R, hR⟩ : ∃ R, R = saveD d k x := ⟨_, rfl⟩
  rw [← hR]
  rw [e0] at hR
  have hR := Lib.hid hR
  have hc1 : (⟨#[107, 101, 101, 112, 45]⟩ : ByteArray) ++ bs k = bs (fileN k) := bs_cat keepP k
  have hc2 : bs (fileN k) ++ (⟨#[46, 110, 101, 119]⟩ : ByteArray) = bs (freshN k) := bs_cat2 (fileN k) newS
  have hs1 : (bs k).size ≤ 20 := by rw [bs_size]; exact hkl
  have hs2 : (bs (fileN k)).size ≤ 25 := by rw [bs_size]; omega
  have KC := Lib.hid (fun W (hD : Kw g b w d W) => clear_any hD.at_ hf (freshN k) (by omega))
  have cf := clear_fit hf (freshN k)
  have cl := clear_length d (freshN k)
  generalize clearD d (freshN k) = c at *
  have KA := Lib.hid (fun W (hD : Kw g b w c.1 W) => append_any hD.at_ cf (by omega) (freshN k) (frameL x) (by omega) (by omega))
  have af := append_fit cf (freshN k) (frameL x)
  have al := append_length c.1 (freshN k) (frameL x)
  have KS := Lib.hid (fun W (hD : Kw g b w (appendD c.1 (freshN k) (frameL x)).1 W) => sync_any hD.at_ af (by omega) (freshN k) (by omega))
  have sf := sync_fit af (freshN k)
  have sl := sync_length (appendD c.1 (freshN k) (frameL x)).1 (freshN k)
  have KR := Lib.hid (fun W (hD : Kw g b w (syncD (appendD c.1 (freshN k) (frameL x)).1 (freshN k)).1 W) => rename_any hD.at_ sf (by omega) (freshN k) (fileN k) (by omega) (by omega))
  unfold strV ptrV at *
  have hbs : (⟨(frameL x).toArray⟩ : ByteArray) = bs (frameL x) := rfl
  rw [hbs] at HF
  clear h hf hn hr h1 h2 hkl hm hz h0 hFl hTl hfl e0 cf cl af al sf sl hbs
  generalize freshN k = F at *
  generalize fileN k = T at *
  generalize frameL x = y at *
  go_enter Tryz.func7, Tryz.ntmps7
  go_wp2_with (fail)
  refine (HW.out _).mono ?_
  rintro e w1 ⟨rfl, hb⟩
  have H1 := Lib.hid (H0.out.grew hb)
  clear hb H0 HW
  go_wp2_with (fail)
  refine (HF.out _).mono ?_
  rintro e w2 ⟨rfl, hb⟩
  have H2 := Lib.hid (H1.out.grew hb)
  clear hb H1 HF
  go_wp2_with (fail)
  refine (KC.out _ H2.out).mono ?_
  rintro e w3 hk
  obtain ⟨rfl, hS⟩ := H2.out.done hk
  have H3 := Lib.hid hS
  clear hk hS H2 KC
  by_cases z1 : c.2 = 0
  case neg =>
    have hR2 := Lib.hid (hR.out.trans (thenD_bad z1 _))
    clear hR
    have z1' : (c.2 == 0) = false := beq_eq_false_iff_ne.2 z1
    clear KA KS KR z1
    go_wp2
    go_ret
    rw [hR2.out]
    exact ⟨rfl, H3.out.at_, H3.out.ap⟩
  have hR := Lib.hid (hR.out.trans (thenD_ok z1 _))
  rw [z1]
  clear z1
  go_wp2_with (fail)
  refine (KA.out _ H3.out).mono ?_
  rintro e w4 hk
  obtain ⟨rfl, hS⟩ := H3.out.done hk
  have H4 := Lib.hid hS
  clear hk hS H3 KA
  generalize appendD c.1 F y = a at *
  by_cases z1 : a.2 = 0
  case neg =>
    have hR2 := Lib.hid (hR.out.trans (thenD_bad z1 _))
    clear hR
    have z1' : (a.2 == 0) = false := beq_eq_false_iff_ne.2 z1
    clear KS KR z1
    go_wp2
    go_ret
    rw [hR2.out]
    exact ⟨rfl, H4.out.at_, H4.out.ap⟩
  have hR := Lib.hid (hR.out.trans (thenD_ok z1 _))
  rw [z1]
  clear z1
  go_wp2_with (fail)
  refine (KS.out _ H4.out).mono ?_
  rintro e w5 hk
  obtain ⟨rfl, hS⟩ := H4.out.done hk
  have H5 := Lib.hid hS
  clear hk hS H4 KS
  generalize syncD a.1 F = s at *
  by_cases z1 : s.2 = 0
  case neg =>
    have hR2 := Lib.hid (hR.out.trans (thenD_bad z1 _))
    clear hR
    have z1' : (s.2 == 0) = false := beq_eq_false_iff_ne.2 z1
    clear KR z1
    go_wp2
    go_ret
    rw [hR2.out]
    exact ⟨rfl, H5.out.at_, H5.out.ap⟩
  have hR := Lib.hid (hR.out.trans (thenD_ok z1 _))
  rw [z1]
  clear z1
  go_wp2_with (fail)
  refine (KR.out _ H5.out).mono ?_
  rintro e w6 hk
  obtain ⟨rfl, hS⟩ := H5.out.done hk
  have H6 := Lib.hid hS
  clear hk hS H5 KR
  go_wp2
  go_ret
  rw [hR.out]
  exact ⟨rfl, H6.out.at_, H6.out.ap⟩
theorem save_any (h : DkAt g b d w) (hf : d.fit) (hn : d.m.length < 900000) (k x : Bys) (hk : k.length ≤ maxLen) (hx : x.length ≤ maxLen) : Calls Tryz.prog 7 #[ptrV g, strV k, strV x] w (DkDone g b (saveD d k x).1 (saveD d k x).2 w) := by
  by_cases c : rightN k = false ∨ x = [] ∨ 65536 < x.length
  · exact save_bad h k x hk hx c
  · exact save_good h hf hn k x (by cases hr : rightN k with | true => rfl | false => exact absurd (.inl hr) c) (fun e => c (.inr (.inl e))) (Nat.le_of_not_lt (fun e => c (.inr (.inr e))))
end
end Go.Proofs.YtbaffabemomgjaaGreatDoor
