/- The reference's Save and Load. Conditions: as each theorem says. -/
import Derived.Test.YtbaffabemomgjaaGreatDoorRfH
import Derived.Test.YtbaffabemomgjaaGreatDoorRNext
namespace Go.Proofs.YtbaffabemomgjaaGreatDoor
open Go.RowKit

structure Rw (base g : Nat) (w : World) (d : Dk) (W : World) : Prop where
  at_ : RdAt base g d W
  ap : Apart (Up base) w W
section
variable {base g : Nat} {d d' : Dk} {w W W' : World}
theorem Rw.grew (h : Rw base g w d W) (hb : Below W.heap.size W W') : Rw base g w d W' := ⟨h.at_.grew hb, up_trans h.ap (up_below hb)⟩
theorem Rw.done {e : Ending} {r : Int} (h : Rw base g w d W) (k : RdDone base g d' r W e W') : e = .returned (.int .i64 r) ∧ Rw base g w d' W' := ⟨k.1, k.2.1, up_trans h.ap k.2.2⟩
theorem Rw.start (h : RdAt base g d w) : Rw base g w d w := ⟨h, up_refl⟩
theorem clear_there {d : Dk} {k : Bys} (h : thereD d k = 0) : clearD d k = removeD d k := by
  unfold clearD
  have : (removeD d k).2 ≠ 21 := by
    unfold removeD
    rw [if_neg (by rw [h]; decide)]
    split <;> simp
  rw [if_neg this]
theorem clear_not {d : Dk} {k : Bys} (h : thereD d k = 21) : clearD d k = (d, 0) := by
  unfold clearD removeD
  rw [if_pos (by rw [h]; decide), h]
  rfl
theorem clear_dead {d : Dk} {k : Bys} (h : thereD d k = 20) : clearD d k = (d, 20) := by
  unfold clearD removeD
  rw [if_pos (by rw [h]; decide), h]
  rfl
theorem read_code2 (d : Dk) (k : Bys) : (readD d k).2 = thereD d k := by
  unfold readD
  split
  · rfl
  · rename_i h; simp at h; exact h.symm
set_option maxRecDepth 100000 in
set_option maxHeartbeats 1600000 in
theorem rsave_bad (h : RdAt base g d w) (k x : Bys) (hk : k.length ≤ maxLen) (hx : x.length ≤ maxLen) (hb : rightN k = false ∨ x = [] ∨ 65536 < x.length) : Calls Tryz.prog 8 #[ptrV g, strV k, strV x] w (RdDone base g (saveD d k x).1 (saveD d k x).2 w) := by
  have HW := Lib.hid (fun W => right_any k hk W)
  have H0 := Lib.hid (Rw.start h)
  have hz := bs_size x
  cases hr : rightN k with
  | false =>
    have e : saveD d k x = (d, 1) := by unfold saveD; rw [if_pos hr]
    rw [e]
    rw [hr] at HW
    unfold strV ptrV at *
    clear h e hb hz hk hx hr
    go_enter Tryz.func8, Tryz.ntmps8
    go_wp2_with (go_at_call 28; refine (HW.out _).mono ?_; rintro e w1 ⟨rfl, rfl⟩)
    go_ret
    exact ⟨rfl, H0.out.at_, H0.out.ap⟩
  | true =>
    rw [hr] at HW
    by_cases h1 : x = []
    · subst h1
      have e : saveD d k [] = (d, 1) := by unfold saveD; rw [if_neg (by rw [hr]; decide), if_pos rfl]
      rw [e]
      have HF := Lib.hid (fun W => refframe_none W)
      have e0 : strV [] = .string ⟨#[]⟩ := rfl
      rw [e0]
      unfold strV ptrV at *
      clear h e hb hz hk hx hr e0
      go_enter Tryz.func8, Tryz.ntmps8
      go_wp2_with (first
        | (go_at_call 28; refine (HW.out _).mono ?_; rintro e w1 ⟨rfl, rfl⟩)
        | (go_at_call 29; refine (HF.out _).mono ?_; rintro e w2 ⟨rfl, rfl⟩))
      go_ret
      exact ⟨rfl, H0.out.at_, H0.out.ap⟩
    · have h2 : 65536 < x.length := by
        rcases hb with hb | hb | hb
        · rw [hr] at hb; cases hb
        · exact absurd hb h1
        · exact hb
      have e : saveD d k x = (d, 31) := by unfold saveD; rw [if_neg (by rw [hr]; decide), if_neg h1, if_pos h2]
      rw [e]
      have HF := Lib.hid (fun W => refframe_big (bs x) (by omega) (by omega) W)
      unfold strV ptrV at *
      clear h e hb hz hk hx hr h1 h2
      go_enter Tryz.func8, Tryz.ntmps8
      go_wp2_with (first
        | (go_at_call 28; refine (HW.out _).mono ?_; rintro e w1 ⟨rfl, rfl⟩)
        | (go_at_call 29; refine (HF.out _).mono ?_; rintro e w2 ⟨rfl, rfl⟩))
      go_ret
      exact ⟨rfl, H0.out.at_, H0.out.ap⟩
set_option maxRecDepth 100000 in
set_option maxHeartbeats 1600000 in
theorem rsave_good (h : RdAt base g d w) (hf : d.fit) (hn : d.m.length < 700000) (k x : Bys) (hr : rightN k = true) (h1 : x ≠ []) (h2 : x.length ≤ 65536) : Calls Tryz.prog 8 #[ptrV g, strV k, strV x] w (RdDone base g (saveD d k x).1 (saveD d k x).2 w) := by
  have hkl := (right_len hr).2
  have hm : maxLen = 2 ^ 63 - 1 := rfl
  have HW := Lib.hid (fun W => right_any k (by omega) W)
  rw [hr] at HW
  have hz := bs_size x
  have h0 : 0 < x.length := by cases x with | nil => exact absurd rfl h1 | cons a r => simp
  have HF := Lib.hid (fun W => refframe_good (bs x) (by omega) (by omega) W)
  rw [bs_data] at HF
  have H0 := Lib.hid (Rw.start h)
  have hFl := fresh_len k
  have hTl := file_len k
  have hfl := frame_length x
  have e0 : saveD d k x = thenD (clearD d (freshN k)) fun d1 => thenD (appendD d1 (freshN k) (frameL x)) fun d2 => thenD (syncD d2 (freshN k)) fun d3 => renameD d3 (freshN k) (fileN k) := by
    unfold saveD
    rw [if_neg (by rw [hr]; decide), if_neg h1, if_neg (by omega)]
  obtain ⟨R, hR⟩ : ∃ R, R = saveD d k x := ⟨_, rfl⟩
  rw [← hR]
  rw [e0] at hR
  have hR := Lib.hid hR
  have hc1 : (⟨#[107, 101, 101, 112, 45]⟩ : ByteArray) ++ bs k = bs (fileN k) := bs_cat keepP k
  have hc2 : bs (fileN k) ++ (⟨#[46, 110, 101, 119]⟩ : ByteArray) = bs (freshN k) := bs_cat2 (fileN k) newS
  have hs1 : (bs k).size ≤ 20 := by rw [bs_size]; exact hkl
  have hs2 : (bs (fileN k)).size ≤ 25 := by rw [bs_size]; omega
  have hrc := read_code2 d (freshN k)
  have htc := there_cases d (freshN k)
  have c1 := clear_there (d := d) (k := freshN k)
  have c2 := clear_not (d := d) (k := freshN k)
  have c3 := clear_dead (d := d) (k := freshN k)
  have KRd := Lib.hid (fun W (hD : Rw base g w d W) => rread_any hD.at_ hf (by omega) (freshN k))
  have KC := Lib.hid (fun W (hD : Rw base g w d W) => rremove_any hD.at_ hf (by omega) (freshN k))
  have cf := clear_fit hf (freshN k)
  have cl := clear_length d (freshN k)
  generalize readD d (freshN k) = rd at *
  obtain ⟨rs, rz⟩ := rd
  simp only at hrc KRd
  rw [← hrc] at htc c1 c2 c3
  clear hrc
  obtain ⟨c, hc⟩ : ∃ c, c = clearD d (freshN k) := ⟨_, rfl⟩
  rw [← hc] at hR cf cl c1 c2 c3
  have KA := Lib.hid (fun W (hD : Rw base g w c.1 W) => rappend_any hD.at_ cf (by omega) (freshN k) (frameL x) (by omega))
  have af := append_fit cf (freshN k) (frameL x)
  have al := append_length c.1 (freshN k) (frameL x)
  have KS := Lib.hid (fun W (hD : Rw base g w (appendD c.1 (freshN k) (frameL x)).1 W) => rsync_any hD.at_ af (by omega) (freshN k))
  have sf := sync_fit af (freshN k)
  have sl := sync_length (appendD c.1 (freshN k) (frameL x)).1 (freshN k)
  have KR := Lib.hid (fun W (hD : Rw base g w (syncD (appendD c.1 (freshN k) (frameL x)).1 (freshN k)).1 W) => rrename_any hD.at_ sf (by omega) (freshN k) (fileN k))
  unfold strV ptrV at *
  have hbs : (⟨(frameL x).toArray⟩ : ByteArray) = bs (frameL x) := rfl
  rw [hbs] at HF
  clear h hf hn hr h1 h2 hkl hm hz h0 hFl hTl hfl e0 cf cl af al sf sl hbs hc
  generalize freshN k = F at *
  generalize fileN k = T at *
  generalize frameL x = y at *
  go_enter Tryz.func8, Tryz.ntmps8
  go_wp2_with (fail)
  refine (HW.out _).mono ?_
  rintro e w1 ⟨rfl, rfl⟩
  go_wp2_with (fail)
  refine (HF.out _).mono ?_
  rintro e w2 ⟨rfl, hb⟩
  have H2 := Lib.hid (H0.out.grew hb)
  clear hb H0 HF HW
  go_wp2_with (fail)
  refine (KRd.out _ H2.out).mono ?_
  rintro e w3 ⟨rfl, rfl⟩
  clear KRd
  rcases (show rz = 0 ∨ rz = 21 ∨ rz = 20 by omega) with t | t | t
  · as_aux_lemma =>
    have e := c1 t
    subst t
    clear c1 c2 c3
    rw [← e] at KC
    clear e
    go_wp2_with (fail)
    refine (KC.out _ H2.out).mono ?_
    rintro e w4 hk
    obtain ⟨rfl, hS⟩ := H2.out.done hk
    have H3 := Lib.hid hS
    clear hk hS H2 KC
    by_cases z1 : c.2 = 0
    case neg =>
      have hR2 := Lib.hid (hR.out.trans (thenD_bad z1 _))
      clear hR
      have z1' : (c.2 == 0) = false := beq_eq_false_iff_ne.2 z1
      clear KA KS KR z1
      go_wp2
      go_ret
      rw [hR2.out]
      exact ⟨rfl, H3.out.at_, H3.out.ap⟩
    have hR := Lib.hid (hR.out.trans (thenD_ok z1 _))
    rw [z1]
    clear z1
    go_wp2_with (fail)
    refine (KA.out _ H3.out).mono ?_
    rintro e w5 hk
    obtain ⟨rfl, hS⟩ := H3.out.done hk
    have H4 := Lib.hid hS
    clear hk hS H3 KA
    generalize appendD c.1 F y = a at *
    by_cases z1 : a.2 = 0
    case neg =>
      have hR2 := Lib.hid (hR.out.trans (thenD_bad z1 _))
      clear hR
      have z1' : (a.2 == 0) = false := beq_eq_false_iff_ne.2 z1
      clear KS KR z1
      go_wp2
      go_ret
      rw [hR2.out]
      exact ⟨rfl, H4.out.at_, H4.out.ap⟩
    have hR := Lib.hid (hR.out.trans (thenD_ok z1 _))
    rw [z1]
    clear z1
    go_wp2_with (fail)
    refine (KS.out _ H4.out).mono ?_
    rintro e w6 hk
    obtain ⟨rfl, hS⟩ := H4.out.done hk
    have H5 := Lib.hid hS
    clear hk hS H4 KS
    generalize syncD a.1 F = s at *
    by_cases z1 : s.2 = 0
    case neg =>
      have hR2 := Lib.hid (hR.out.trans (thenD_bad z1 _))
      clear hR
      have z1' : (s.2 == 0) = false := beq_eq_false_iff_ne.2 z1
      clear KR z1
      go_wp2
      go_ret
      rw [hR2.out]
      exact ⟨rfl, H5.out.at_, H5.out.ap⟩
    have hR := Lib.hid (hR.out.trans (thenD_ok z1 _))
    rw [z1]
    clear z1
    go_wp2_with (fail)
    refine (KR.out _ H5.out).mono ?_
    rintro e w7 hk
    obtain ⟨rfl, hS⟩ := H5.out.done hk
    have H6 := Lib.hid hS
    clear hk hS H5 KR
    go_wp2
    go_ret
    rw [hR.out]
    exact ⟨rfl, H6.out.at_, H6.out.ap⟩
  · as_aux_lemma =>
    have e := c2 t
    subst t
    clear c1 c2 c3 KC
    have H3 : Hid (Rw base g w c.1 w2) := Lib.hid (by rw [e]; exact H2.out)
    have hc0 : (0 : Int) = c.2 := by rw [e]
    clear e H2
    have hR := Lib.hid (hR.out.trans (thenD_ok hc0.symm _))
    clear hc0
    go_wp2_with (fail)
    refine (KA.out _ H3.out).mono ?_
    rintro e w5 hk
    obtain ⟨rfl, hS⟩ := H3.out.done hk
    have H4 := Lib.hid hS
    clear hk hS H3 KA
    generalize appendD c.1 F y = a at *
    by_cases z1 : a.2 = 0
    case neg =>
      have hR2 := Lib.hid (hR.out.trans (thenD_bad z1 _))
      clear hR
      have z1' : (a.2 == 0) = false := beq_eq_false_iff_ne.2 z1
      clear KS KR z1
      go_wp2
      go_ret
      rw [hR2.out]
      exact ⟨rfl, H4.out.at_, H4.out.ap⟩
    have hR := Lib.hid (hR.out.trans (thenD_ok z1 _))
    rw [z1]
    clear z1
    go_wp2_with (fail)
    refine (KS.out _ H4.out).mono ?_
    rintro e w6 hk
    obtain ⟨rfl, hS⟩ := H4.out.done hk
    have H5 := Lib.hid hS
    clear hk hS H4 KS
    generalize syncD a.1 F = s at *
    by_cases z1 : s.2 = 0
    case neg =>
      have hR2 := Lib.hid (hR.out.trans (thenD_bad z1 _))
      clear hR
      have z1' : (s.2 == 0) = false := beq_eq_false_iff_ne.2 z1
      clear KR z1
      go_wp2
      go_ret
      rw [hR2.out]
      exact ⟨rfl, H5.out.at_, H5.out.ap⟩
    have hR := Lib.hid (hR.out.trans (thenD_ok z1 _))
    rw [z1]
    clear z1
    go_wp2_with (fail)
    refine (KR.out _ H5.out).mono ?_
    rintro e w7 hk
    obtain ⟨rfl, hS⟩ := H5.out.done hk
    have H6 := Lib.hid hS
    clear hk hS H5 KR
    go_wp2
    go_ret
    rw [hR.out]
    exact ⟨rfl, H6.out.at_, H6.out.ap⟩
  · as_aux_lemma =>
    have e := c3 t
    subst t
    clear c1 c2 c3 KC KA KS KR
    have hR2 := Lib.hid (hR.out.trans (thenD_bad (by rw [e]; show (20 : Int) ≠ 0; decide) _))
    rw [e] at hR2
    clear hR e
    go_wp2
    go_ret
    rw [hR2.out]
    exact ⟨rfl, H2.out.at_, H2.out.ap⟩
theorem rsave_any (h : RdAt base g d w) (hf : d.fit) (hn : d.m.length < 700000) (k x : Bys) (hk : k.length ≤ maxLen) (hx : x.length ≤ maxLen) : Calls Tryz.prog 8 #[ptrV g, strV k, strV x] w (RdDone base g (saveD d k x).1 (saveD d k x).2 w) := by
  by_cases c : rightN k = false ∨ x = [] ∨ 65536 < x.length
  · exact rsave_bad h k x hk hx c
  · exact rsave_good h hf hn k x (by cases hr : rightN k with | true => rfl | false => exact absurd (.inl hr) c) (fun e => c (.inr (.inl e))) (Nat.le_of_not_lt (fun e => c (.inr (.inr e))))
set_option maxRecDepth 100000 in
set_option maxHeartbeats 1600000 in
theorem rload_any (h : RdAt base g d w) (hf : d.fit) (hn : d.m.length < 700000) (k : Bys) (hk : k.length ≤ maxLen) : Calls Tryz.prog 10 #[ptrV g, strV k] w (LoadSaid d k w) := by
  have HW := Lib.hid (fun W => right_any k hk W)
  have e00 : strV [] = .string ⟨#[]⟩ := rfl
  unfold LoadSaid
  cases hr : rightN k with
  | false =>
    as_aux_lemma =>
    have e : loadD d k = ([], 1) := by unfold loadD; rw [if_pos hr]
    rw [hr] at HW
    rw [e, e00]
    unfold strV ptrV at *
    clear h e hk e00
    go_enter Tryz.func10, Tryz.ntmps10
    go_wp2_with (go_at_call 28; refine (HW.out _).mono ?_; rintro e w1 ⟨rfl, rfl⟩)
    go_ret2
    exact ⟨rfl, Below.refl _ _⟩
  | true =>
    rw [hr] at HW
    have hkl := (right_len hr).2
    have hTl := file_len k
    have hc1 : (⟨#[107, 101, 101, 112, 45]⟩ : ByteArray) ++ bs k = bs (fileN k) := bs_cat keepP k
    have hs1 : (bs k).size ≤ 20 := by rw [bs_size]; exact hkl
    have hm : maxLen = 2 ^ 63 - 1 := rfl
    have HR := Lib.hid (rread_any h hf (by omega) (fileN k))
    have hrl := read_length hf (fileN k)
    have hL : loadD d k = if (readD d (fileN k)).2 ≠ 0 then ([], (readD d (fileN k)).2) else if nErr (readD d (fileN k)).1 ≠ 0 ∨ nUsed (readD d (fileN k)).1 ≠ (readD d (fileN k)).1.length then ([], 23) else (nBody (readD d (fileN k)).1, 0) := by
      unfold loadD
      rw [if_neg (by rw [hr]; decide)]
    generalize readD d (fileN k) = r at *
    obtain ⟨s, z⟩ := r
    simp only at hL HR hrl
    obtain ⟨R, hR⟩ : ∃ R, R = loadD d k := ⟨_, rfl⟩
    rw [← hR]
    rw [← hR] at hL
    have hz := bs_size s
    have HN := Lib.hid (fun W => refnext_any (bs s) (by rw [hz]; omega) W)
    unfold NextSaid at HN
    rw [bs_data] at HN
    generalize fileN k = T at *
    by_cases z0 : z = 0
    case neg =>
      as_aux_lemma =>
      rw [if_pos z0] at hL
      have z0' : (z == 0) = false := beq_eq_false_iff_ne.2 z0
      rw [hL, e00]
      unfold strV ptrV at *
      clear h hk e00 hL hR hr hkl hTl hm hrl HN z0
      go_enter Tryz.func10, Tryz.ntmps10
      go_wp2_with (fail)
      refine (HW.out _).mono ?_
      rintro e w1 ⟨rfl, rfl⟩
      go_wp2_with (fail)
      refine HR.out.mono ?_
      rintro e w2 ⟨rfl, rfl⟩
      go_wp2
      go_ret2
      exact ⟨rfl, Below.refl _ _⟩
    subst z0
    rw [if_neg (by decide)] at hL
    have hbd : (⟨(nBody s).toArray⟩ : ByteArray) = bs (nBody s) := rfl
    rw [hbd] at HN
    clear hbd
    generalize nBody s = B at *
    by_cases e1 : nErr s = 0
    case neg =>
      as_aux_lemma =>
      rw [if_pos (.inl e1)] at hL
      have e1' : (((nErr s : Nat) : Int) == 0) = false := beq_eq_false_iff_ne.2 (by omega)
      generalize nErr s = E at *
      generalize nUsed s = U at *
      rw [hL, e00]
      unfold strV ptrV at *
      clear h hk e00 hL hR hr hkl hTl hm hrl e1
      go_enter Tryz.func10, Tryz.ntmps10
      go_wp2_with (fail)
      refine (HW.out _).mono ?_
      rintro e w1 ⟨rfl, rfl⟩
      go_wp2_with (fail)
      refine HR.out.mono ?_
      rintro e w2 ⟨rfl, rfl⟩
      go_wp2_with (fail)
      refine (HN.out _).mono ?_
      rintro e w3 ⟨rfl, hb3⟩
      go_wp2
      go_ret2
      exact ⟨rfl, hb3⟩
    rw [e1] at HN
    by_cases u1 : nUsed s = s.length
    case neg =>
      as_aux_lemma =>
      rw [if_pos (.inr u1)] at hL
      have u1' : (((nUsed s : Nat) : Int) == ((bs s).size : Int)) = false := beq_eq_false_iff_ne.2 (by rw [hz]; omega)
      generalize nUsed s = U at *
      rw [hL, e00]
      unfold strV ptrV at *
      clear h hk e00 hL hR hr hkl hTl hm hrl e1 u1
      go_enter Tryz.func10, Tryz.ntmps10
      go_wp2_with (fail)
      refine (HW.out _).mono ?_
      rintro e w1 ⟨rfl, rfl⟩
      go_wp2_with (fail)
      refine HR.out.mono ?_
      rintro e w2 ⟨rfl, rfl⟩
      go_wp2_with (fail)
      refine (HN.out _).mono ?_
      rintro e w3 ⟨rfl, hb3⟩
      go_wp2
      go_ret2
      exact ⟨rfl, hb3⟩
    rw [if_neg (by intro c; rcases c with c | c; exact c e1; exact c u1)] at hL
    rw [u1, ← hz] at HN
    rw [hL]
    unfold strV ptrV at *
    clear h hk e00 hL hR hr hkl hTl hm hrl e1 u1
    go_enter Tryz.func10, Tryz.ntmps10
    go_wp2_with (fail)
    refine (HW.out _).mono ?_
    rintro e w1 ⟨rfl, rfl⟩
    go_wp2_with (fail)
    refine HR.out.mono ?_
    rintro e w2 ⟨rfl, rfl⟩
    go_wp2_with (fail)
    refine (HN.out _).mono ?_
    rintro e w3 ⟨rfl, hb3⟩
    go_wp2
    go_ret2
    exact ⟨rfl, hb3⟩
end
end Go.Proofs.YtbaffabemomgjaaGreatDoor
