/- The walks of keep's Load and Tidy. Conditions: as each theorem says. -/
import Derived.Test.YtbaffabemomgjaaGreatDoorKepV
namespace Go.Proofs.YtbaffabemomgjaaGreatDoor
open Go.RowKit

theorem Grow.away {α : Type} {T : TypeId} {k : Nat} {enc : α → List Value} {base : Nat} {v : Value} {L : List α} {w w' : World} {F : Nat → Prop} (h : Grow T k enc base v L w) (hA : Apart F w w') (hF : ∀ i, F i → i < base) : Grow T k enc base v L w' := by
  refine ⟨h.1, ?_⟩
  rcases h.2 with h2 | ⟨g, cap, cur, hv, hg, hh, r⟩
  · exact .inl h2
  · exact .inr ⟨g, cap, cur, hv, hg, by rw [hA.block g (Array.getElem?_eq_some_iff.1 hh).1 (fun hf => by have := hF g hf; omega)]; exact hh, r⟩
theorem read_length {d : Dk} (hf : d.fit) (k : Bys) : (readD d k).1.length ≤ 1073741824 := by
  unfold readD
  split
  · simp
  · have h1 := getF_len (M := d.m) k
    have h2 := size_le_total hf.sorted k
    have h3 := hf.used
    have h4 := hf.hi
    simp only
    omega
theorem pre_any (n : Bys) (W : World) : Calls Tryz.prog 35 #[.string (bs n), .string ⟨#[107, 101, 101, 112, 45]⟩] W fun e w' => e = .returned (.bool (keepP.isPrefixOf n)) ∧ w' = W := by
  have h := Any.strings_HasPrefix Tryz.hasPrefix (bs n) (bs keepP) W
  rw [bs_data, bs_data] at h
  exact h
theorem suf_any (n : Bys) (hn : n.length ≤ maxLen) (W : World) : Calls Tryz.prog 36 #[.string (bs n), .string ⟨#[46, 110, 101, 119]⟩] W fun e w' => e = .returned (.bool (newS.isSuffixOf n)) ∧ w' = W := by
  have h := Any.strings_HasSuffix Tryz.hasSuffix (bs n) (bs newS) W (by rw [bs_size]; unfold maxLen at hn; omega)
  rw [bs_data, bs_data] at h
  exact h
set_option maxRecDepth 100000 in
theorem load_nil (k : Bys) (w : World) : Calls Tryz.prog 9 #[.pointer none, strV k] w fun e w' => e = .returned (.tuple #[.string ⟨#[]⟩, .int .i64 2]) ∧ Below w.heap.size w w' := by
  have HW := Lib.hid (fun W => wrong_nil k W)
  unfold strV at *
  go_enter Tryz.func9, Tryz.ntmps9
  go_wp2_with (go_at_call 23; refine (HW.out _).mono ?_; rintro e w1 ⟨rfl, hb⟩)
  go_ret2
  exact ⟨rfl, hb⟩
set_option maxRecDepth 100000 in
theorem tidy_nil (w : World) : Calls Tryz.prog 11 #[.pointer none] w fun e w' => e = .returned (.int .i64 2) ∧ Below w.heap.size w w' := by
  go_enter Tryz.func11, Tryz.ntmps11
  go_wp2
  go_ret
  exact ⟨rfl, Below.refl _ _⟩
section
variable {g b : Nat} {d : Dk} {w : World}
def LoadSaid (d : Dk) (k : Bys) (w : World) (e : Ending) (w' : World) : Prop := e = .returned (.tuple #[strV (loadD d k).1, .int .i64 (loadD d k).2]) ∧ Below w.heap.size w w'
set_option maxRecDepth 100000 in
set_option maxHeartbeats 1600000 in
theorem load_any (h : DkAt g b d w) (hf : d.fit) (k : Bys) (hk : k.length ≤ maxLen) : Calls Tryz.prog 9 #[ptrV g, strV k] w (LoadSaid d k w) := by
  have HW := Lib.hid (fun W => wrong_any g k hk W)
  have e00 : strV [] = .string ⟨#[]⟩ := rfl
  unfold wrongD at HW
  unfold LoadSaid
  cases hr : rightN k with
  | false =>
    have e : loadD d k = ([], 1) := by unfold loadD; rw [if_pos hr]
    rw [if_pos hr] at HW
    rw [e, e00]
    unfold strV ptrV at *
    clear h e hk e00
    go_enter Tryz.func9, Tryz.ntmps9
    go_wp2_with (go_at_call 23; refine (HW.out _).mono ?_; rintro e w1 ⟨rfl, hb⟩)
    go_ret2
    exact ⟨rfl, hb⟩
  | true =>
    rw [if_neg (by rw [hr]; decide)] at HW
    have hkl := (right_len hr).2
    have hTl := file_len k
    have hc1 : (⟨#[107, 101, 101, 112, 45]⟩ : ByteArray) ++ bs k = bs (fileN k) := bs_cat keepP k
    have hs1 : (bs k).size ≤ 20 := by rw [bs_size]; exact hkl
    have hm : maxLen = 2 ^ 63 - 1 := rfl
    have HR := Lib.hid (fun W (hW : DkAt g b d W) => read_any hW (fileN k) (by omega))
    have H0 := Lib.hid (fun W (hb : Below w.heap.size w W) => h.grew hb)
    have hrl := read_length hf (fileN k)
    have hL : loadD d k = if (readD d (fileN k)).2 ≠ 0 then ([], (readD d (fileN k)).2) else if nErr (readD d (fileN k)).1 ≠ 0 ∨ nUsed (readD d (fileN k)).1 ≠ (readD d (fileN k)).1.length then ([], 23) else (nBody (readD d (fileN k)).1, 0) := by
      unfold loadD
      rw [if_neg (by rw [hr]; decide)]
    generalize readD d (fileN k) = r at *
    obtain ⟨s, z⟩ := r
    simp only at hL HR hrl
    obtain ⟨R, hR⟩ : ∃ R, R = loadD d k := ⟨_, rfl⟩
    rw [← hR]
    rw [← hR] at hL
    have hz := bs_size s
    have HN := Lib.hid (fun W => next_any (bs s) (by rw [hz]; omega) W)
    unfold NextSaid at HN
    rw [bs_data] at HN
    generalize fileN k = T at *
    by_cases z0 : z = 0
    case neg =>
      rw [if_pos z0] at hL
      have z0' : (z == 0) = false := beq_eq_false_iff_ne.2 z0
      rw [hL, e00]
      unfold strV ptrV at *
      clear h hk e00 hL hR hr hkl hTl hm hrl HN z0
      go_enter Tryz.func9, Tryz.ntmps9
      go_wp2_with (fail)
      refine (HW.out _).mono ?_
      rintro e w1 ⟨rfl, hb⟩
      go_wp2_with (fail)
      refine (HR.out _ (H0.out _ hb)).mono ?_
      rintro e w2 ⟨rfl, hb2⟩
      go_wp2
      go_ret2
      exact ⟨rfl, hb.trans (hb2.mono hb.size)⟩
    subst z0
    rw [if_neg (by decide)] at hL
    have hbd : (⟨(nBody s).toArray⟩ : ByteArray) = bs (nBody s) := rfl
    rw [hbd] at HN
    clear hbd
    generalize nBody s = B at *
    by_cases e1 : nErr s = 0
    case neg =>
      rw [if_pos (.inl e1)] at hL
      have e1' : (((nErr s : Nat) : Int) == 0) = false := beq_eq_false_iff_ne.2 (by omega)
      generalize nErr s = E at *
      generalize nUsed s = U at *
      rw [hL, e00]
      unfold strV ptrV at *
      clear h hk e00 hL hR hr hkl hTl hm hrl e1
      go_enter Tryz.func9, Tryz.ntmps9
      go_wp2_with (fail)
      refine (HW.out _).mono ?_
      rintro e w1 ⟨rfl, hb⟩
      go_wp2_with (fail)
      refine (HR.out _ (H0.out _ hb)).mono ?_
      rintro e w2 ⟨rfl, hb2⟩
      have hb := hb.trans (hb2.mono hb.size)
      go_wp2_with (fail)
      refine (HN.out _).mono ?_
      rintro e w3 ⟨rfl, hb3⟩
      have hb := hb.trans (hb3.mono hb.size)
      go_wp2
      go_ret2
      exact ⟨rfl, hb⟩
    rw [e1] at HN
    by_cases u1 : nUsed s = s.length
    case neg =>
      rw [if_pos (.inr u1)] at hL
      have u1' : (((nUsed s : Nat) : Int) == ((bs s).size : Int)) = false := beq_eq_false_iff_ne.2 (by rw [hz]; omega)
      generalize nUsed s = U at *
      rw [hL, e00]
      unfold strV ptrV at *
      clear h hk e00 hL hR hr hkl hTl hm hrl e1 u1
      go_enter Tryz.func9, Tryz.ntmps9
      go_wp2_with (fail)
      refine (HW.out _).mono ?_
      rintro e w1 ⟨rfl, hb⟩
      go_wp2_with (fail)
      refine (HR.out _ (H0.out _ hb)).mono ?_
      rintro e w2 ⟨rfl, hb2⟩
      have hb := hb.trans (hb2.mono hb.size)
      go_wp2_with (fail)
      refine (HN.out _).mono ?_
      rintro e w3 ⟨rfl, hb3⟩
      have hb := hb.trans (hb3.mono hb.size)
      go_wp2
      go_ret2
      exact ⟨rfl, hb⟩
    rw [if_neg (by intro c; rcases c with c | c; exact c e1; exact c u1)] at hL
    rw [u1, ← hz] at HN
    rw [hL]
    unfold strV ptrV at *
    clear h hk e00 hL hR hr hkl hTl hm hrl e1 u1
    go_enter Tryz.func9, Tryz.ntmps9
    go_wp2_with (fail)
    refine (HW.out _).mono ?_
    rintro e w1 ⟨rfl, hb⟩
    go_wp2_with (fail)
    refine (HR.out _ (H0.out _ hb)).mono ?_
    rintro e w2 ⟨rfl, hb2⟩
    have hb := hb.trans (hb2.mono hb.size)
    go_wp2_with (fail)
    refine (HN.out _).mono ?_
    rintro e w3 ⟨rfl, hb3⟩
    have hb := hb.trans (hb3.mono hb.size)
    go_wp2
    go_ret2
    exact ⟨rfl, hb⟩
theorem read_code (d : Dk) (k : Bys) : (readD d k).2 = 20 ↔ d.dead = true := by
  unfold readD thereD
  cases d.dead with
  | true => simp
  | false =>
    cases getM d.m k with
    | none => simp
    | some f => simp
theorem tidyL_step {k : Bys} {r : List Bys} {d : Dk} : tidyL (k :: r) d = if isTmp k then thenD (removeD d k) fun d1 => tidyL r d1 else tidyL r d := rfl
set_option maxRecDepth 100000 in
set_option maxHeartbeats 3200000 in
theorem tidy_any (h : DkAt g b d w) (hf : d.fit) (hn : d.m.length < 1000000) : Calls Tryz.prog 11 #[ptrV g] w (DkDone g b (tidyD d).1 (tidyD d).2 w) := by
  have H0 := Lib.hid (Kw.start h)
  have HR := Lib.hid (fun W (hW : Kw g b w d W) => read_any hW.at_ keepP (by decide))
  have hcode := read_code d keepP
  generalize readD d keepP = r at *
  obtain ⟨s, z⟩ := r
  simp only at hcode HR
  have ekp : strV keepP = .string ⟨#[107, 101, 101, 112, 45]⟩ := rfl
  rw [ekp] at HR
  cases hd : d.dead with
  | true =>
    have hz : z = 20 := hcode.2 hd
    subst hz
    have e : tidyD d = (d, 20) := by unfold tidyD; rw [if_pos hd]
    rw [e]
    unfold strV ptrV at *
    clear h hf hn hcode e hd ekp
    go_enter Tryz.func11, Tryz.ntmps11
    go_wp2_with (fail)
    refine (HR.out _ H0.out).mono ?_
    rintro e w1 ⟨rfl, hb⟩
    have H1 := Lib.hid (H0.out.grew hb)
    clear hb
    go_wp2
    go_ret
    exact ⟨rfl, H1.out.at_, H1.out.ap⟩
  | false =>
    have hz : (z == 20) = false := beq_eq_false_iff_ne.2 (fun e => by have := hcode.1 e; rw [hd] at this; cases this)
    have e : tidyD d = tidyL (d.m.map (·.1)) d := by unfold tidyD; rw [if_neg (by rw [hd]; decide)]
    obtain ⟨R, hR⟩ : ∃ R, R = tidyD d := ⟨_, rfl⟩
    rw [← hR]
    rw [e] at hR
    have HN := Lib.hid (fun W (hW : Kw g b w d W) => names_any hW.at_ hf hn)
    have e2 : namesD d = d.m.map (·.1) := by unfold namesD; rw [if_neg (by rw [hd]; decide)]
    rw [e2] at HN
    have hkl : ∀ x ∈ d.m.map (·.1), x.length ≤ maxLen := by
      intro x hx
      obtain ⟨p, hp, rfl⟩ := List.mem_map.1 hx
      exact h.files.keyLen p hp
    have hnl : (d.m.map (·.1)).length < 1000000 := by rw [List.length_map]; exact hn
    generalize d.m.map (·.1) = N at *
    have hg : g < w.heap.size := h.head.lt
    have hb0 : b < w.heap.size := h.files.lt
    have hR := Lib.hid hR
    have hkl := Lib.hid hkl
    have HF := Lib.hid hf
    unfold strV ptrV at *
    clear h hn hcode e hd ekp e2 hf
    go_enter Tryz.func11, Tryz.ntmps11
    go_wp2_with (fail)
    refine (HR.out _ H0.out).mono ?_
    rintro e w1 ⟨rfl, hb⟩
    have H1 := Lib.hid (H0.out.grew hb)
    clear hb HR H0
    go_wp2_with (fail)
    refine (HN.out _ H1.out).mono ?_
    rintro e w2 ⟨v, rfl, hG, hB⟩
    have H2 := Lib.hid (H1.out.grew hB)
    have hsz : w.heap.size ≤ w1.heap.size := H1.out.ap.size
    obtain ⟨na, nc, hv⟩ := hG.slice
    subst hv
    have HG := Lib.hid hG
    clear hG hB HN H1
    generalize w1.heap.size = base at *
    go_wp2_with (fail)
    go_loopw [21] (fun v21 wr => ∃ (k : Nat) (d' : Dk), v21 = .int .i64 (k : Int) ∧ k ≤ N.length ∧ R = tidyL (N.drop k) d' ∧ d'.fit ∧ Grow StT 1 strCells base (.slice na N.length nc) N wr ∧ Kw g b w d' wr) (fun v21 _ => N.length - (intOf v21).toNat)
    case atStart => exact ⟨0, d, rfl, by omega, hR.out, HF.out, HG.out, H2.out⟩
    case round =>
      obtain ⟨k, d', rfl, hk, hR', hf', hG', hK'⟩ := hrel
      have HF' := Lib.hid hf'
      have HG' := Lib.hid hG'
      have HK' := Lib.hid hK'
      clear hf' hG' hK' hR HG HF H2
      by_cases hkn : k < N.length
      · rw [List.drop_eq_getElem_cons hkn, tidyL_step] at hR'
        obtain ⟨nb, nc2, hna, _⟩ := HG'.out.form (by omega)
        have hna2 : na = some ⟨nb, 0, none⟩ := by simp only [Value.slice.injEq] at hna; exact hna.1
        subst hna2
        have hrow := HG'.out.cells (fun _ => rfl) rfl k hkn
        rw [Nat.mul_one] at hrow
        have n0 : wr.cell? ⟨nb, k, none⟩ = some (.string (bs N[k])) := hrow 0 _ rfl
        have hnk := hkl.out _ (List.getElem_mem hkn)
        have HP := Lib.hid (fun W => pre_any N[k] W)
        have HS := Lib.hid (fun W => suf_any N[k] hnk W)
        have HRm := Lib.hid (fun W (hW : Kw g b w d' W) => remove_any hW.at_ HF'.out N[k] hnk)
        have HRf := Lib.hid (remove_fit HF'.out N[k])
        unfold isTmp at hR'
        unfold strV ptrV at *
        clear hrow hna hkl
        generalize N[k] = q at *
        cases hp : keepP.isPrefixOf q with
        | false =>
          as_aux_lemma =>
          rw [hp] at hR' HP
          rw [if_neg (by simp)] at hR'
          have hR' := Lib.hid hR'
          clear hp HRm HRf HS hnk
          go_wp2_with (go_at_call 35; refine (HP.out _).mono ?_; rintro e w3 ⟨rfl, rfl⟩)
          go_roundw
          case rel => exact ⟨k + 1, d', by go_num, by omega, hR'.out, HF'.out, HG'.out, HK'.out⟩
          case measure => simp [intOf]; omega
        | true =>
          rw [hp] at hR' HP
          cases hs : newS.isSuffixOf q with
          | false =>
            as_aux_lemma =>
            rw [hs] at hR' HS
            rw [if_neg (by simp)] at hR'
            have hR' := Lib.hid hR'
            clear hp hs HRm HRf hnk
            go_wp2_with (first
              | (go_at_call 35; refine (HP.out _).mono ?_; rintro e w3 ⟨rfl, rfl⟩)
              | (go_at_call 36; refine (HS.out _).mono ?_; rintro e w3 ⟨rfl, rfl⟩))
            go_roundw
            case rel => exact ⟨k + 1, d', by go_num, by omega, hR'.out, HF'.out, HG'.out, HK'.out⟩
            case measure => simp [intOf]; omega
          | true =>
            as_aux_lemma =>
            rw [hs] at hR' HS
            rw [if_pos (by simp)] at hR'
            have hR' := Lib.hid hR'
            clear hp hs hnk
            generalize removeD d' q = r at *
            go_wp2_with (first
              | (go_at_call 35; refine (HP.out _).mono ?_; rintro e w3 ⟨rfl, rfl⟩)
              | (go_at_call 36; refine (HS.out _).mono ?_; rintro e w3 ⟨rfl, rfl⟩)
              | fail)
            refine (HRm.out _ HK'.out).mono ?_
            rintro e w4 hk4
            obtain ⟨rfl, hK4⟩ := HK'.out.done hk4
            have HK4 := Lib.hid hK4
            have HG4 := Lib.hid (HG'.out.away hk4.2.2 (fun i hi => by rcases hi with e | e <;> omega))
            clear hk4 hK4 HG' HK' HRm HP HS
            by_cases z1 : r.2 = 0
            case neg =>
              have hR2 := Lib.hid (hR'.out.trans (thenD_bad z1 _))
              clear hR'
              have z1' : (r.2 == 0) = false := beq_eq_false_iff_ne.2 z1
              go_wp2
              go_ret
              rw [hR2.out]
              exact ⟨rfl, HK4.out.at_, HK4.out.ap⟩
            have hR2 := Lib.hid (hR'.out.trans (thenD_ok z1 _))
            rw [z1]
            clear z1 hR'
            go_wp2
            go_roundw
            case rel => exact ⟨k + 1, r.1, by go_num, by omega, hR2.out, HRf.out, HG4.out, HK4.out⟩
            case measure => simp [intOf]; omega
      · as_aux_lemma =>
        have hR2 : R = (d', 0) := by rw [hR', List.drop_eq_nil_of_le (by omega)]; rfl
        have hR2 := Lib.hid hR2
        clear hR'
        go_wp2
        go_ret
        rw [hR2.out]
        exact ⟨rfl, HK'.out.at_, HK'.out.ap⟩
end
end Go.Proofs.YtbaffabemomgjaaGreatDoor
