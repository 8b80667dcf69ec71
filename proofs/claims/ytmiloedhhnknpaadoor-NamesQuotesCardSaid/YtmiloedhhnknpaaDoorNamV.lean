/- strconv.ParseUint as names uses it, and escape. Conditions: as each theorem says (strconv's two variables hold errors). -/
import Derived.Test.YtmiloedhhnknpaaDoorNamU
namespace Go.Proofs.YtmiloedhhnknpaaDoor
open Go.RowKit

def ErrIs (g : Nat) (w : World) : Prop := ∃ ev, w.cell? ⟨g, 0, none⟩ = some ev ∧ (ev = .nilIface ∨ ∃ te pe, ev = .iface te pe)
def ErrAt (w : World) : Prop := ErrIs 2 w ∧ ErrIs 3 w
theorem ErrIs.below {g : Nat} {w w' : World} (h : ErrIs g w) (hb : Below w.heap.size w w') : ErrIs g w' := by
  obtain ⟨ev, hc, hv⟩ := h
  exact ⟨ev, Grew.cell hb hc, hv⟩
theorem ErrAt.below {w w' : World} (h : ErrAt w) (hb : Below w.heap.size w w') : ErrAt w' := ⟨h.1.below hb, h.2.below hb⟩
theorem puF_err (M : Nat) : ∀ (l : List UInt8) (n : Nat), n ≤ M → ((puF M l n).2 = 0 ∧ (puF M l n).1 ≤ M) ∨ (puF M l n).2 = 1 ∨ (puF M l n).2 = 2
  | [], n, h => .inl ⟨rfl, h⟩
  | c :: t, n, h => by
    rw [puF]
    split
    · exact .inr (.inr rfl)
    · split
      · exact .inr (.inr rfl)
      · split
        · exact .inr (.inl rfl)
        · exact puF_err M t _ (by omega)
theorem puL_err (M : Nat) (l : List UInt8) : ((puL M l).2 = 0 ∧ (puL M l).1 ≤ M) ∨ (puL M l).2 = 1 ∨ (puL M l).2 = 2 := by
  unfold puL
  split
  · exact .inr (.inr rfl)
  · exact puF_err M l 0 (by omega)

def PubYes (n : Nat) (w : World) (e : Ending) (w' : World) : Prop := e = .returned (.tuple #[.int .u64 (n : Int), .nilIface]) ∧ Below w.heap.size w w'
def PubNo (w : World) (e : Ending) (w' : World) : Prop := ∃ (n : Nat) (p : Addr), e = .returned (.tuple #[.int .u64 (n : Int), .iface 76 (.pointer (some p))]) ∧ Below w.heap.size w w'
set_option maxRecDepth 1000000 in
theorem pub_yes (s : ByteArray) (b : Int) (n : Nat) (w : World) (h : Calls Tryd.prog 52 #[.string s, .int .i64 16, .int .i64 b] w fun e w' => PuSaid (n, 0) w e w') :
    Calls Tryd.prog 41 #[.string s, .int .i64 16, .int .i64 b] w fun e w' => PubYes n w e w' := by
  have H := Lib.hid h
  unfold PuSaid errV at H
  clear h
  go_enter Tryd.func41, Tryd.ntmps41
  go_wp2_with (fail)
  refine H.out.mono ?_
  rintro e w1 ⟨rfl, hb⟩
  go_wp2
  go_ret2
  exact ⟨rfl, hb⟩
set_option maxRecDepth 1000000 in
theorem pub_syn (s : ByteArray) (b : Int) (n : Nat) (w : World) (hs : s.size ≤ 1000000) (hE : ErrAt w) (h : Calls Tryd.prog 52 #[.string s, .int .i64 16, .int .i64 b] w fun e w' => PuSaid (n, 2) w e w') :
    Calls Tryd.prog 41 #[.string s, .int .i64 16, .int .i64 b] w fun e w' => PubNo w e w' := by
  have H := Lib.hid h
  have HE := Lib.hid hE
  unfold PuSaid errV at H
  clear h hE
  go_enter Tryd.func41, Tryd.ntmps41
  go_wp2_with (fail)
  refine H.out.mono ?_
  rintro e w1 ⟨rfl, hb⟩
  obtain ⟨ev, hc, hv⟩ := (HE.out.below hb).1
  have Hv := Lib.hid hv
  clear hv
  go_wp2_with (fail)
  refine (Tryd.strconv_toError_syntax _ s 16 b ev _ (by omega) hc Hv.out).mono ?_
  rintro e w2 ⟨N, rfl, hN, hH, hb2⟩
  have HH := Lib.hid hH
  clear hH hc
  go_wp2
  go_ret2
  exact ⟨n, _, rfl, hb.trans (hb2.mono hb.size)⟩
set_option maxRecDepth 1000000 in
theorem pub_rng (s : ByteArray) (b : Int) (n : Nat) (w : World) (hs : s.size ≤ 1000000) (hE : ErrAt w) (h : Calls Tryd.prog 52 #[.string s, .int .i64 16, .int .i64 b] w fun e w' => PuSaid (n, 1) w e w') :
    Calls Tryd.prog 41 #[.string s, .int .i64 16, .int .i64 b] w fun e w' => PubNo w e w' := by
  have H := Lib.hid h
  have HE := Lib.hid hE
  unfold PuSaid errV at H
  clear h hE
  go_enter Tryd.func41, Tryd.ntmps41
  go_wp2_with (fail)
  refine H.out.mono ?_
  rintro e w1 ⟨rfl, hb⟩
  obtain ⟨ev, hc, hv⟩ := (HE.out.below hb).2
  have Hv := Lib.hid hv
  clear hv
  go_wp2_with (fail)
  refine (Tryd.strconv_toError_range _ s 16 b ev _ (by omega) hc Hv.out).mono ?_
  rintro e w2 ⟨N, rfl, hN, hH, hb2⟩
  have HH := Lib.hid hH
  clear hH hc
  go_wp2
  go_ret2
  exact ⟨n, _, rfl, hb.trans (hb2.mono hb.size)⟩
theorem pub_any (M : Nat) (b : Int) (s : ByteArray) (w : World) (hs : s.size ≤ 1000000) (hE : ErrAt w) (h : Calls Tryd.prog 52 #[.string s, .int .i64 16, .int .i64 b] w fun e w' => PuSaid (puL M s.data.toList) w e w') :
    ((puL M s.data.toList).2 = 0 → Calls Tryd.prog 41 #[.string s, .int .i64 16, .int .i64 b] w fun e w' => PubYes (puL M s.data.toList).1 w e w') ∧
    ((puL M s.data.toList).2 ≠ 0 → Calls Tryd.prog 41 #[.string s, .int .i64 16, .int .i64 b] w fun e w' => PubNo w e w') := by
  have he := puL_err M s.data.toList
  generalize puL M s.data.toList = p at *
  obtain ⟨n, k⟩ := p
  refine ⟨fun h0 => ?_, fun h0 => ?_⟩
  · simp only at h0
    subst h0
    exact pub_yes s b n w h
  · rcases he with ⟨h1, _⟩ | h1 | h1
    · exact absurd h1 h0
    · simp only at h1
      subst h1
      exact pub_rng s b n w hs hE h
    · simp only at h1
      subst h1
      exact pub_syn s b n w hs hE h

theorem encU (n : Nat) : Utf8.encode (n : Int) = bs (Lib.encodeRune (n : Int)) := by
  by_cases hv : Utf8.valid (n : Int) = true
  · have h : n < 55296 ∨ (57344 ≤ n ∧ n ≤ 1114111) := by simp [Utf8.valid] at hv; omega
    unfold Utf8.encode
    simp only [hv, if_true, Int.toNat_natCast]
    by_cases h1 : n < 128
    · rw [if_pos h1, enc_ascii n h1]; rfl
    rw [if_neg h1]
    by_cases h2 : n < 2048
    · rw [if_pos h2, enc_two n (by omega) (by omega)]; rfl
    rw [if_neg h2]
    by_cases h3 : n < 65536
    · rw [if_pos h3, enc_three n (by omega)]; rfl
    · rw [if_neg h3, enc_four n (by omega) (by omega)]; rfl
  · have h : (55296 ≤ n ∧ n ≤ 57343) ∨ 1114111 < n := by simp [Utf8.valid] at hv; omega
    unfold Utf8.encode Lib.encodeRune
    rw [Lib.encodeRuneZ_bad (by omega)]
    simp only [hv, Bool.false_eq_true, if_false]
    rfl
/-- What an escape stands for, and how long it is; 0: it is none. -/
def escP (l : List UInt8) : List UInt8 × Nat :=
  if [92, 120] <+: l ∧ 4 ≤ l.length then (if (puL 255 ((l.drop 2).take 2)).2 = 0 then ([UInt8.ofNat (puL 255 ((l.drop 2).take 2)).1], 4) else ([], 0))
  else if [92, 117, 123] <+: l then (if Lib.indexByte l 125 < 0 then ([], 0) else if (puL 2097151 ((l.drop 3).take ((Lib.indexByte l 125).toNat - 3))).2 = 0 then (Lib.encodeRune ((puL 2097151 ((l.drop 3).take ((Lib.indexByte l 125).toNat - 3))).1 : Int), (Lib.indexByte l 125).toNat + 1) else ([], 0))
  else ([], 0)
def EscSaid (p : List UInt8 × Nat) (w : World) (e : Ending) (w' : World) : Prop := e = .returned (.tuple #[.string (bs p.1), .int .i64 (p.2 : Int)]) ∧ Below w.heap.size w w'
theorem hasP (l p : List UInt8) : Lib.hasPrefix l p = decide (p <+: l) := by
  unfold Lib.hasPrefix
  rw [Bool.eq_iff_iff, decide_eq_true_eq, List.isPrefixOf_iff_prefix]
theorem conv1b (w : World) (n : Nat) (h : n ≤ 255) (o : Obj) (ho : o = Obj.cells #[.int .u8 (n : Int)] 5 (0, 0)) :
    (convert 32 9 (.slice (some ⟨w.heap.size, 0, none⟩) 1 1)).run Tryd.prog (w.alloc o) = .ok (.string (bs [UInt8.ofNat n])) (w.alloc o) := by
  subst ho
  exact run_convert_bytes_back (P := Tryd.prog) (w.alloc (.cells #[.int .u8 (n : Int)] 5)) 32 9 5 ⟨w.heap.size, 0, none⟩ 1 [UInt8.ofNat n] Tryd.underlying32 Tryd.underlying5 Tryd.underlying9 (fun j hj => by
    have hj0 : j = 0 := by simpa using hj
    subst hj0
    show (w.alloc _).cell? ⟨w.heap.size, 0, none⟩ = _
    rw [World.cell?_alloc_at _ _ _ _ rfl]
    show some (Value.int .u8 _) = some (Value.int .u8 ((UInt8.ofNat n).toNat : Int))
    rw [u8_ofNat n (by omega)])
theorem ex_take (s : ByteArray) (a b : Nat) : (s.extract a b).data.toList = (s.data.toList.drop a).take (b - a) := Lib.extract_data s a b

set_option maxRecDepth 1000000 in
set_option maxHeartbeats 1000000 in
theorem escape_any (s : ByteArray) (w : World) (hs : s.size ≤ 1000000) (hE : ErrAt w) :
    Calls Tryd.prog 31 #[.string s] w fun e w' => EscSaid (escP s.data.toList) w e w' := by
  have HP := Lib.hid (fun p X => Tryd.strings_HasPrefix s p X)
  have hz := Lib.size_eq s
  have HE := Lib.hid hE
  clear hE
  by_cases hx : [92, 120] <+: s.data.toList
  · have HX : Hid (∀ X, Calls Tryd.prog 35 #[.string s, .string ⟨#[92, 120]⟩] X fun e w' => e = .returned (.bool true) ∧ w' = X) := fun X => by
      have h := HP.out ⟨#[92, 120]⟩ X
      rw [hasP, decide_eq_true (show ((⟨#[92, 120]⟩ : ByteArray).data.toList <+: s.data.toList) from hx)] at h
      exact h
    by_cases h4 : 4 ≤ s.size
    · have hR : Hid (escP s.data.toList = if (puL 255 (s.extract 2 4).data.toList).2 = 0 then ([UInt8.ofNat (puL 255 (s.extract 2 4).data.toList).1], 4) else ([], 0)) := by
        show _ = _
        unfold escP
        rw [if_pos ⟨hx, by omega⟩, ex_take]
      have hes : (s.extract 2 4).size ≤ 1000000 := by rw [Lib.size_eq, ex_take]; simp; omega
      have HU := Lib.hid (fun X hX => pub_any 255 8 (s.extract 2 4) X hes hX (puint8_any (s.extract 2 4) X hes))
      have he := puL_err 255 (s.extract 2 4).data.toList
      generalize puL 255 (s.extract 2 4).data.toList = p at *
      obtain ⟨n, k⟩ := p
      generalize escP s.data.toList = R at *
      have d4 : decide (4 ≤ (s.size : Int)) = true := decide_eq_true (by omega)
      have d4' : (4 : Int) ≤ (s.size : Int) := by omega
      by_cases hk : k = 0
      · as_aux_lemma =>
        have hn : n ≤ 255 := by simp only at he; omega
        have hn' : (n : Int) ≤ 255 := by omega
        have HY := Lib.hid (fun X hX => (HU.out X hX).1 hk)
        unfold PubYes at HY
        rw [if_pos hk] at hR
        clear hz he hk hx
        go_enter Tryd.func31, Tryd.ntmps31
        go_wp2_with (fail)
        refine (HX.out _).mono ?_
        rintro e w1 ⟨rfl, rfl⟩
        go_wp2_with (fail)
        refine (HY.out _ HE.out).mono ?_
        rintro e w2 ⟨rfl, hb2⟩
        have hcv := conv1b w2 n hn _ rfl
        go_wp2
        go_ret2
        exact ⟨by rw [hR.out]; rfl, hb2.trans ((alloc_below w2 _).mono hb2.size)⟩
      · as_aux_lemma =>
        have HY := Lib.hid (fun X hX => (HU.out X hX).2 hk)
        unfold PubNo at HY
        rw [if_neg hk] at hR
        clear hz he hk hx
        go_enter Tryd.func31, Tryd.ntmps31
        go_wp2_with (fail)
        refine (HX.out _).mono ?_
        rintro e w1 ⟨rfl, rfl⟩
        go_wp2_with (fail)
        refine (HY.out _ HE.out).mono ?_
        rintro e w2 ⟨n2, p2, rfl, hb2⟩
        go_wp2
        go_ret2
        exact ⟨by rw [hR.out]; rfl, hb2⟩
    · as_aux_lemma =>
      have hnu : ¬ [92, 117, 123] <+: s.data.toList := by
        intro h
        obtain ⟨t, ht⟩ := hx
        rw [← ht] at h
        simp [List.cons_prefix_cons] at h
      have HV : Hid (∀ X, Calls Tryd.prog 35 #[.string s, .string ⟨#[92, 117, 123]⟩] X fun e w' => e = .returned (.bool false) ∧ w' = X) := fun X => by
        have h := HP.out ⟨#[92, 117, 123]⟩ X
        rw [hasP, decide_eq_false (show ¬ ((⟨#[92, 117, 123]⟩ : ByteArray).data.toList <+: s.data.toList) from hnu)] at h
        exact h
      have hR : Hid (escP s.data.toList = ([], 0)) := by
        show _ = _
        unfold escP
        rw [if_neg (fun h => h4 (by omega)), if_neg hnu]
      have d4 : decide (4 ≤ (s.size : Int)) = false := decide_eq_false (by omega)
      clear hz hx hnu
      go_enter Tryd.func31, Tryd.ntmps31
      go_wp2_with (fail)
      refine (HX.out _).mono ?_
      rintro e w1 ⟨rfl, rfl⟩
      go_wp2_with (fail)
      refine (HV.out _).mono ?_
      rintro e w1 ⟨rfl, rfl⟩
      go_wp2
      go_ret2
      exact ⟨by rw [hR.out]; rfl, Below.refl _ _⟩
  have HX : Hid (∀ X, Calls Tryd.prog 35 #[.string s, .string ⟨#[92, 120]⟩] X fun e w' => e = .returned (.bool false) ∧ w' = X) := fun X => by
    have h := HP.out ⟨#[92, 120]⟩ X
    rw [hasP, decide_eq_false (show ¬ ((⟨#[92, 120]⟩ : ByteArray).data.toList <+: s.data.toList) from hx)] at h
    exact h
  by_cases hu : [92, 117, 123] <+: s.data.toList
  · have HV : Hid (∀ X, Calls Tryd.prog 35 #[.string s, .string ⟨#[92, 117, 123]⟩] X fun e w' => e = .returned (.bool true) ∧ w' = X) := fun X => by
      have h := HP.out ⟨#[92, 117, 123]⟩ X
      rw [hasP, decide_eq_true (show ((⟨#[92, 117, 123]⟩ : ByteArray).data.toList <+: s.data.toList) from hu)] at h
      exact h
    have HI := Lib.hid (fun X => Tryd.strings_IndexByte s 125 X)
    rw [show (125 : Int).toNat.toUInt8 = 125 from rfl] at HI
    by_cases hi : Lib.indexByte s.data.toList 125 < 0
    · as_aux_lemma =>
      have hR : Hid (escP s.data.toList = ([], 0)) := by
        show _ = _
        unfold escP
        rw [if_neg (fun h => hx h.1), if_pos hu, if_pos hi]
      generalize Lib.indexByte s.data.toList 125 = I at *
      have d1 : decide (I < 0) = true := decide_eq_true hi
      clear hz hx hu
      go_enter Tryd.func31, Tryd.ntmps31
      go_wp2_with (fail)
      refine (HX.out _).mono ?_
      rintro e w1 ⟨rfl, rfl⟩
      go_wp2_with (fail)
      refine (HV.out _).mono ?_
      rintro e w1 ⟨rfl, rfl⟩
      go_wp2_with (fail)
      refine (HI.out _).mono ?_
      rintro e w1 ⟨rfl, rfl⟩
      go_wp2
      go_ret2
      exact ⟨by rw [hR.out]; rfl, Below.refl _ _⟩
    · have hiL := Lib.indexByte_some (l := s.data.toList) (c := 125) (o := (Lib.indexByte s.data.toList 125).toNat) (by omega)
      obtain ⟨j, hj⟩ : ∃ j : Nat, Lib.indexByte s.data.toList 125 = (j : Int) := ⟨(Lib.indexByte s.data.toList 125).toNat, by omega⟩
      have hj3 : 3 ≤ j := by
        refine Decidable.byContradiction fun hn => ?_
        rw [hj, Int.toNat_natCast] at hiL
        obtain ⟨t, ht⟩ := hu
        rw [← ht] at hiL
        have h0 := hiL.1
        match j, hn with
        | 0, _ => simp at h0
        | 1, _ => simp at h0
        | 2, _ => simp at h0
        | j + 3, hn => omega
      have hjs : j < s.size := by
        rw [hj, Int.toNat_natCast] at hiL
        have := (List.getElem?_eq_some_iff.1 hiL.1).1
        omega
      have hR : Hid (escP s.data.toList = if (puL 2097151 (s.extract 3 j).data.toList).2 = 0 then (Lib.encodeRune ((puL 2097151 (s.extract 3 j).data.toList).1 : Int), j + 1) else ([], 0)) := by
        show _ = _
        unfold escP
        rw [if_neg (fun h => hx h.1), if_pos hu, if_neg hi, hj, Int.toNat_natCast, ex_take]
      have hes : (s.extract 3 j).size ≤ 1000000 := by rw [Lib.size_eq, ex_take]; simp; omega
      have HU := Lib.hid (fun X hX => pub_any 2097151 21 (s.extract 3 j) X hes hX (puint21_any (s.extract 3 j) X hes))
      have he := puL_err 2097151 (s.extract 3 j).data.toList
      rw [hj] at HI
      generalize puL 2097151 (s.extract 3 j).data.toList = p at *
      obtain ⟨n, k⟩ := p
      generalize escP s.data.toList = R at *
      have d1 : decide ((j : Int) < 0) = false := decide_eq_false (by omega)
      have d2 : (3 : Int) ≤ (j : Int) := by omega
      have d3 : (j : Int) ≤ (s.size : Int) := by omega
      clear hiL hj hi
      by_cases hk : k = 0
      · as_aux_lemma =>
        have hn : n ≤ 2097151 := by simp only at he; omega
        have hn' : (n : Int) ≤ 2097151 := by omega
        have HY := Lib.hid (fun X hX => (HU.out X hX).1 hk)
        unfold PubYes at HY
        rw [if_pos hk] at hR
        clear hz he hk hx hu
        go_enter Tryd.func31, Tryd.ntmps31
        go_wp2_with (fail)
        refine (HX.out _).mono ?_
        rintro e w1 ⟨rfl, rfl⟩
        go_wp2_with (fail)
        refine (HV.out _).mono ?_
        rintro e w1 ⟨rfl, rfl⟩
        go_wp2_with (fail)
        refine (HI.out _).mono ?_
        rintro e w1 ⟨rfl, rfl⟩
        go_wp2_with (fail)
        refine (HY.out _ HE.out).mono ?_
        rintro e w2 ⟨rfl, hb2⟩
        go_wp2
        go_ret2
        exact ⟨by rw [hR.out]; simp only; rw [← encU]; rfl, hb2⟩
      · as_aux_lemma =>
        have HY := Lib.hid (fun X hX => (HU.out X hX).2 hk)
        unfold PubNo at HY
        rw [if_neg hk] at hR
        clear hz he hk hx hu
        go_enter Tryd.func31, Tryd.ntmps31
        go_wp2_with (fail)
        refine (HX.out _).mono ?_
        rintro e w1 ⟨rfl, rfl⟩
        go_wp2_with (fail)
        refine (HV.out _).mono ?_
        rintro e w1 ⟨rfl, rfl⟩
        go_wp2_with (fail)
        refine (HI.out _).mono ?_
        rintro e w1 ⟨rfl, rfl⟩
        go_wp2_with (fail)
        refine (HY.out _ HE.out).mono ?_
        rintro e w2 ⟨n2, p2, rfl, hb2⟩
        go_wp2
        go_ret2
        exact ⟨by rw [hR.out]; rfl, hb2⟩
  · as_aux_lemma =>
    have HV : Hid (∀ X, Calls Tryd.prog 35 #[.string s, .string ⟨#[92, 117, 123]⟩] X fun e w' => e = .returned (.bool false) ∧ w' = X) := fun X => by
      have h := HP.out ⟨#[92, 117, 123]⟩ X
      rw [hasP, decide_eq_false (show ¬ ((⟨#[92, 117, 123]⟩ : ByteArray).data.toList <+: s.data.toList) from hu)] at h
      exact h
    have hR : Hid (escP s.data.toList = ([], 0)) := by
      show _ = _
      unfold escP
      rw [if_neg (fun h => hx h.1), if_neg hu]
    clear hz hx hu
    go_enter Tryd.func31, Tryd.ntmps31
    go_wp2_with (fail)
    refine (HX.out _).mono ?_
    rintro e w1 ⟨rfl, rfl⟩
    go_wp2_with (fail)
    refine (HV.out _).mono ?_
    rintro e w1 ⟨rfl, rfl⟩
    go_wp2
    go_ret2
    exact ⟨by rw [hR.out]; rfl, Below.refl _ _⟩
end Go.Proofs.YtmiloedhhnknpaaDoor
