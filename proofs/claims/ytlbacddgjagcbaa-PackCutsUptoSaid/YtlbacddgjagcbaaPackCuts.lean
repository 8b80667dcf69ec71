/- The walk of the statement PackCuts where what it reads is of small bulk. Conditions: the bulk's bound. -/
import Derived.Test.YtlbacddgjagcbaaPackBack
namespace Go.Proofs.Ytlbacddgjagcbaa
open Go.RowKit

theorem app_split {q z X Y : List UInt8} (h : q ++ z = X ++ Y) : (∃ a, a ≠ [] ∧ X = q ++ a) ∨ (∃ c, q = X ++ c ∧ Y = c ++ z) := by
  rcases List.append_eq_append_iff.1 h with ⟨a, h1, h2⟩ | ⟨c, h1, h2⟩
  · by_cases ha : a = []
    · subst ha
      right
      exact ⟨[], by simpa using h1.symm, by simpa using h2.symm⟩
    · exact .inl ⟨a, ha, h1⟩
  · exact .inr ⟨c, h1, h2⟩
theorem numR_cut (n : Int) (q a : List UInt8) (h1 : -9223372036854775808 ≤ n) (h2 : n ≤ 9223372036854775807) (ha : a ≠ []) (h : numL n = q ++ a) : numR ⟨q, 0⟩ = (0, ⟨q, 10⟩) := by
  have e : (2 : Nat) ^ (1 + 7 * 9) = 18446744073709551616 := by decide
  have hd := dec_cut 9 0 0 (zig n) q a (by omega) (by rw [e]; exact zig_lt n h1 h2) (by omega) h ha
  unfold numR
  simp only [ne_eq, not_true_eq_false, if_false]
  rw [if_neg (by omega), hd]
theorem textR_cut (s q z : List UInt8) (hs : s.length ≤ 9223372036854775807) (hz : z ≠ []) (h : q ++ z = textL s) : (textR ⟨q, 0⟩).2.e = 10 := by
  unfold textL at h
  rcases app_split h with ⟨a, ha, h1⟩ | ⟨c, h1, h2⟩
  · have hn := numR_cut _ q a (by omega) (by omega) ha h1
    rw [textR_w _ (by rw [hn]; simp), hn]
  · have hn := numR_back (s.length : Int) c (by omega) (by omega)
    rw [← h1] at hn
    have hl : c.length < s.length := by
      rw [h2, List.length_append]
      have := List.length_pos_iff.2 hz
      omega
    rw [textR_s _ (by rw [hn]) (by rw [hn]; simp) (by rw [hn]; simp only; omega)]
theorem textsR_cut (L : List (List UInt8)) : ∀ (D : List (List UInt8)) (q z : List UInt8), (∀ s ∈ L, s.length ≤ 9223372036854775807) → z ≠ [] → q ++ z = L.flatMap textL → (textsR L.length D ⟨q, 0⟩).1 = [] ∧ (textsR L.length D ⟨q, 0⟩).2.e = 10 := by
  induction L with
  | nil =>
    intro D q z _ hz h
    simp at h
    exact absurd h.2 hz
  | cons a L ih =>
    intro D q z hs hz h
    rw [List.flatMap_cons] at h
    rcases app_split h with ⟨b, hb, h1⟩ | ⟨c, h1, h2⟩
    · have := textR_cut a q b (hs a (by simp)) hb h1.symm
      rw [List.length_cons, textsR_stop _ _ _ (by rw [this]; simp)]
      exact ⟨rfl, this⟩
    · have ht := textR_back a c (hs a (by simp))
      rw [← h1] at ht
      rw [List.length_cons, textsR_go _ _ _ (by rw [ht]), ht]
      exact ih _ c z (fun s h => hs s (by simp [h])) hz h2.symm
theorem listR_cut (L : List (List UInt8)) (q z : List UInt8) (hL : L.length ≤ 10000) (hs : ∀ s ∈ L, s.length ≤ 9223372036854775807) (hz : z ≠ []) (h : q ++ z = listL L) : (listR ⟨q, 0⟩).1 = [] ∧ (listR ⟨q, 0⟩).2.e = 10 := by
  unfold listL at h
  rcases app_split h with ⟨a, ha, h1⟩ | ⟨c, h1, h2⟩
  · have hn := numR_cut _ q a (by omega) (by omega) ha h1
    rw [listR_w _ (by rw [hn]; simp), hn]
    exact ⟨rfl, rfl⟩
  · have hn := numR_back (L.length : Int) c (by omega) (by omega)
    rw [← h1] at hn
    rw [listR_o _ (by rw [hn]) (by rw [hn]; simp) (by rw [hn]; simp only; omega), hn]
    exact textsR_cut L [] c z hs hz h2.symm
/-- THE LAW: a beginning ends too early. -/
theorem cuts_law (n : Int) (L : List (List UInt8)) (k : Nat) (h1 : -9223372036854775808 ≤ n) (h2 : n ≤ 9223372036854775807) (hL : L.length ≤ 10000) (hs : ∀ s ∈ L, s.length ≤ 9223372036854775807) (hk : k < (numL n ++ listL L).length) :
    ((numR ⟨(numL n ++ listL L).take k, 0⟩).1 = n ∨ (numR ⟨(numL n ++ listL L).take k, 0⟩).1 = 0) ∧ (listR (numR ⟨(numL n ++ listL L).take k, 0⟩).2).1 = [] ∧ (listR (numR ⟨(numL n ++ listL L).take k, 0⟩).2).2.e = 10 := by
  have hz : (numL n ++ listL L).drop k ≠ [] := by
    intro h
    have := congrArg List.length h
    rw [List.length_drop, List.length_nil] at this
    omega
  have hsp := List.take_append_drop k (numL n ++ listL L)
  generalize (numL n ++ listL L).take k = q at *
  generalize (numL n ++ listL L).drop k = z at *
  rcases app_split hsp with ⟨a, ha, e1⟩ | ⟨c, e1, e2⟩
  · have hn := numR_cut n q a h1 h2 ha e1
    rw [hn]
    refine ⟨.inr rfl, ?_⟩
    have hn2 : numR ⟨q, 10⟩ = (0, ⟨q, 10⟩) := numR_e _ (by simp)
    rw [listR_w _ (by simp only [hn2]; simp)]
    simp only [hn2]
    exact ⟨trivial, trivial⟩
  · have hn := numR_back n c h1 h2
    rw [← e1] at hn
    rw [hn]
    exact ⟨.inl rfl, listR_cut L c z hL hs hz e2.symm⟩

/-- How much texts weigh. -/
def bulkL : List (List UInt8) → Nat
  | [] => 0
  | s :: L => s.length + 1 + bulkL L
theorem bulkL_each (L : List (List UInt8)) : ∀ s ∈ L, s.length ≤ bulkL L := by
  induction L with
  | nil => intro s h; cases h
  | cons a L ih =>
    intro s h
    unfold bulkL
    rcases List.mem_cons.1 h with rfl | h
    · omega
    · have := ih s h; omega
theorem bulkL_len (L : List (List UInt8)) : L.length ≤ bulkL L := by
  induction L with
  | nil => simp [bulkL]
  | cons a L ih => simp only [bulkL, List.length_cons]; omega
theorem bulkL_flat (L : List (List UInt8)) (h : bulkL L ≤ 1048576) : (L.flatMap textL).length ≤ 11 * bulkL L := by
  induction L with
  | nil => simp
  | cons a L ih =>
    unfold bulkL at h ⊢
    have h1 := ih (by omega)
    have h2 := textL_len a (by omega)
    simp only [List.flatMap_cons, List.length_append]
    omega
theorem bulkL_list (L : List (List UInt8)) (h : bulkL L ≤ 1048576) : (listL L).length ≤ 20000000 := by
  have h1 := bulkL_flat L h
  have h2 := bulkL_len L
  have h3 := numL_len (L.length : Int) (by omega) (by omega)
  unfold listL; simp only [List.length_append]; omega

theorem uptoPart {H : Type} {d : DataW H} {l : List (DataW H)} (h : d ∈ l) : Rows.uptoBulk d ≤ Rows.uptoBulkAll l := by
  induction l with
  | nil => cases h
  | cons x r ih =>
    simp only [Rows.uptoBulkAll]
    cases List.mem_cons.1 h with
    | inl e => subst e; omega
    | inr e => have := ih e; omega
theorem bulk_strs {H : Type} (ss : List ByteArray) : Rows.uptoBulkAll (ss.map fun s => (DataW.lit (.string s.data.toList) : DataW H)) = bulkL (ss.map fun s => s.data.toList) := by
  induction ss with
  | nil => rfl
  | cons a ss ih => simp only [List.map_cons, Rows.uptoBulkAll, bulkL, Rows.uptoBulk, ih]
/-- What is known of a list of texts that came in, of small bulk. -/
def IsStrsB (w : World) (v : Value) : Prop := ∃ (L : List (List UInt8)) (a : Option Addr) (cap : Nat), v = .slice a L.length cap ∧ L.length ≤ cap ∧ cap ≤ maxLen ∧ StrsAt w v L ∧ (∀ s ∈ L, s.length ≤ maxLen) ∧ bulkL L ≤ 1048576
open Go.WideShapes Go.ChangeShapes in
theorem open_strsB {P : Program} {t e : TypeId} (ht : P.underlying t = some (.slice e)) (he : P.underlying e = some .string) (hc1 : P.cellsOf e = 1) {H : Type} {enc : TypeId × Value → H} {w : World} {r : Reach} {base : Nat} {v : Value} {d : DataW H} {p : List MemPlace}
    (hv : Value.okWide P w r base t v) (h : DataW.Trod enc P w 0 (fun _ => true) true t v d p) (hk : Rows.uptoBulk d ≤ 1048576) : IsStrsB w v := by
  obtain ⟨a0, len, cap, rfl⟩ := okWide_slice ht hv
  obtain ⟨fuel, hf⟩ := h
  rcases open_strings ht he hc1 hf with ⟨hcs, _⟩ | ⟨a, len', cap', ss, hcs, _, hl, hm, hss, hx, hc, hs⟩
  · simp [Value.cells] at hcs
    obtain ⟨rfl, rfl, rfl⟩ := hcs
    exact ⟨[], none, 0, rfl, by simp, by simp, ⟨none, 0, rfl, fun i hi => by simp at hi⟩, by simp, by simp [bulkL]⟩
  · simp [Value.cells] at hcs
    obtain ⟨rfl, rfl, rfl⟩ := hcs
    have hd : d = .slice (ChangeShapes.strs (ss.take len)) (ChangeShapes.strs (ss.drop len)) := congrArg Prod.fst hx
    have hbk : bulkL ((ss.take len).map fun s => s.data.toList) ≤ 1048576 := by
      rw [hd] at hk
      simp only [Rows.uptoBulk] at hk
      rw [← bulk_strs (H := H)]
      unfold ChangeShapes.strs at hk
      omega
    have hss' : ss.length = cap := by simpa using hss
    have hlen : ((ss.take len).map fun s => s.data.toList).length = len := by simp; omega
    refine ⟨(ss.take len).map fun s => s.data.toList, some a, cap, by rw [hlen], by rw [hlen]; exact hl, hm, ⟨some a, cap, by rw [hlen], fun i hi => ?_⟩, fun s h => ?_, hbk⟩
    · rw [hlen] at hi
      have hci := hc i (by omega)
      obtain ⟨b, off, spot⟩ := a
      have hsp : spot = none := by
        cases spot with
        | none => rfl
        | some x =>
          have h0 := hc 0 (by omega)
          simp [World.cell?, Addr.add] at h0
          split at h0 <;> simp at h0
      subst hsp
      refine ⟨b, off, rfl, ?_⟩
      have ha : (⟨b, off, none⟩ : Addr).add i = ⟨b, off + i, none⟩ := by unfold Addr.add; split <;> simp_all
      rw [ha] at hci
      rw [hci]
      have e1 : ss.getD i ByteArray.empty = ss[i]'(by omega) := by simp [List.getD, show i < ss.length by omega]
      have e2 : ((ss.take len).map fun s => s.data.toList).getD i [] = (ss[i]'(by omega)).data.toList := by simp [List.getD, hi, show i < ss.length by omega]
      rw [e1, e2]
      unfold str
      rw [bs_of]
    · obtain ⟨s', hs', rfl⟩ := List.mem_map.1 h
      exact hs s' (List.mem_of_mem_take hs')

set_option maxRecDepth 100000 in
set_option maxHeartbeats 1600000 in
theorem packCuts_walk (w : World) (n : Int) (va : Value) (at' : Int) (hn : (Lit.int .i64 n).wf = true) (ha : IsStrsB w va) (_hat : (Lit.int .i64 at').wf = true) :
    Calls Try.prog 9 #[.int .i64 n, va, .int .i64 at'] w fun e w' => e = .returned (.bool true) ∧ Below w.heap.size w w' := by
  obtain ⟨hn1, hn2⟩ := bounds_i64 hn
  obtain ⟨A, a, ca, rfl, hla, hca, hA, hsA, hbk⟩ := ha
  have hAl := bulkL_list A hbk
  have hAn := bulkL_len A
  have hAe := bulkL_each A
  have hq1 := numSize n hn1 hn2
  have hl1 := numL_len n hn1 hn2
  have hq2 : (bs (listL A)).size ≤ 20000000 := by rw [bs_size]; exact hAl
  have HL := Lib.hid (fun w2 (h2 : StrsAt w2 (.slice a A.length ca) A) => list_any A a ca w2 h2 (by omega) (fun s hs => by have := hAe s hs; omega) (by omega))
  have HC : Hid (bs (numL n) ++ bs (listL A) = bs (numL n ++ listL A)) := bs_append _ _
  have hzz : (bs (numL n ++ listL A)).size = (numL n ++ listL A).length := bs_size _
  have HZZ := Lib.hid hzz
  have HCUT := Lib.hid (fun k (hL : A.length ≤ 10000) hk => cuts_law n A k hn1 hn2 hL (fun s hs => by have := hAe s hs; omega) hk)
  clear hzz hAe
  go_enter Try.func9, Try.ntmps9
  go_wp2_with (fail)
  refine (num_any n hn1 hn2 _).mono ?_
  rintro e w2 ⟨rfl, hb2⟩
  have hA2 := hA.grew hb2
  go_wp2_with (fail)
  refine (HL.out w2 hA2).mono ?_
  rintro e w3 ⟨rfl, hb3⟩
  have B3 := hb2.trans (hb3.mono hb2.size)
  have hA3 := hA2.grew hb3
  clear hA2 hb2 hb3 hA
  go_wp2_with (fail)
  rw [HC.out]
  have hql : (bs (numL n ++ listL A)).size ≤ 20000010 := by rw [HZZ.out, List.length_append]; omega
  have hfew := few_any A a ca w3 hA3 (by omega) (fun s hs => hsA s hs)
  generalize hD : numL n ++ listL A = D at *
  have HD := Lib.hid hD
  clear hD HC hq1 hq2
  by_cases fA : fewB A = true
  · rw [fA] at hfew
    have hA100 := fewB_len fA
    refine hfew.mono ?_
    rintro e w4 ⟨rfl, rfl⟩
    clear hfew
    by_cases hneg : at' < 0
    · as_aux_lemma =>
      go_wp2_with (fail)
      refine (awake_any _).mono ?_
      rintro e w5 ⟨rfl, hb6⟩
      go_wp2
      go_ret
      exact ⟨rfl, B3.trans (hb6.mono B3.size)⟩
    · obtain ⟨k, rfl⟩ : ∃ k : Nat, at' = (k : Int) := ⟨at'.toNat, by omega⟩
      by_cases hkk : k < (bs D).size
      · have hcut := HCUT.out k (by omega) (by rw [← HZZ.out]; exact hkk)
        have hEx : (bs D).extract 0 k = bs (D.take k) := by rw [bs_extract]; simp
        have HE := Lib.hid hEx
        have hlk : (D.take k).length ≤ 20000010 := by rw [List.length_take]; omega
        clear hEx
        generalize D.take k = p at *
        generalize hnr : numR ⟨p, 0⟩ = nr at *
        obtain ⟨m, r1⟩ := nr
        have hr1 : r1.l.length ≤ p.length := by
          have := numR_len ⟨p, 0⟩
          rw [hnr] at this; exact this
        simp only at hcut
        generalize hlr : listR r1 = lr at *
        obtain ⟨L1, r2⟩ := lr
        obtain ⟨hm, hL1, hr2⟩ := hcut
        simp only at hL1 hr2
        subst hL1
        have HNR := Lib.hid hnr
        have HLR := Lib.hid hlr
        have HEN : Hid (endR r2 = 10) := by
          show _ = _
          rw [endR_no _ (fun hh => by omega), hr2]
        clear hnr hlr hr2 HCUT HL
        go_wp2_with (fail)
        rw [HE.out]
        refine (read_any _ _).mono ?_
        rintro e w5 ⟨rfl, hR5, hb5⟩
        have B5 := B3.trans (hb5.mono B3.size)
        have hs4 := B3.size
        clear hb5 B3
        generalize w4.heap.size = b at *
        generalize bs p = q4 at *
        go_wp2_with (fail)
        refine (numRead_at _ _ _ hR5 (by simp only; omega) HNR.out).mono ?_
        rintro e w6 ⟨rfl, hR6, hg6⟩
        have B6 := below_grown B5 hg6 hs4 hR5.lt
        clear hR5 hg6 B5
        go_wp2_with (fail)
        refine (listRead_at _ _ _ hR6 (by omega) HLR.out).mono ?_
        rintro e w7 ⟨a7, cap7, rfl, hS7, hL7, hR7, hg7, _⟩
        have B7 := below_grown B6 hg7 hs4 hR6.lt
        clear hR6 hg7 B6 hS7 hL7
        go_wp2_with (fail)
        refine (end_at _ _ _ hR7 HEN.out).mono ?_
        rintro e w9 ⟨rfl, rfl⟩
        by_cases hmn : m = n
        · as_aux_lemma =>
          subst hmn
          clear hm
          go_wp2_with (fail)
          refine (awake_any _).mono ?_
          rintro e w12 ⟨rfl, hb12⟩
          go_wp2
          go_ret
          exact ⟨rfl, B7.trans (hb12.mono B7.size)⟩
        · as_aux_lemma =>
          obtain rfl : m = 0 := by rcases hm with h | h; exact absurd h hmn; exact h
          have hx : ((0 : Int) == n) = false := by rw [beq_eq_false_iff_ne]; exact hmn
          clear hm hmn
          go_wp2_with (fail)
          refine (awake_any _).mono ?_
          rintro e w12 ⟨rfl, hb12⟩
          go_wp2
          go_ret
          exact ⟨rfl, B7.trans (hb12.mono B7.size)⟩
      · as_aux_lemma =>
        go_wp2_with (fail)
        refine (awake_any _).mono ?_
        rintro e w5 ⟨rfl, hb6⟩
        go_wp2
        go_ret
        exact ⟨rfl, B3.trans (hb6.mono B3.size)⟩
  · as_aux_lemma =>
    rw [Bool.not_eq_true] at fA
    rw [fA] at hfew
    refine hfew.mono ?_
    rintro e w4 ⟨rfl, rfl⟩
    clear hfew
    go_wp2_with (fail)
    refine (awake_any _).mono ?_
    rintro e w5 ⟨rfl, hb6⟩
    go_wp2
    go_ret
    exact ⟨rfl, B3.trans (hb6.mono B3.size)⟩
end Go.Proofs.Ytlbacddgjagcbaa
