/- The law HistMeets, walked. Conditions: as each theorem says. -/
import Derived.Test.YtaahbfcnccmcoaaHistY
import Derived.Test.YtaahbfcnccmcoaaHistJ
namespace Go.Proofs.Ytaahbfcnccmcoaa
open Go.RowKit

theorem ents_take {w : World} {a : Option Addr} {n cap : Nat} {L : List Ent} (h : EntsAt w (.slice a n cap) L) (q : Nat) (hq : q ≤ L.length) (c : Nat) : EntsAt w (.slice a q c) (L.take q) := by
  have hlt : (L.take q).length = q := by rw [List.length_take]; omega
  refine ⟨a, c, by rw [hlt], fun i hi => ?_⟩
  obtain ⟨b, off, e, hc⟩ := ents_get h i (by omega)
  refine ⟨b, off, e, ?_⟩
  have : (L.take q)[i] = L[i] := List.getElem_take
  rw [this]; exact hc
theorem wpList_append_ents2 {ops : Array Oper} {rest : List Oper} {o : Oper} {a : Act} {w : World} {Q : Exit → Act → World → Prop} (hgd : o.guard = none) (s x : Operand)
    (ho : o.op = .call { callee := .builtin .append, args := #[s, x], argTypes := #[22, 22] }) (base : Nat) (v : Value) (A : List Ent) (hs : a.eval s = v) (hown : w.ownsRow base EntT 3 v A.length (entRow A)) (M : List Ent) (ad : Option Addr) (c m : Nat) (hm : m = M.length) (hx : a.eval x = .slice ad m c)
    (hM : EntsAt w (.slice ad m c) M) (hl : A.length + M.length ≤ 1000000) (hbase : base ≤ w.heap.size)
    (h : ∀ v' w', w'.ownsRow base EntT 3 v' (A ++ M).length (entRow (A ++ M)) → w.grownBy w' v.ownBlock → wpList Try.prog ops Q rest (a.put o.dst v') w') : wpList Try.prog ops Q (o :: rest) a w := by
  subst hm
  exact wpList_append_ents hgd s x ho base v A hs hown M ad c hx hM hl hbase h
theorem own_empty (w : World) (base : Nat) (hb : base ≤ w.heap.size) : (w.alloc (.cells #[] EntT)).ownsRow base EntT 3 (.slice (some ⟨w.heap.size, 0, none⟩) 0 0) ([] : List Ent).length (entRow []) :=
  ⟨rfl, .inr ⟨w.heap.size, 0, #[], rfl, hb, heap_alloc_new w _, Nat.le_refl _, by unfold maxLen; omega, rfl, rfl⟩⟩
theorem own_at {w : World} {base : Nat} {v : Value} {N : List Ent} (h : w.ownsRow base EntT 3 v N.length (entRow N)) : ∃ a c, v = .slice a N.length c ∧ N.length ≤ c ∧ EntsAt w (.slice a N.length c) N := by
  have he := ents_own h
  rcases h.2 with ⟨rfl, h0⟩ | ⟨g, cap, cur, rfl, _, _, hc, _⟩
  · exact ⟨none, 0, by rw [h0], by omega, by rw [h0]; exact he⟩
  · exact ⟨_, cap, rfl, hc, he⟩
theorem plan_len2 (L : List Ent) (begin last : Int × Int) (k : Int) (z : Int × Int) (M : List Ent) (h : planP L begin last = (k, z, M)) : M.length ≤ L.length := by
  unfold planP at h
  split at h
  · cases h; simp
  · split at h
    · cases h; exact Nat.le_refl _
    · split at h
      · cases h; simp
      · cases h; simp
theorem same_self (L : List Ent) (a b : Option Addr) (ca cb : Nat) (w : World) (hA : EntsAt w (.slice a L.length ca) L) (hB : EntsAt w (.slice b L.length cb) L) (hn : L.length ≤ 1000000) :
    Calls Try.prog 20 #[.slice a L.length ca, .slice b L.length cb] w fun e w' => e = .returned (.bool true) ∧ Below w.heap.size w w' := by
  have := sameents_any L L a b ca cb w hA hB (by omega) (by omega)
  unfold sameE at this
  rw [decide_eq_true rfl] at this
  exact this
set_option maxRecDepth 100000 in
set_option maxHeartbeats 1000000 in
theorem meets_bad (L M : List Ent) (a b : Option Addr) (ca cb : Nat) (many : Int) (w : World) (hL : EntsAt w (.slice a L.length ca) L) (hM : EntsAt w (.slice b M.length cb) M) (hln : L.length ≤ 9223372036854775807) (hmn : M.length ≤ 9223372036854775807) (hls : ∀ x ∈ L, x.ok) (hms : ∀ x ∈ M, x.ok)
    (hbad : fewE L = false ∨ (fewE L = true ∧ fewE M = false) ∨ (fewE L = true ∧ fewE M = true ∧ decide (many < 0) = true) ∨ (fewE L = true ∧ fewE M = true ∧ decide (many < 0) = false ∧ decide ((L.length : Int) < many) = true)) :
    Calls Try.prog 11 #[.slice a L.length ca, .int .i64 many, .slice b M.length cb] w fun e w' => e = .returned (.bool true) ∧ Below w.heap.size w w' := by
  have H1 := Lib.hid (few_any L a ca w hL hln hls)
  have H2 := Lib.hid (few_any M b cb w hM hmn hms)
  have HAw := Lib.hid (fun W => awake_any W)
  clear hL hM hls hms
  rcases hbad with h1 | ⟨h1, h2⟩ | ⟨h1, h2, d1⟩ | ⟨h1, h2, d1, d2⟩
  · rw [h1] at H1
    clear h1
    go_enter Try.func11, Try.ntmps11
    go_wp2_with (
      first
      | (go_at_call 12; (with_reducible refine H1.out.mono ?_); rintro e w1 ⟨rfl, rfl⟩)
      | (go_at_call 15; (with_reducible refine (HAw.out _).mono ?_); rintro e w2 ⟨rfl, b2⟩))
    go_ret
    exact ⟨rfl, b2⟩
  all_goals
    rw [h1] at H1
    rw [h2] at H2
    clear h1 h2
    go_enter Try.func11, Try.ntmps11
    go_wp2_with (
      first
      | (go_at_call 12; (with_reducible refine H1.out.mono ?_); rintro e w1 ⟨rfl, rfl⟩)
      | (go_at_call 12; (with_reducible refine H2.out.mono ?_); rintro e w1 ⟨rfl, rfl⟩)
      | (go_at_call 15; (with_reducible refine (HAw.out _).mono ?_); rintro e w2 ⟨rfl, b2⟩))
    go_ret
    exact ⟨rfl, b2⟩
set_option maxRecDepth 100000 in
set_option maxHeartbeats 4000000 in
theorem meets_any (L M : List Ent) (a b : Option Addr) (ca cb q : Nat) (w : World) (hL : EntsAt w (.slice a L.length ca) L) (hM : EntsAt w (.slice b M.length cb) M) (hlc : L.length ≤ ca) (hln : L.length ≤ 9223372036854775807) (hmn : M.length ≤ 9223372036854775807) (hls : ∀ x ∈ L, x.ok) (hms : ∀ x ∈ M, x.ok)
    (hfl : fewE L = true) (hfm : fewE M = true) (hq : q ≤ L.length) :
    Calls Try.prog 11 #[.slice a L.length ca, .int .i64 (q : Int), .slice b M.length cb] w fun e w' => e = .returned (.bool true) ∧ Below w.heap.size w w' := by
  have H1 := Lib.hid (few_any L a ca w hL hln hls)
  have H2 := Lib.hid (few_any M b cb w hM hmn hms)
  have HAw := Lib.hid (fun W => awake_any W)
  rw [hfl] at H1
  rw [hfm] at H2
  have hl2 := few_len L hfl
  have hm2 := few_len M hfm
  have HLT := Lib.hid (fun W (hW : Below w.heap.size w W) => ents_take (hL.grew hW) q hq ca)
  have HLW := Lib.hid (fun W (hW : Below w.heap.size w W) => hL.grew hW)
  have HMW := Lib.hid (fun W (hW : Below w.heap.size w W) => hM.grew hW)
  have hlt : (L.take q).length = q := by rw [List.length_take]; omega
  have dq1 : decide ((q : Int) < 0) = false := decide_eq_false (by omega)
  have dq2 : decide (L.length < q) = false := decide_eq_false (by omega)
  clear hL hM hls hms hfl hfm
  obtain ⟨T, hT⟩ : ∃ T, T = L.take q := ⟨_, rfl⟩
  obtain ⟨N, hN⟩ : ∃ N, N = T ++ M := ⟨_, rfl⟩
  rw [← hT] at HLT hlt
  have HT := Lib.hid hT
  have HN := Lib.hid hN
  have hnl : N.length ≤ 400 := by rw [hN, List.length_append]; omega
  clear hT hN
  subst hlt
  go_enter Try.func11, Try.ntmps11
  go_wp2_with (
    first
    | (go_at_call 12; (with_reducible refine H1.out.mono ?_); rintro e w1 ⟨rfl, he1⟩; have he1 := he1.symm; subst he1)
    | (go_at_call 12; (with_reducible refine H2.out.mono ?_); rintro e w1 ⟨rfl, he1⟩; have he1 := he1.symm; subst he1)
    | (at_builtin; refine wpList_append_ents2 rfl _ _ rfl w.heap.size _ [] rfl (own_empty w _ (Nat.le_refl _)) T a ca T.length rfl rfl (HLT.out _ (alloc_below w _)) (by simp; omega) (by simp) ?_; intro v1 w1 hO1 hg1; have hB1 := (alloc_below w (.cells #[] EntT)).grown hg1 (by simp) (own_base (own_empty w _ (Nat.le_refl _))); rw [List.nil_append] at hO1; obtain ⟨a1, c1, rfl, _, _⟩ := own_at hO1)
    | (at_builtin; refine wpList_append_ents rfl _ _ rfl w.heap.size _ T rfl hO1 M b cb rfl (HMW.out _ hB1) (by omega) hB1.size ?_; intro v2 w2 hO2 hg2; have hB2 := hB1.grown hg2 hB1.size (own_base hO1); rw [← HN.out] at hO2; obtain ⟨a2, c2, rfl, hlc2, hN2⟩ := own_at hO2; have HN2 := Lib.hid hN2; have HB2 := Lib.hid hB2; clear hN2 hO1 hO2 hg1 hg2 hB1 hB2))
  by_cases hrl : rightL (0, 0) L = true
  · by_cases hrm : rightL (0, 0) N = true
    · have HR1 := Lib.hid (right_any L a ca w2 (HLW.out _ HB2.out) hln)
      have HR2 := Lib.hid (fun W (hW : Below w2.heap.size w2 W) => right_any N a2 c2 W (HN2.out.grew hW) (by omega))
      rw [hrl] at HR1
      rw [hrm] at HR2
      refine HR1.out.mono ?_
      rintro e w30 ⟨rfl, b30⟩
      go_wp2_with (go_at_call 13; (with_reducible refine (HR2.out _ b30).mono ?_); rintro e w31 ⟨rfl, b31⟩; have b32 := b30.trans (b31.mono b30.size); clear b31)
      go_loopw [8] (fun iv W => ∃ i : Nat, i ≤ M.length ∧ iv = .int .i64 (i : Int) ∧ (∀ x ∈ M.take i, findB L x.z = false) ∧ Below w2.heap.size w2 W) (fun iv _ => M.length - (intOf iv).toNat)
      case atStart => exact ⟨0, Nat.zero_le _, rfl, fun x hx => by simp at hx, b32⟩
      case round =>
        obtain ⟨i, hi, rfl, hno, hB3⟩ := hrel
        clear b32 b30
        have hBw := HB2.out.trans (hB3.mono HB2.out.size)
        by_cases hlt : i < M.length
        · obtain ⟨bb, off, rfl, e0, e1, _⟩ := ents_get (HMW.out _ hBw) i hlt
          have HF := Lib.hid (find_any L a ca M[i].z wr (HLW.out _ hBw) hln)
          have hst : ∀ x ∈ M.take (i + 1), x ∈ M.take i ∨ x = M[i] := fun x hx => by
            rw [List.take_succ_eq_append_getElem hlt] at hx
            rcases List.mem_append.1 hx with h | h
            · exact .inl h
            · exact .inr (by simpa using h)
          have di : decide (i < M.length) = true := decide_eq_true hlt
          have HNO := Lib.hid hno
          have HST := Lib.hid hst
          have hsz := hB3.size
          clear hno hst hBw
          unfold zxidV at HF
          cases hfb : findB L M[i].z with
          | true =>
            rw [hfb] at HF
            unfold Ent.z at HF
            clear hfb HST
            generalize M[i] = y at *
            go_wp2_with (
              first
              | (go_at_call 21; (with_reducible refine HF.out.mono ?_); rintro e w33 ⟨rfl, b33⟩)
              | (go_at_call 15; (with_reducible refine (HAw.out _).mono ?_); rintro e w9 ⟨rfl, b9⟩))
            go_ret
            exact ⟨rfl, HB2.out.trans ((hB3.trans ((b33.trans (b9.mono b33.size)).mono hsz)).mono HB2.out.size)⟩
          | false =>
            rw [hfb] at HF
            have HN1 : Hid (∀ x ∈ M.take (i + 1), findB L x.z = false) := Lib.hid (fun x hx => by
              rcases HST.out x hx with h | h
              · exact HNO.out x h
              · rw [h]; exact hfb)
            unfold Ent.z at HF
            clear hfb HST HNO
            generalize M[i] = y at *
            go_wp2_with (go_at_call 21; (with_reducible refine HF.out.mono ?_); rintro e w33 ⟨rfl, b33⟩; have hB4 := hB3.trans (b33.mono hsz); clear b33)
            go_roundw
            case rel => exact ⟨i + 1, hlt, by go_num, HN1.out, hB4⟩
            case measure => simp [intOf]; omega
        · obtain rfl : i = M.length := by omega
          rw [List.take_length] at hno
          have hNe : L.take T.length ++ M = N := by rw [← HT.out, ← HN.out]
          obtain ⟨hms, hrr, hab⟩ := meets_law L M T.length hq hrl (by rw [hNe]; exact hrm) hno
          unfold MeetSaid at hms
          rw [hNe] at hms hrr hab
          obtain ⟨k, z, R, hpe⟩ : ∃ k z R, planP L (0, 0) (lastZ N) = (k, z, R) := ⟨_, _, _, rfl⟩
          have hRl := plan_len2 L (0, 0) (lastZ N) k z R hpe
          rw [hpe] at hms hrr hab
          simp only at hms hrr hab
          have hnt : N.take T.length = T := by rw [HN.out, List.take_left]
          have di : decide (M.length < M.length) = false := decide_eq_false (by omega)
          clear hno hNe hBw
          have HLa := Lib.hid (fun W (hW : Below w2.heap.size w2 W) => last_any N a2 c2 W (HN2.out.grew hW) (by omega))
          have HP := Lib.hid (fun W (hW : Below w2.heap.size w2 W) => plan_any L a ca (0, 0) (lastZ N) W (HLW.out _ (HB2.out.trans (hW.mono HB2.out.size))) (by omega) hlc)
          rw [hpe] at HP
          unfold PlanSaid at HP
          unfold zxidV at HLa HP
          clear hpe
          rcases hms with ⟨rfl, hz, hgot⟩ | ⟨rfl, hfn, hfb, hgot⟩ | ⟨rfl, hfb, hz, hm0, hql⟩
          · have HTk := Lib.hid (fun b cm W (hW : Below w2.heap.size w2 W) hE => take_ok (.slice a2 N.length c2) 1 z R b cm W hE (by omega) hrr hab N a2 c2 (HN2.out.grew hW) (by omega) (fun W' hW' => keeps_diff N a2 c2 z b R.length cm W' (HN2.out.grew (hW.trans (hW'.mono hW.size))) (by omega) hz.symm))
            clear hz hrr hab hnt
            go_wp2_with (
              first
              | (go_at_call 23; (with_reducible refine (HLa.out _ hB3).mono ?_); rintro e w4 ⟨rfl, b4⟩; have hB4 := hB3.trans (b4.mono hB3.size); clear b4)
              | (go_at_call 16; (with_reducible refine (HP.out _ hB4).mono ?_); rintro e w5 ⟨v5, rfl, hO5, b5⟩; obtain ⟨a5, c5, rfl, _, hE5⟩ := own_at hO5; have hB5 := (hB4.trans (b5.mono hB4.size)).alloc (hB4.trans (b5.mono hB4.size)).size (.cells #[.int .i64 z.1, .int .i64 z.2] 24); have hx5 := BlkAt.alloc_new w5 [.int .i64 z.1, .int .i64 z.2] 24; have q0 := hx5.cell (i := 0) rfl; have q1 := hx5.cell (i := 1) rfl; have hE5 := hE5.grew (alloc_below w5 (.cells #[.int .i64 z.1, .int .i64 z.2] 24)); clear b5 hO5 hx5)
              | (go_at_call 40; (with_reducible refine (HTk.out _ _ _ hB5 hE5).mono ?_); rintro e w7 ⟨v7, rfl, hO7, b7⟩; have hB7 := hB5.trans (b7.mono hB5.size); rw [hgot] at hO7; obtain ⟨a7, c7, rfl, _, hE7⟩ := own_at hO7; clear hO7 b7)
              | (go_at_call 18; (with_reducible refine (l_at L a7 c7 _ hE7 (by omega)).mono ?_); rintro e w8 ⟨a8, c8, rfl, _, hE8, b8⟩; have hB8 := hB7.trans (b8.mono hB7.size); clear b8)
              | (go_at_call 18; (with_reducible refine (l_at L a ca _ (HLW.out _ (HB2.out.trans (hB8.mono HB2.out.size))) (by omega)).mono ?_); rintro e w10 ⟨a10, c10, rfl, _, hE10, b10⟩; have hE8 := hE8.grew b10; have hB10 := hB8.trans (b10.mono hB8.size); clear b10)
              | (go_at_call 20; (with_reducible refine (same_self L a8 a10 c8 c10 _ hE8 hE10 (by omega)).mono ?_); rintro e w11 ⟨rfl, b11⟩; have hB11 := hB10.trans (b11.mono hB10.size); clear b11)
              | (go_at_call 15; (with_reducible refine (HAw.out _).mono ?_); rintro e w9 ⟨rfl, b9⟩; have hB9 := hB11.trans (b9.mono hB11.size)))
            go_ret
            exact ⟨rfl, HB2.out.trans (hB9.mono HB2.out.size)⟩
          · rw [hnt] at hgot
            have HFi := Lib.hid (fun W (hW : Below w2.heap.size w2 W) => find_any N a2 c2 z W (HN2.out.grew hW) (by omega))
            unfold zxidV at HFi
            rw [hfn] at HFi
            have hTa : ∀ W, Below w2.heap.size w2 W → EntsAt W (.slice a2 T.length c2) T := fun W hW => by
              have := ents_take (HN2.out.grew hW) T.length (by rw [HN.out, List.length_append]; omega) c2
              rwa [hnt] at this
            have hkp : ∀ b cm W, Below w2.heap.size w2 W → Calls Try.prog 54 #[.slice a2 N.length c2, .agg #[.int .i64 2, .int .i64 0, .int .i64 0, .int .i64 0, .int .i64 z.1, .int .i64 z.2, .string ⟨#[]⟩, .slice b R.length cm]] W (KeepSaid (.slice a2 T.length c2) 0 W) := fun b cm W hW => by
              rw [← hfn]
              cases hb : findB N z with
              | true => exact keeps_is N a2 c2 z b R.length cm W (HN2.out.grew hW) (by omega) hlc2 hb
              | false =>
                rcases hfb with h | h
                · rw [hb] at h; cases h
                · exact keeps_zero N a2 c2 z b R.length cm W (HN2.out.grew hW) (by omega) hlc2 hb h
            have HTk := Lib.hid (fun b cm W (hW : Below w2.heap.size w2 W) hE => take_ok (.slice a2 N.length c2) 2 z R b cm W hE (by omega) hrr hab T a2 c2 (hTa W hW) (by omega) (fun W' hW' => hkp b cm W' (hW.trans (hW'.mono hW.size))))
            generalize findB N z = fb at *
            clear hfb hrr hab hnt hTa hkp hfn
            go_wp2_with (
              first
              | (go_at_call 23; (with_reducible refine (HLa.out _ hB3).mono ?_); rintro e w4 ⟨rfl, b4⟩; have hB4 := hB3.trans (b4.mono hB3.size); clear b4)
              | (go_at_call 16; (with_reducible refine (HP.out _ hB4).mono ?_); rintro e w5 ⟨v5, rfl, hO5, b5⟩; obtain ⟨a5, c5, rfl, _, hE5⟩ := own_at hO5; have hB5 := (hB4.trans (b5.mono hB4.size)).alloc (hB4.trans (b5.mono hB4.size)).size (.cells #[.int .i64 z.1, .int .i64 z.2] 24); have hx5 := BlkAt.alloc_new w5 [.int .i64 z.1, .int .i64 z.2] 24; have q0 := hx5.cell (i := 0) rfl; have q1 := hx5.cell (i := 1) rfl; have hE5 := hE5.grew (alloc_below w5 (.cells #[.int .i64 z.1, .int .i64 z.2] 24)); clear b5 hO5 hx5)
              | (go_at_call 21; (with_reducible refine (HFi.out _ hB5).mono ?_); rintro e w6 ⟨rfl, b6⟩; have q0 := Grew.cell b6 q0; have q1 := Grew.cell b6 q1; have hE5 := hE5.grew b6; have hB5 := hB5.trans (b6.mono hB5.size); clear b6)
              | (go_at_call 40; (with_reducible refine (HTk.out _ _ _ hB5 hE5).mono ?_); rintro e w7 ⟨v7, rfl, hO7, b7⟩; have hB7 := hB5.trans (b7.mono hB5.size); rw [hgot] at hO7; obtain ⟨a7, c7, rfl, _, hE7⟩ := own_at hO7; clear hO7 b7)
              | (go_at_call 18; (with_reducible refine (l_at L a7 c7 _ hE7 (by omega)).mono ?_); rintro e w8 ⟨a8, c8, rfl, _, hE8, b8⟩; have hB8 := hB7.trans (b8.mono hB7.size); clear b8)
              | (go_at_call 18; (with_reducible refine (l_at L a ca _ (HLW.out _ (HB2.out.trans (hB8.mono HB2.out.size))) (by omega)).mono ?_); rintro e w10 ⟨a10, c10, rfl, _, hE10, b10⟩; have hE8 := hE8.grew b10; have hB10 := hB8.trans (b10.mono hB8.size); clear b10)
              | (go_at_call 20; (with_reducible refine (same_self L a8 a10 c8 c10 _ hE8 hE10 (by omega)).mono ?_); rintro e w11 ⟨rfl, b11⟩; have hB11 := hB10.trans (b11.mono hB10.size); clear b11)
              | (go_at_call 15; (with_reducible refine (HAw.out _).mono ?_); rintro e w9 ⟨rfl, b9⟩; have hB9 := hB11.trans (b9.mono hB11.size)))
            go_ret
            exact ⟨rfl, HB2.out.trans (hB9.mono HB2.out.size)⟩
          · have HFi := Lib.hid (fun W (hW : Below w2.heap.size w2 W) => find_any N a2 c2 z W (HN2.out.grew hW) (by omega))
            unfold zxidV at HFi
            rw [hfb] at HFi
            have HTk := Lib.hid (fun b cm W (hW : Below w2.heap.size w2 W) hE => take_old (.slice a2 N.length c2) 2 z R b cm W hE (by omega) hrr hab (fun W' hW' => keeps_old N a2 c2 z b R.length cm W' (HN2.out.grew (hW.trans (hW'.mono hW.size))) (by omega) hlc2 hfb hz))
            have dm : decide (0 < M.length) = true := decide_eq_true hm0
            have dql : decide (T.length < L.length) = true := decide_eq_true hql
            clear hfb hz hrr hab hnt
            have hfc : decide (T.length < findN N z) = true ∨ decide (T.length < findN N z) = false := by cases decide (T.length < findN N z) <;> simp
            generalize findN N z = f at *
            rcases hfc with df | df
            all_goals
              go_wp2_with (
                first
                | (go_at_call 23; (with_reducible refine (HLa.out _ hB3).mono ?_); rintro e w4 ⟨rfl, b4⟩; have hB4 := hB3.trans (b4.mono hB3.size); clear b4)
                | (go_at_call 16; (with_reducible refine (HP.out _ hB4).mono ?_); rintro e w5 ⟨v5, rfl, hO5, b5⟩; obtain ⟨a5, c5, rfl, _, hE5⟩ := own_at hO5; have hB5 := (hB4.trans (b5.mono hB4.size)).alloc (hB4.trans (b5.mono hB4.size)).size (.cells #[.int .i64 z.1, .int .i64 z.2] 24); have hx5 := BlkAt.alloc_new w5 [.int .i64 z.1, .int .i64 z.2] 24; have q0 := hx5.cell (i := 0) rfl; have q1 := hx5.cell (i := 1) rfl; have hE5 := hE5.grew (alloc_below w5 (.cells #[.int .i64 z.1, .int .i64 z.2] 24)); clear b5 hO5 hx5)
                | (go_at_call 21; (with_reducible refine (HFi.out _ hB5).mono ?_); rintro e w6 ⟨rfl, b6⟩; have q0 := Grew.cell b6 q0; have q1 := Grew.cell b6 q1; have hE5 := hE5.grew b6; have hB5 := hB5.trans (b6.mono hB5.size); clear b6)
                | (go_at_call 40; (with_reducible refine (HTk.out _ _ _ hB5 hE5).mono ?_); rintro e w7 ⟨rfl, b7⟩; have hB7 := hB5.trans (b7.mono hB5.size); clear b7)
                | (go_at_call 15; (with_reducible refine (HAw.out _).mono ?_); rintro e w9 ⟨rfl, b9⟩; have hB9 := hB7.trans (b9.mono hB7.size)))
              go_ret
              exact ⟨rfl, HB2.out.trans (hB9.mono HB2.out.size)⟩
    · rw [Bool.not_eq_true] at hrm
      have HR1 := Lib.hid (right_any L a ca w2 (HLW.out _ HB2.out) hln)
      have HR2 := Lib.hid (fun W (hW : Below w2.heap.size w2 W) => right_any N a2 c2 W (HN2.out.grew hW) (by omega))
      rw [hrl] at HR1
      rw [hrm] at HR2
      refine HR1.out.mono ?_
      rintro e w30 ⟨rfl, b30⟩
      go_wp2_with (
        first
        | (go_at_call 13; (with_reducible refine (HR2.out _ b30).mono ?_); rintro e w31 ⟨rfl, b31⟩; have b32 := b30.trans (b31.mono b30.size); clear b31)
        | (go_at_call 15; (with_reducible refine (HAw.out _).mono ?_); rintro e w9 ⟨rfl, b9⟩))
      go_ret
      exact ⟨rfl, HB2.out.trans ((b32.trans (b9.mono b32.size)).mono HB2.out.size)⟩
  · rw [Bool.not_eq_true] at hrl
    have HR1 := Lib.hid (right_any L a ca w2 (HLW.out _ HB2.out) hln)
    rw [hrl] at HR1
    refine HR1.out.mono ?_
    rintro e w30 ⟨rfl, b30⟩
    go_wp2_with (go_at_call 15; (with_reducible refine (HAw.out _).mono ?_); rintro e w9 ⟨rfl, b9⟩)
    go_ret
    exact ⟨rfl, HB2.out.trans ((b30.trans (b9.mono b30.size)).mono HB2.out.size)⟩
/-- THE LAW. -/
theorem histMeets_walk (W : World) (v0 : Value) (many : Int) (v2 : Value) (h0 : IsEnts W v0) (_w1 : (Lit.int .i64 many).wf = true) (h2 : IsEnts W v2) :
    Calls Try.prog 11 #[v0, .int .i64 many, v2] W fun e w' => e = .returned (.bool true) ∧ Below W.heap.size W w' := by
  obtain ⟨L, a, ca, rfl, h1, h3, h4, h5⟩ := h0
  obtain ⟨M, b, cb, rfl, k1, k3, k4, k5⟩ := h2
  unfold maxLen at h3 k3
  cases e1 : fewE L with
  | false => exact meets_bad L M a b ca cb many W h4 k4 (by omega) (by omega) h5 k5 (.inl e1)
  | true =>
    cases e2 : fewE M with
    | false => exact meets_bad L M a b ca cb many W h4 k4 (by omega) (by omega) h5 k5 (.inr (.inl ⟨e1, e2⟩))
    | true =>
      by_cases h6 : many < 0
      · exact meets_bad L M a b ca cb many W h4 k4 (by omega) (by omega) h5 k5 (.inr (.inr (.inl ⟨e1, e2, decide_eq_true h6⟩)))
      · by_cases h7 : (L.length : Int) < many
        · exact meets_bad L M a b ca cb many W h4 k4 (by omega) (by omega) h5 k5 (.inr (.inr (.inr ⟨e1, e2, decide_eq_false h6, decide_eq_true h7⟩)))
        · obtain ⟨q, rfl⟩ : ∃ q : Nat, many = (q : Int) := ⟨many.toNat, by omega⟩
          exact meets_any L M a b ca cb q W h4 k4 h1 (by omega) (by omega) h5 k5 e1 e2 (by omega)
end Go.Proofs.Ytaahbfcnccmcoaa
