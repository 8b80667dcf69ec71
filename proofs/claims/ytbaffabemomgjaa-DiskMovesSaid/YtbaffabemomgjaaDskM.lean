/- The disk laws' calls: how they stand in memory; the walks of few and do. Conditions: as each theorem says. -/
import Derived.Test.YtbaffabemomgjaaDskL
namespace Go.Proofs.Ytbaffabemomgjaa
open Go.RowKit

structure Dop where
  ask : Int
  name : Bys
  data : Bys
  n : Int
  keeps : List Int
  ka : Option Addr
  kc : Nat
deriving Inhabited
def dopCells (o : Dop) : List Value := [.int .i64 o.ask, .string (bs o.name), .string (bs o.data), .int .i64 o.n, .slice o.ka o.keeps.length o.kc]
def dopV (o : Dop) : Value := .agg #[.int .i64 o.ask, .string (bs o.name), .string (bs o.data), .int .i64 o.n, .slice o.ka o.keeps.length o.kc]
structure Dop.ok (w : World) (o : Dop) : Prop where
  name : o.name.length ≤ maxLen
  data : o.data.length ≤ maxLen
  n : o.n < 9223372036854775808
  rows : RowsAt 1 intCells w (.slice o.ka o.keeps.length o.kc) o.keeps
  kc : o.keeps.length ≤ o.kc
  km : o.kc ≤ maxLen
theorem Dop.ok.grew {w w' : World} {o : Dop} (h : o.ok w) (hb : Below w.heap.size w w') : o.ok w' := ⟨h.name, h.data, h.n, h.rows.grew hb, h.kc, h.km⟩
def fewB (o : Dop) : Bool := decide (o.name.length ≤ 100) && (decide (o.data.length ≤ 2000) && decide (o.keeps.length ≤ 50))
def doD (d : Dk) (o : Dop) : Dk × Int :=
  if o.ask = 0 then appendD d o.name o.data else if o.ask = 1 then syncD d o.name else if o.ask = 2 then renameD d o.name o.data
  else if o.ask = 3 then truncD d o.name o.n else if o.ask = 4 then removeD d o.name else if o.ask = 5 then armD d o.n else (crashD d o.keeps, 0)
theorem do_fit {d : Dk} (h : d.fit) (o : Dop) (hn : o.n < 9223372036854775808) : (doD d o).1.fit := by
  unfold doD
  split
  · exact append_fit h _ _
  · split
    · exact sync_fit h _
    · split
      · exact rename_fit h _ _
      · split
        · exact trunc_fit h _ _
        · split
          · exact remove_fit h _
          · split
            · exact arm_fit h _ hn
            · exact crash_fit h _
theorem do_length (d : Dk) (o : Dop) : (doD d o).1.m.length ≤ d.m.length + 1 := by
  have hp := fun M k f => put_length_le M k f
  have hd := fun M k => del_length_le M k
  unfold doD
  split
  · unfold appendD
    split
    · simp
    · split
      · simp
      · split
        · simp
        · rw [act_m]; exact hp _ _ _
  · split
    · unfold syncD
      split
      · simp
      · split
        · rw [act_m]; simp
        · exact hp _ _ _
    · split
      · unfold renameD
        split
        · simp
        · split
          · simp
          · split
            · simp
            · split
              · rw [act_m]; simp
              · have := hp (delM d.m o.name) o.data (getF d.m o.name); have := hd d.m o.name; show (putM _ _ _).length ≤ _; omega
      · split
        · unfold truncD
          split
          · simp
          · split
            · simp
            · split
              · rw [act_m]; simp
              · exact hp _ _ _
        · split
          · unfold removeD
            split
            · simp
            · split
              · rw [act_m]; simp
              · have := hd d.m o.name; show (delM _ _).length ≤ _; omega
          · split
            · unfold armD
              split
              · simp
              · split
                · simp
                · simp
            · have := crash_length d.m o.keeps; show (crashM _ _).length ≤ _; omega
theorem do_limit (d : Dk) (o : Dop) : (doD d o).1.limit = d.limit := by
  unfold doD appendD syncD renameD truncD removeD armD crashD
  repeat' split
  all_goals first | rfl | (rw [act_limit]) | (simp only [act_limit])
set_option maxRecDepth 100000 in
theorem few_any (o : Dop) (w : World) : Calls Try.prog 18 #[dopV o] w fun e w' => e = .returned (.bool (fewB o)) ∧ Below w.heap.size w w' := by
  have h1 : (bs o.name).size = o.name.length := bs_size _
  have h2 : (bs o.data).size = o.data.length := bs_size _
  have HB := Lib.hid (alloc_below w)
  unfold fewB dopV
  by_cases a1 : o.name.length ≤ 100
  · have b1 : decide ((o.name.length : Int) ≤ 100) = true := decide_eq_true (by omega)
    rw [decide_eq_true a1]
    by_cases a2 : o.data.length ≤ 2000
    · have b2 : decide ((o.data.length : Int) ≤ 2000) = true := decide_eq_true (by omega)
      rw [decide_eq_true a2]
      by_cases a3 : o.keeps.length ≤ 50
      · have b3 : decide ((o.keeps.length : Int) ≤ 50) = true := decide_eq_true (by omega)
        rw [decide_eq_true a3]
        clear a1 a2 a3
        go_enter Try.func18, Try.ntmps18
        go_wp2
        go_ret
        exact ⟨rfl, HB.out _⟩
      · have b3 : decide ((o.keeps.length : Int) ≤ 50) = false := decide_eq_false (by omega)
        rw [decide_eq_false a3]
        clear a1 a2 a3
        go_enter Try.func18, Try.ntmps18
        go_wp2
        go_ret
        exact ⟨rfl, HB.out _⟩
    · have b2 : decide ((o.data.length : Int) ≤ 2000) = false := decide_eq_false (by omega)
      rw [decide_eq_false a2]
      clear a1 a2
      go_enter Try.func18, Try.ntmps18
      go_wp2
      go_ret
      exact ⟨rfl, HB.out _⟩
  · have b1 : decide ((o.name.length : Int) ≤ 100) = false := decide_eq_false (by omega)
    rw [decide_eq_false a1]
    clear a1
    go_enter Try.func18, Try.ntmps18
    go_wp2
    go_ret
    exact ⟨rfl, HB.out _⟩
section
variable {g b : Nat} {d : Dk} {w : World}
theorem DkDone.later {d' : Dk} {r : Int} {w1 : World} {e : Ending} {w2 : World} (hb : Below w.heap.size w w1) (h : DkDone g b d' r w1 e w2) : DkDone g b d' r w e w2 := ⟨h.1, h.2.1, (Apart.of_below hb).trans h.2.2 (fun i hi => .inl hi)⟩
set_option maxRecDepth 100000 in
set_option maxHeartbeats 1600000 in
theorem do_any (h : DkAt g b d w) (hf : d.fit) (hn : d.m.length < 1000000) (o : Dop) (ho : o.ok w) : Calls Try.prog 19 #[ptrV g, dopV o] w (DkDone g b (doD d o).1 (doD d o).2 w) := by
  have HH := Lib.hid (fun x => h.grew (alloc_below w x))
  have HB := Lib.hid (alloc_below w)
  have HO := Lib.hid (fun x => ho.grew (alloc_below w x))
  have HFit := Lib.hid hf
  clear h hf ho
  unfold dopV doD
  by_cases a0 : o.ask = 0
  · as_aux_lemma =>
    rw [if_pos a0]
    have b0 : ((o.ask : Int) == 0) = true := by rw [beq_iff_eq]; exact a0
    have HC := Lib.hid (fun x => append_any (HH.out x) HFit.out hn o.name o.data (HO.out (.map #[] 0)).name (HO.out (.map #[] 0)).data)
    unfold ptrV strV at *
    clear a0
    go_enter Try.func19, Try.ntmps19
    go_wp2_with (go_at_call 8; refine (HC.out _).mono ?_; rintro e w2 hk; have he := hk.1; subst he; have HE := Lib.hid (DkDone.later (HB.out _) hk); clear hk)
    go_ret
    exact HE.out
  rw [if_neg a0]
  have b0 : ((o.ask : Int) == 0) = false := by rw [beq_eq_false_iff_ne]; exact a0
  by_cases a1 : o.ask = 1
  · as_aux_lemma =>
    rw [if_pos a1]
    have b1 : ((o.ask : Int) == 1) = true := by rw [beq_iff_eq]; exact a1
    have HC := Lib.hid (fun x => sync_any (HH.out x) HFit.out hn o.name (HO.out (.map #[] 0)).name)
    unfold ptrV strV at *
    clear a0
    clear a1
    go_enter Try.func19, Try.ntmps19
    go_wp2_with (go_at_call 9; refine (HC.out _).mono ?_; rintro e w2 hk; have he := hk.1; subst he; have HE := Lib.hid (DkDone.later (HB.out _) hk); clear hk)
    go_ret
    exact HE.out
  rw [if_neg a1]
  have b1 : ((o.ask : Int) == 1) = false := by rw [beq_eq_false_iff_ne]; exact a1
  by_cases a2 : o.ask = 2
  · as_aux_lemma =>
    rw [if_pos a2]
    have b2 : ((o.ask : Int) == 2) = true := by rw [beq_iff_eq]; exact a2
    have HC := Lib.hid (fun x => rename_any (HH.out x) HFit.out hn o.name o.data (HO.out (.map #[] 0)).name (HO.out (.map #[] 0)).data)
    unfold ptrV strV at *
    clear a0
    clear a1
    clear a2
    go_enter Try.func19, Try.ntmps19
    go_wp2_with (go_at_call 10; refine (HC.out _).mono ?_; rintro e w2 hk; have he := hk.1; subst he; have HE := Lib.hid (DkDone.later (HB.out _) hk); clear hk)
    go_ret
    exact HE.out
  rw [if_neg a2]
  have b2 : ((o.ask : Int) == 2) = false := by rw [beq_eq_false_iff_ne]; exact a2
  by_cases a3 : o.ask = 3
  · as_aux_lemma =>
    rw [if_pos a3]
    have b3 : ((o.ask : Int) == 3) = true := by rw [beq_iff_eq]; exact a3
    have HC := Lib.hid (fun x => trunc_any (HH.out x) HFit.out hn o.name o.n (HO.out (.map #[] 0)).name)
    unfold ptrV strV at *
    clear a0
    clear a1
    clear a2
    clear a3
    go_enter Try.func19, Try.ntmps19
    go_wp2_with (go_at_call 15; refine (HC.out _).mono ?_; rintro e w2 hk; have he := hk.1; subst he; have HE := Lib.hid (DkDone.later (HB.out _) hk); clear hk)
    go_ret
    exact HE.out
  rw [if_neg a3]
  have b3 : ((o.ask : Int) == 3) = false := by rw [beq_eq_false_iff_ne]; exact a3
  by_cases a4 : o.ask = 4
  · as_aux_lemma =>
    rw [if_pos a4]
    have b4 : ((o.ask : Int) == 4) = true := by rw [beq_iff_eq]; exact a4
    have HC := Lib.hid (fun x => remove_any (HH.out x) HFit.out o.name (HO.out (.map #[] 0)).name)
    unfold ptrV strV at *
    clear a0
    clear a1
    clear a2
    clear a3
    clear a4
    go_enter Try.func19, Try.ntmps19
    go_wp2_with (go_at_call 16; refine (HC.out _).mono ?_; rintro e w2 hk; have he := hk.1; subst he; have HE := Lib.hid (DkDone.later (HB.out _) hk); clear hk)
    go_ret
    exact HE.out
  rw [if_neg a4]
  have b4 : ((o.ask : Int) == 4) = false := by rw [beq_eq_false_iff_ne]; exact a4
  by_cases a5 : o.ask = 5
  · as_aux_lemma =>
    rw [if_pos a5]
    have b5 : ((o.ask : Int) == 5) = true := by rw [beq_iff_eq]; exact a5
    have HC := Lib.hid (fun x => arm_any (HH.out x) o.n)
    unfold ptrV at *
    clear a0
    clear a1
    clear a2
    clear a3
    clear a4
    clear a5
    go_enter Try.func19, Try.ntmps19
    go_wp2_with (go_at_call 17; refine (HC.out _).mono ?_; rintro e w2 ⟨rfl, hD, hg⟩; have HE := Lib.hid (DkDone.later (HB.out _) ⟨rfl, hD, Apart.of_grown (F := DkF g b) hg (fun i hi => .inl (.inl (Option.some.inj hi).symm))⟩ : DkDone g b _ (armD d o.n).2 w (.returned (.int .i64 (armD d o.n).2)) w2); clear hD hg)
    go_ret
    exact HE.out
  rw [if_neg a5]
  have b5 : ((o.ask : Int) == 5) = false := by rw [beq_eq_false_iff_ne]; exact a5
  have HC := Lib.hid (fun x => crash_any (HH.out x) HFit.out hn o.keeps o.ka o.kc (HO.out x).rows (HO.out x).kc (HO.out x).km)
  unfold ptrV at *
  clear a0
  clear a1
  clear a2
  clear a3
  clear a4
  clear a5
  go_enter Try.func19, Try.ntmps19
  go_wp2_with (go_at_call 11; refine (HC.out _).mono ?_; rintro e w2 hk; have he := hk.1; subst he; have HE := Lib.hid (DkDone.later (HB.out _) hk); clear hk)
  go_ret
  exact HE.out
end
end Go.Proofs.Ytbaffabemomgjaa
