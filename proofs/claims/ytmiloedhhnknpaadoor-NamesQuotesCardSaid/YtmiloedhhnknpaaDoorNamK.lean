/- The walk of NamesBack. Conditions: as each theorem says (the table and strconv's variables as they were laid). -/
import Derived.Test.YtmiloedhhnknpaaDoorNamM
import Derived.Test.YtmiloedhhnknpaaDoorNamY
namespace Go.Proofs.YtmiloedhhnknpaaDoor
open Go.RowKit

def LaidAt (w : World) : Prop := DebAt w ∧ ErrAt w
theorem LaidAt.below {w w' : World} (h : LaidAt w) (hb : Below w.heap.size w w') : LaidAt w' := ⟨h.1.below hb, h.2.below hb⟩

set_option maxRecDepth 1000000 in
set_option maxHeartbeats 2000000 in
theorem namesBack_walk (W : World) (hd : LaidAt W) (s : ByteArray) :
    Calls Tryd.prog 9 #[.string s] W fun e w' => e = .returned (.bool true) ∧ Below W.heap.size W w' := by
  have HA := Lib.hid awake_at
  unfold awakeAt at HA
  have Hd := Lib.hid hd
  clear hd
  by_cases h1 : 500 < s.size
  · as_aux_lemma =>
    have d1 : decide (500 < (s.size : Int)) = true := decide_eq_true (by omega)
    go_enter Tryd.func9, Tryd.ntmps9
    go_wp2_with (fail)
    refine (HA.out _ Hd.out.1).mono ?_
    rintro e w1 ⟨rfl, b1⟩
    go_wp2
    go_ret
    exact ⟨rfl, b1⟩
  have d1 : decide (500 < (s.size : Int)) = false := decide_eq_false (by omega)
  have hz := Lib.size_eq s
  have HQ := Lib.hid (fun X hX => quote_any s X (by omega) hX)
  have hql := quoteL_len s.data.toList
  have hqp := quoteL_plain s.data.toList
  have HU := Lib.hid (fun X hX hE => unquote_any (bs (quoteL s.data.toList)) X (by rw [bs_size]; omega) hX hE)
  have HUS := Lib.hid (fun X hX hE => unquote_any s X (by omega) hX hE)
  rw [bs_data, unqL_quoteL] at HU
  unfold UnqSaid at HU HUS
  have hc := unqL_cases s.data.toList
  have HQU := Lib.hid (fun X hX hl => quote_any (bs (unqL s.data.toList).1) X hl hX)
  rw [bs_data] at HQU
  have hul : (unqL s.data.toList).2 = 0 → (unqL s.data.toList).1.length ≤ s.size := fun h => by
    rcases hc with h2 | h2
    · have := quoteL_ge (unqL s.data.toList).1
      rw [h2.2, ← hz] at this
      exact this
    · rw [h2] at h; simp at h
  have hbs : bs s.data.toList = s := bs_of s
  have hne1 : (s.toList != s.toList) = false := by simp
  simp only [bs_of] at HU
  generalize unqL s.data.toList = U at *
  obtain ⟨u, k⟩ := U
  simp only at hc hul HQU HUS
  generalize hqq : quoteL s.data.toList = q at *
  have Hqp := Lib.hid hqp
  have Hc := Lib.hid hc
  have Hul := Lib.hid hul
  have Hz := Lib.hid hz
  have hqs : (bs q).size ≤ 5000 := by rw [bs_size]; omega
  clear hqp hc hul hz hql hqq hbs
  go_enter Tryd.func9, Tryd.ntmps9
  go_wp2_with (fail)
  refine (HQ.out _ Hd.out.1).mono ?_
  rintro e w1 ⟨rfl, b1⟩
  go_wp2_with (fail)
  have Hd1 := Lib.hid (Hd.out.below b1)
  refine (HU.out _ Hd1.out.1 Hd1.out.2).mono ?_
  rintro e w2 ⟨rfl, b2⟩
  have b2 := b1.trans (b2.mono b1.size)
  have Hd2 := Lib.hid (Hd.out.below b2)
  go_wp2_with (fail)
  go_loop [6] (fun v6 => ∃ (k : Nat), v6 = .int .i64 (k : Int) ∧ k ≤ (bs q).size) (fun v6 => (bs q).size - (intOf v6).toNat)
  case atStart => exact ⟨0, rfl, by omega⟩
  case round =>
    obtain ⟨j, rfl, hj⟩ := hrel
    by_cases hp : j < (bs q).size
    · as_aux_lemma =>
      have hpl := Hqp.out (bs q)[j] (by
        have h := getD_at (bs q) j hp
        rw [← h, bs_data]
        rw [bs_size] at hp
        simp [List.getD, hp])
      unfold plainC at hpl
      have hp' : (j : Int) < ((bs q).size : Int) := by omega
      have t1 : decide (((bs q)[j].toNat : Int) < 33) = false := decide_eq_false (by omega)
      have t2 : decide (126 < ((bs q)[j].toNat : Int)) = false := decide_eq_false (by omega)
      go_wp2
      go_round
      case rel => exact ⟨j + 1, by go_num, by omega⟩
      case measure => simp [intOf]; omega
    · have hdj : decide ((j : Int) < ((bs q).size : Int)) = false := decide_eq_false (by omega)
      by_cases hk : k = 0
      · as_aux_lemma =>
        have hu := Hul.out hk
        have hk0 : ((k : Int) == 0) = true := by rw [beq_iff_eq]; omega
        have HQ2 := Lib.hid (fun X hX => HQU.out X hX (by rw [bs_size]; omega))
        have hcmp : ((bs (quoteL u)).toList == s.toList) = true := by
          rcases Hc.out with h | h
          · rw [bs_toList, ByteArray.toList_eq, h.2]; simp
          · have := congrArg Prod.snd h
            simp only at this
            omega
        clear hk
        go_wp2_with (fail)
        refine (HUS.out _ Hd2.out.1 Hd2.out.2).mono ?_
        rintro e w3 ⟨rfl, b3⟩
        have b3 := b2.trans (b3.mono b2.size)
        go_wp2_with (fail)
        refine (HQ2.out _ (Hd.out.below b3).1).mono ?_
        rintro e w4 ⟨rfl, b4⟩
        have b4 := b3.trans (b4.mono b3.size)
        go_wp2_with (fail)
        refine (HA.out _ (Hd.out.below b4).1).mono ?_
        rintro e w5 ⟨rfl, b5⟩
        have b5 := b4.trans (b5.mono b4.size)
        go_wp2
        go_ret
        exact ⟨rfl, b5⟩
      · as_aux_lemma =>
        have hU : u = [] ∧ k = 11 := by
          rcases Hc.out with h | h
          · exact absurd h.1 hk
          · exact ⟨congrArg Prod.fst h, congrArg Prod.snd h⟩
        obtain ⟨rfl, rfl⟩ := hU
        have hcmp : (bs []).toList.isEmpty = true := by rw [bs_toList]; rfl
        clear hk
        go_wp2_with (fail)
        refine (HUS.out _ Hd2.out.1 Hd2.out.2).mono ?_
        rintro e w3 ⟨rfl, b3⟩
        have b3 := b2.trans (b3.mono b2.size)
        go_wp2_with (fail)
        refine (HA.out _ (Hd.out.below b3).1).mono ?_
        rintro e w5 ⟨rfl, b5⟩
        have b5 := b3.trans (b5.mono b3.size)
        go_wp2
        go_ret
        exact ⟨rfl, b5⟩
end Go.Proofs.YtmiloedhhnknpaaDoor
