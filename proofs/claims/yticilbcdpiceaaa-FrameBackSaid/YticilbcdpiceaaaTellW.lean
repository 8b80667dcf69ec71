/- The walk of the law SumsTell: a text of which one byte is another one has another sum. Conditions: none. -/
import Derived.Test.YticilbcdpiceaaaTable
import Derived.Laws.IdiomStrings
import Derived.OpenShut
namespace Go.Proofs.Yticilbcdpiceaaa
open Go.RowKit

/-- A byte turned. -/
def turned (b : UInt8) (t : Nat) : UInt8 := UInt8.ofNat (b.toNat ^^^ t)
theorem turned_toNat (b : UInt8) (t : Nat) (h : t < 256) : (turned b t).toNat = b.toNat ^^^ t := by
  unfold turned
  rw [UInt8.toNat_ofNat']
  exact Nat.mod_eq_of_lt (xor256 _ _ b.toNat_lt h)
theorem turned_same (b : UInt8) (t : Nat) (h : t < 256) : turned b t = b ↔ t = 0 := by
  constructor
  · intro e
    have h1 := turned_toNat b t h
    rw [e] at h1
    have h2 := xor_cancel b.toNat t 0 (by rw [Nat.xor_zero]; exact h1.symm)
    exact h2
  · intro e
    subst e
    apply UInt8.toNat_inj.mp
    rw [turned_toNat b 0 h, Nat.xor_zero]
theorem getD_at (l : List UInt8) (i : Nat) (h : i < l.length) : l.getD i 0 = l[i] := by simp [List.getD, h]
theorem crc_set (l : List UInt8) (i : Nat) (hi : i < l.length) (t : Nat) (ht : t < 256) : crc (l.set i (turned (l[i]) t)) = crc l ↔ t = 0 := by
  rw [← turned_same (l[i]) t ht]
  have e1 : l.set i (turned (l[i]) t) = l.take i ++ turned (l[i]) t :: l.drop (i + 1) := by rw [List.set_eq_take_append_cons_drop, if_pos hi]
  have e2 : l = l.take i ++ l[i] :: l.drop (i + 1) := by
    have h := List.set_eq_take_append_cons_drop (l := l) (i := i) (a := l[i])
    rw [if_pos hi, List.set_getElem_self] at h
    exact h
  constructor
  · intro h
    rw [e1] at h
    have h2 : crc (l.take i ++ turned (l[i]) t :: l.drop (i + 1)) = crc (l.take i ++ l[i] :: l.drop (i + 1)) := h.trans (congrArg crc e2)
    exact crc_tells _ _ _ _ h2
  · intro h
    rw [h, List.set_getElem_self]

theorem awake_end (w W : World) (hb : Below w.heap.size w W) : ∀ (e : Ending) w', (e = .returned (.bool true) ∧ Below W.heap.size W w') → (e = .returned (.bool true) ∧ Below w.heap.size w w') :=
  fun _ _ ⟨h, k⟩ => ⟨h, hb.trans (k.mono hb.size)⟩

set_option maxRecDepth 100000 in
set_option maxHeartbeats 400000 in
theorem tell_out (s : ByteArray) (at_ : Int) (t : Nat) (hs : s.size ≤ maxLen) (h : 20000 < s.size ∨ (¬ 20000 < s.size ∧ at_ < 0) ∨ (¬ 20000 < s.size ∧ ¬ at_ < 0 ∧ (s.size : Int) ≤ at_)) (w : World) :
    Calls Try.prog 7 #[.string s, .int .i64 at_, .int .u8 t] w fun e w' => e = .returned (.bool true) ∧ Below w.heap.size w w' := by
  unfold maxLen at hs
  rcases h with h | ⟨h0, h⟩ | ⟨h0, h1, h2⟩
  all_goals
    go_enter Try.func7, Try.ntmps7
    go_wp2_with fail
    refine (awake_any _).mono ?_
    rintro e w1 ⟨rfl, hb1⟩
    go_wp2
    go_ret
    exact ⟨rfl, hb1⟩

theorem bytesWorld_frozen (w : World) (e : TypeId) (s : ByteArray) (j : Nat) (hj : j < s.size) : (Lib.bytesWorld w e s).frozen? ⟨w.heap.size, j, none⟩ = false := by
  have hl : s.size ≤ (Lib.bytesCells w e s).size := by
    unfold Lib.bytesCells
    rw [Array.size_append, Array.size_map]
    exact Nat.le_add_right _ _
  simp only [World.frozen?, Lib.bytesWorld_at_new]
  simp; omega

set_option maxRecDepth 100000 in
set_option maxHeartbeats 400000 in
theorem tell_in (s : ByteArray) (i t : Nat) (hs : s.size ≤ 20000) (hi : i < s.size) (ht : t < 256) (w : World) :
    Calls Try.prog 7 #[.string s, .int .i64 i, .int .u8 t] w fun e w' => e = .returned (.bool true) ∧ Below w.heap.size w w' := by
  have hm : s.size ≤ maxLen := by unfold maxLen; omega
  have kc := fun w => Lib.run_convert_string_bytes (P := Try.prog) w 9 35 5 s Try.underlying9 Try.underlying35 Try.underlying5
  have hcell := Lib.bytesWorld_cell w 5 s i hi
  have hfro := bytesWorld_frozen w 5 s i hi
  have hil : i < s.data.toList.length := by simpa using hi
  have hg : s.data.toList.getD i 0 = s.data.toList[i] := getD_at _ _ hil
  rw [hg] at hcell
  have hx := u8_xor_nat (s.data.toList[i]).toNat t (s.data.toList[i]).toNat_lt ht
  rw [← turned_toNat _ t ht] at hx
  have hb : Below w.heap.size w (Lib.bytesWorld w 5 s) := ⟨rfl, rfl, rfl, by rw [Lib.bytesWorld_size]; omega, fun k hk => Lib.bytesWorld_at_old _ _ _ _ (by omega)⟩
  have hcs := crc_set s.data.toList i hil t ht
  have hback : ∀ cap, (convert 35 9 (.slice (some ⟨w.heap.size, 0, none⟩) s.size cap)).run Try.prog ((Lib.bytesWorld w 5 s).setCell ⟨w.heap.size, i, none⟩ (.int .u8 (turned (s.data.toList[i]) t).toNat))
      = .ok (.string ⟨(s.data.toList.set i (turned (s.data.toList[i]) t)).toArray⟩) ((Lib.bytesWorld w 5 s).setCell ⟨w.heap.size, i, none⟩ (.int .u8 (turned (s.data.toList[i]) t).toNat)) := by
    intro cap
    have h := run_convert_bytes_back (P := Try.prog) ((Lib.bytesWorld w 5 s).setCell ⟨w.heap.size, i, none⟩ (.int .u8 (turned (s.data.toList[i]) t).toNat)) 35 9 5 ⟨w.heap.size, 0, none⟩ cap
      (s.data.toList.set i (turned (s.data.toList[i]) t)) Try.underlying35 Try.underlying5 Try.underlying9 (fun j hj => by
        have hj' : j < s.size := by simpa using hj
        have ha : (⟨w.heap.size, 0, none⟩ : Addr).add j = ⟨w.heap.size, j, none⟩ := by unfold Addr.add; split <;> simp_all
        rw [ha]
        by_cases e : i = j
        · subst e
          rw [World.cell?_setCell_same _ _ _ hcell]
          simp only [List.getElem_set_self]
        · have hjl : j < s.data.toList.length := hj'
          rw [World.cell?_setCell_other _ _ _ _ (by simp [Ne.symm e]), Lib.bytesWorld_cell w 5 s j hj', getD_at _ _ hjl, List.getElem_set_ne e])
    rw [List.length_set] at h
    exact h
  have kc0 := kc w
  clear kc
  generalize turned (s.data.toList[i]) t = u at *
  have hsz : (ByteArray.mk (s.data.toList.set i u).toArray).size ≤ maxLen := by
    show (s.data.toList.set i u).toArray.size ≤ maxLen
    rw [List.size_toArray, List.length_set]
    exact hm
  generalize hc : (s.data.toList[i]).toNat = c at *
  generalize Lib.bytesWorld w 5 s = W at *
  have hb2 : Below w.heap.size w (W.setCell ⟨w.heap.size, i, none⟩ (.int .u8 u.toNat)) := hb.setCell (by simp) _
  have hcs' := Lib.hid hcs
  clear hcs hc hg hil
  have e1 : (((crc (s.data.toList.set i u) : Nat) : Int) == ((crc s.data.toList : Nat) : Int)) = ((t : Int) == 0) := by
    by_cases h : t = 0
    · rw [hcs'.out.2 h, h]; simp
    · have h1 : ¬ crc (s.data.toList.set i u) = crc s.data.toList := fun e => h (hcs'.out.1 e)
      rw [beq_eq_false_iff_ne.2 (by omega), beq_eq_false_iff_ne.2 (by omega)]
  have H := Lib.hid e1
  clear e1
  go_enter Try.func7, Try.ntmps7
  go_wp2_with fail
  refine (sum_any _ hsz _).mono ?_
  rintro e w1 ⟨rfl, hb3⟩
  go_wp2_with fail
  refine (sum_any s hm _).mono ?_
  rintro e w2 ⟨rfl, hb4⟩
  generalize crc (s.data.toList.set i u) = x at *
  generalize crc s.data.toList = y at *
  have E := H.out
  go_wp2_with fail
  refine (awake_any _).mono ?_
  rintro e w3 ⟨rfl, hb5⟩
  go_wp2
  go_ret
  have b3 := hb2.trans (hb3.mono hb2.size)
  have b4 := b3.trans (hb4.mono b3.size)
  exact ⟨rfl, b4.trans (hb5.mono b4.size)⟩

theorem sumsTell_walk (s : ByteArray) (a : Int) (b : Int) (hs : s.size ≤ maxLen) (_ha : (Lit.int .i64 a).wf = true) (hb : (Lit.int .u8 b).wf = true) (w : World) :
    Calls Try.prog 7 #[.string s, .int .i64 a, .int .u8 b] w fun e w' => e = .returned (.bool true) ∧ Below w.heap.size w w' := by
  obtain ⟨b0, b1⟩ := bounds_u8 hb
  obtain ⟨t, rfl⟩ := Int.eq_ofNat_of_zero_le b0
  by_cases h0 : 20000 < s.size
  · exact tell_out s a t hs (.inl h0) w
  · by_cases h1 : a < 0
    · exact tell_out s a t hs (.inr (.inl ⟨h0, h1⟩)) w
    · by_cases h2 : (s.size : Int) ≤ a
      · exact tell_out s a t hs (.inr (.inr ⟨h0, h1, h2⟩)) w
      · obtain ⟨i, rfl⟩ := Int.eq_ofNat_of_zero_le (show 0 ≤ a by omega)
        exact tell_in s i t (by omega) (by omega) (by omega) w
end Go.Proofs.Yticilbcdpiceaaa
