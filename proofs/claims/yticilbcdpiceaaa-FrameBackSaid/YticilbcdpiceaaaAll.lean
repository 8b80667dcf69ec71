/- The walks of frame.All and the reference's All, and what both find. Conditions: texts of at most 2 to the 40 bytes. -/
import Derived.Test.YticilbcdpiceaaaRefNext
import Derived.Deep.RegionLaw
namespace Go.Proofs.Yticilbcdpiceaaa
open Go.RowKit

/-- The records that stand one behind the other, how many bytes they have, and what is wrong behind them. -/
def recs : Nat → List UInt8 → List (List UInt8) × Nat × Nat
  | 0, _ => ([], 0, 0)
  | f + 1, l => if l = [] then ([], 0, 0) else if nErr l = 0 then (nBody l :: (recs f (l.drop (nUsed l))).1, nUsed l + (recs f (l.drop (nUsed l))).2.1, (recs f (l.drop (nUsed l))).2.2) else ([], 0, nErr l)
def allL (l : List UInt8) : List (List UInt8) × Nat × Nat := recs l.length l
theorem used_bound (l : List UInt8) (h : nErr l = 0) : nUsed l = 8 + hd l ∧ 1 ≤ hd l ∧ 8 + hd l ≤ l.length := by
  have hu : nUsed l = 8 + hd l := by unfold nUsed; rw [if_pos h]
  unfold nErr at h
  split at h
  · omega
  · split at h
    · omega
    · split at h
      · omega
      · exact ⟨hu, by omega, by omega⟩
/-- What is known behind some records. -/
def Inv (l : List UInt8) (D : List (List UInt8)) (p : Nat) : Prop :=
  p ≤ l.length ∧ 9 * D.length ≤ p ∧ ∃ f, (l.drop p).length ≤ f ∧ allL l = (D ++ (recs f (l.drop p)).1, p + (recs f (l.drop p)).2.1, (recs f (l.drop p)).2.2)
theorem Inv.start (l : List UInt8) : Inv l [] 0 := ⟨by omega, by simp, l.length, by simp, by simp [allL]⟩
theorem Inv.step {l : List UInt8} {D : List (List UInt8)} {p : Nat} (h : Inv l D p) (hne : l.drop p ≠ []) (he : nErr (l.drop p) = 0) : Inv l (D ++ [nBody (l.drop p)]) (p + nUsed (l.drop p)) := by
  obtain ⟨h1, h9, f, hf, h2⟩ := h
  obtain ⟨hu, hb, hl⟩ := used_bound _ he
  have hlen : (l.drop p).length = l.length - p := by simp
  cases f with
  | zero => rw [Nat.le_zero, List.length_eq_zero_iff] at hf; exact absurd hf hne
  | succ f =>
    refine ⟨by omega, by simp; omega, f, ?_, ?_⟩
    · simp only [List.length_drop] at hf ⊢; omega
    · rw [h2]
      simp only [recs, if_neg hne, if_pos he, List.drop_drop]
      simp [Nat.add_assoc]
theorem Inv.done {l : List UInt8} {D : List (List UInt8)} {p : Nat} (h : Inv l D p) (hne : l.drop p = []) : p = l.length ∧ allL l = (D, l.length, 0) := by
  obtain ⟨h1, _, f, hf, h2⟩ := h
  have hp : p = l.length := by
    have := congrArg List.length hne
    simp at this
    omega
  refine ⟨hp, ?_⟩
  rw [h2, hne]
  cases f <;> simp [recs, hp]
theorem Inv.wrong {l : List UInt8} {D : List (List UInt8)} {p : Nat} (h : Inv l D p) (hne : l.drop p ≠ []) (he : nErr (l.drop p) ≠ 0) : allL l = (D, p, nErr (l.drop p)) := by
  obtain ⟨h1, _, f, hf, h2⟩ := h
  cases f with
  | zero => rw [Nat.le_zero, List.length_eq_zero_iff] at hf; exact absurd hf hne
  | succ f =>
    rw [h2]
    simp only [recs, if_neg hne, if_neg he, List.append_nil, Nat.add_zero]

/-- Bytes as a string's value. -/
def str (b : List UInt8) : Value := .string ⟨b.toArray⟩
/-- What All answers: the records in a slice of the call's own. -/
def AllSaid (s : ByteArray) (w : World) (e : Ending) (w' : World) : Prop :=
  ∃ v, e = .returned (.tuple #[v, .int .i64 ((allL s.data.toList).2.1 : Nat), .int .i64 ((allL s.data.toList).2.2 : Nat)]) ∧ Below w.heap.size w w' ∧ w'.ownsRow w.heap.size 9 1 v (allL s.data.toList).1.length ((allL s.data.toList).1.map str)
theorem allSaid (s : ByteArray) (w : World) (e : Ending) (w' : World) (v : Value) (D : List (List UInt8)) (u c : Nat) (x y : Int) (hx : x = u) (hy : y = c) (he : e = .returned (.tuple #[v, .int .i64 x, .int .i64 y])) (hw : Below w.heap.size w w')
    (ho : w'.ownsRow w.heap.size 9 1 v D.length (D.map str)) (h : allL s.data.toList = (D, u, c)) : AllSaid s w e w' := by
  subst hx; subst hy
  refine ⟨v, ?_, hw, ?_⟩
  · rw [h]; exact he
  · rw [h]; exact ho
def strLen : Value → Nat | .string s => s.size | _ => 0
theorem info9 : (Try.prog.info? 9).map (fun i => (i.zero, i.size, i.bytes)) = some (some (.string ⟨#[]⟩), 1, 16) := by kernel_rfl

/-- append to a row of the call's own, as one step of a region that draws. -/
theorem step_append_own {P : Program} {ops : Array Oper} {o : Oper} {a : Act} {w : World} {K : Act → World → Prop} {Q : Exit → Act → World → Prop} {E : Prop} (hgd : o.guard = none) (s x : Operand) (t : TypeId)
    (ho : o.op = .call { callee := .builtin .append, args := #[s, x], argTypes := #[t, t] })
    (base : Nat) (e : TypeId) (i : TypeInfo) (z : Value) (size bytes : Nat) (ht : P.underlying t = some (.slice e)) (hi : P.info? e = some i) (hz : i.zero = some z)
    (hsize : i.size = size) (hby : i.bytes = bytes) (hzs : z.cells.size = size) (hsz : 0 < size)
    (v : Value) (n : Nat) (xs : List Value) (hs : a.eval s = v) (hown : w.ownsRow base e size v n xs)
    (ad : Addr) (m c : Nat) (news : List Value) (hx : a.eval x = .slice (some ad) m c) (hl : news.length = m * size) (hnews : ∀ j u, news[j]? = some u → w.cell? (ad.add j) = some u) (h1 : ∀ u ∈ news, u.oneCell' = true)
    (h63 : n + m ≤ maxLen) (hbytes : (n + m) * bytes ≤ 140737488355328) (hbase : base ≤ w.heap.size)
    (h : ∀ v' w', w'.ownsRow base e size v' (n + m) (xs ++ news) → w.grownBy w' v.ownBlock → (v' = .slice none 0 0 ↔ v = .slice none 0 0 ∧ m = 0) → K (a.put o.dst v') w') :
    if Region.wanted o (yielded ops a.tmps) = true then Oper.wp P o a w K Q else E := by
  rw [if_pos (by simp [Region.wanted, hgd])]
  exact wp_append_own w s x t ho base e i z size bytes ht hi hz hsize hby hzs hsz v n xs hs hown ad m c news hx hl hnews h1 h63 hbytes hbase h
theorem own_drew {w : World} {base e size n : Nat} {v : Value} {xs : List Value} (h : w.ownsRow base e size v n xs) : w.drew.ownsRow base e size v n xs := h

set_option maxRecDepth 100000 in
set_option maxHeartbeats 800000 in
theorem all_any (s : ByteArray) (hs : s.size ≤ 1099511627776) (w : World) : Calls Try.prog 27 #[.string s] w (AllSaid s w) := by
  obtain ⟨i9, hi, hz0, hz1, hz2⟩ := info_parts info9
  go_enter Try.func27, Try.ntmps27
  go_wp2
  go_loopw [5, 6] (fun v r wr => ∃ (D : List (List UInt8)) (p : Nat) (t : ByteArray), r = .string t ∧ t.data.toList = s.data.toList.drop p ∧ Inv s.data.toList D p ∧ wr.ownsRow w.heap.size 9 1 v D.length (D.map str) ∧ Below w.heap.size w wr)
    (fun _ r _ => strLen r)
  case atStart => exact ⟨[], 0, s, rfl, by simp, Inv.start _, World.ownsRow_nil _ _ _ _, Below.refl _ _⟩
  case round =>
    obtain ⟨D, p, t, rfl, ht, hinv, hown, hb⟩ := hrel
    have htl : t.size = s.size - p := by
      have := congrArg List.length ht
      simp only [List.length_drop] at this
      exact this
    have hpl : p ≤ s.size := hinv.1
    have hD := hinv.2.1
    have hsum := next_any t (by unfold maxLen; omega)
    by_cases hne : 0 < t.size
    · as_aux_lemma =>
      have he := notEmpty t hne
      have hne' : s.data.toList.drop p ≠ [] := by
        intro h; rw [h] at ht
        have := congrArg List.length ht
        have h2 : t.size = 0 := this
        omega
      have Hinv := Lib.hid hinv
      have Ht := Lib.hid ht
      clear ht hinv
      go_wp2_with fail
      refine (hsum _).mono ?_
      rintro e w1 hN
      obtain ⟨rfl, hb1⟩ := hN
      rw [Ht.out]
      by_cases h0 : nErr (s.data.toList.drop p) = 0
      · have hst := Lib.hid (Hinv.out.step hne' h0)
        obtain ⟨hu1, hu2, hu3⟩ := used_bound _ h0
        simp only [List.length_drop] at hu3
        have hsl : s.data.toList.length = s.size := rfl
        rw [hsl] at hu3
        have hown1 := own_below hown hb1
        have hul : nUsed (s.data.toList.drop p) ≤ t.size := by omega
        have hup : 0 < nUsed (s.data.toList.drop p) := by omega
        have hui : ((nUsed (s.data.toList.drop p) : Nat) : Int) ≤ (t.size : Int) := by omega
        rw [h0]
        have Htl := Lib.hid htl
        clear hown hu1 hu2 h0 htl
        generalize nUsed (s.data.toList.drop p) = u at *
        generalize nBody (s.data.toList.drop p) = b at *
        have hext := Lib.hid (show (t.extract u t.size).data.toList = s.data.toList.drop (p + u) by rw [Lib.extract_data, Ht.out, List.drop_drop, List.take_of_length_le (by have := Htl.out; simp; omega)])
        have hel := Lib.hid (show (t.extract u t.size).size < t.size by simp; omega)
        go_wp2_with fail
        go_region_law (refine step_append_own rfl (.tmp 28) (.tmp 30) 42 rfl w.heap.size 9 i9 (.string ⟨#[]⟩) 1 16 Try.underlying42 hi hz0 hz1 hz2 rfl (by decide) _ _ _ (by rfl) (own_drew (hown1.alloc _)) ⟨w1.heap.size, 0, none⟩ 1 1 [str b] rfl rfl (new_cells w1 _ 9) (by intro x hx; simp at hx; subst hx; rfl) (by unfold maxLen; omega) (by omega) (by have := hb.size; have := hb1.size; simp [heap_drew]; omega) ?_; intro v' w2 hown2 hgr2 _)
        have hb2 := ((hb.trans (hb1.mono hb.size)).alloc (Nat.le_trans hb.size hb1.size) (.cells #[str b] 9)).drew.grown hgr2 (by have := hb.size; have := hb1.size; simp [heap_drew]; omega) (own_base hown1)
        clear hgr2 hown1
        go_wp2
        go_roundw
        case rel =>
          have hown3 : w2.ownsRow w.heap.size 9 1 v' (D ++ [b]).length ((D ++ [b]).map str) := by simpa using hown2
          repeat apply Exists.intro
          exact ⟨⟨D ++ [b], p + u, t.extract u t.size, rfl, hext.out, hst.out, hown3, hb2⟩, rfl⟩
        case measure => exact hel.out
      · have hw := Lib.hid (Hinv.out.wrong hne' h0)
        have hnz : (((nErr (s.data.toList.drop p) : Nat) : Int) == 0) = false := beq_eq_false_iff_ne.2 (by omega)
        have hnz2 : (((nErr (s.data.toList.drop p) : Nat) : Int) != 0) = true := by rw [bne_iff_ne]; omega
        generalize nErr (s.data.toList.drop p) = c at *
        have hown1 := own_below hown hb1
        clear hown
        go_wp2
        go_ret3
        exact allSaid s w _ _ _ D p c _ _ (by omega) rfl rfl (hb.trans (hb1.mono hb.size)) hown1 hw.out
    · have hd0 : s.data.toList.drop p = [] := by rw [← ht]; exact List.eq_nil_of_length_eq_zero (by show t.size = 0; omega)
      have hdn := Lib.hid (hinv.done hd0)
      obtain rfl : t = ⟨#[]⟩ := isNone t (by omega)
      clear ht hd0 hinv
      go_wp2
      go_ret3
      exact allSaid s w _ _ _ D _ _ _ _ rfl rfl rfl hb hown hdn.out.2
end Go.Proofs.Yticilbcdpiceaaa
