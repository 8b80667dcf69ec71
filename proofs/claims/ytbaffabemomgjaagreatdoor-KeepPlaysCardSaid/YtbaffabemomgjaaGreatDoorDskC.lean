/- The walks of a disk's all and Used. Conditions: as each theorem says. -/
import Derived.Test.YtbaffabemomgjaaGreatDoorDskB
import Derived.Maps.RangeWalk
import Derived.Maps.RangeRun
import Derived.Sort.KeysCollected
namespace Go.Proofs.YtbaffabemomgjaaGreatDoor
open Go.RowKit

/-- How many bytes those files have that are still to come. -/
def sumL (M : Dir) (left : Lit → Bool) : Nat := (M.map fun p => if left (.string p.1) then p.2.d.length else 0).sum
theorem sumL_cons (p : Bys × Fil) (M : Dir) (left : Lit → Bool) : sumL (p :: M) left = (if left (.string p.1) then p.2.d.length else 0) + sumL M left := by simp [sumL]
theorem sumL_none {M : Dir} {left : Lit → Bool} (h : ∀ k, left k = false) : sumL M left = 0 := by
  induction M with
  | nil => rfl
  | cons p r ih => rw [sumL_cons, h, ih]; rfl
theorem sumL_all {M : Dir} {left : Lit → Bool} (h : ∀ p ∈ M, left (.string p.1) = true) : sumL M left = total M := by
  induction M with
  | nil => rfl
  | cons p r ih => rw [sumL_cons, total_cons, h p (by simp), ih (fun q hq => h q (List.mem_cons_of_mem _ hq))]; rfl
theorem sumL_same {M : Dir} {l l' : Lit → Bool} (h : ∀ p ∈ M, l (.string p.1) = l' (.string p.1)) : sumL M l = sumL M l' := by
  induction M with
  | nil => rfl
  | cons p r ih => rw [sumL_cons, sumL_cons, h p (by simp), ih (fun q hq => h q (List.mem_cons_of_mem _ hq))]
theorem sumL_le (M : Dir) (left : Lit → Bool) : sumL M left ≤ total M := by
  induction M with
  | nil => exact Nat.le_refl _
  | cons p r ih => rw [sumL_cons, total_cons]; split <;> omega
theorem sumL_step {M : Dir} (hs : M.sorted) {k : Bys} {f : Fil} (hg : getM M k = some f) {left : Lit → Bool} (hl : left (.string k) = true) : sumL M (fun z => left z && !z.sameKey (.string k)) + f.d.length = sumL M left := by
  induction M with
  | nil => cases hg
  | cons p r ih =>
    unfold Dir.sorted at hs
    obtain ⟨h1, h2⟩ := List.pairwise_cons.1 hs
    rw [sumL_cons, sumL_cons]
    have e : (Lit.string p.1).sameKey (Lit.string k) = decide (p.1 = k) := by show (p.1 == k) = _; rw [Bool.eq_iff_iff]; simp
    by_cases h : p.1 = k
    · have hg' : getM (p :: r) k = some p.2 := by unfold getM; simp [h]
      rw [hg'] at hg
      have hr : sumL r (fun z => left z && !z.sameKey (.string k)) = sumL r left := sumL_same (fun q hq => by
        have e2 : (Lit.string q.1).sameKey (Lit.string k) = false := by
          show (q.1 == k) = false
          rw [beq_eq_false_iff_ne]
          intro q0
          exact before_ne (h1 q hq) (by rw [h, q0])
        simp only [e2, Bool.not_false, Bool.and_true])
      simp only [e, decide_eq_true h, Bool.not_true, Bool.and_false, hr, h, hl]
      have := Option.some.inj hg
      rw [this]
      have e3 : (Lit.string k).sameKey (Lit.string k) = true := by show (k == k) = true; simp
      simp only [e3, Bool.not_true, Bool.and_false, if_true, Bool.false_eq_true, if_false]
      omega
    · have hg' : getM (p :: r) k = getM r k := by unfold getM; simp [h]
      rw [hg'] at hg
      have := ih h2 hg
      simp only [e, decide_eq_false h, Bool.not_false, Bool.and_true]
      omega
section
variable {g b : Nat} {d : Dk} {w : World}
set_option maxRecDepth 100000 in
set_option maxHeartbeats 800000 in
theorem all_any (h : DkAt g b d w) (hf : d.fit) : Calls Tryz.prog 41 #[ptrV g] w fun e w' => e = .returned (.int .i64 (total d.m : Int)) ∧ Below w.heap.size w w' := by
  have hu := hf.used
  have hh := hf.hi
  have hs := hf.sorted
  have c0 := h.head.cell (i := 0) rfl
  have HF := Lib.hid h.files
  have Hs := Lib.hid hs
  have hsl := fun l => sumL_le d.m l
  have Hsl := Lib.hid hsl
  clear h hf hs hsl
  unfold ptrV
  go_enter Tryz.func41, Tryz.ntmps41
  go_wp2_with (at_range; refine wpList_range_own _ rfl _ _ rfl StT FlT str_key Tryz.underlying49 fileR b d.m.length (encM d.m) rfl HF.out ?_; intro w1 hr hg1 hsz1)
  go_frame
  have Hg1 := Lib.hid hg1
  have hz : w.heap.size < w1.heap.size := by omega
  have HB1 : Hid (Below w.heap.size w w1) := Lib.hid ((Below.refl _ w).grown hg1 (Nat.le_refl _) (fun k hk => by cases hk))
  have HR1 := Lib.hid hr
  have Hz := Lib.hid hsz1
  have H0 : Hid (sumL d.m (Maps.has (encM d.m)) = total d.m) := Lib.hid (sumL_all (fun p hp => by rw [enc_has, get_of_mem Hs.out hp]; rfl))
  clear hg1 hr hsz1 c0
  go_loopw [3] (fun v3 wr => ∃ (left : Lit → Bool) (cnt s : Nat), v3 = .int .i64 (s : Int) ∧ s + sumL d.m left = total d.m ∧ wr.ranges Tryz.prog StT fileR b w.heap.size d.m.length (encM d.m) left cnt ∧ Below w.heap.size w wr) (fun _ wr => wr.rangeLeft b w.heap.size)
  case atStart => exact ⟨_, _, 0, rfl, by rw [H0.out]; omega, HR1.out, HB1.out⟩
  case round =>
    obtain ⟨left, cnt, s, rfl, hsum, hrg, hbr⟩ := hrel
    have Hbr := Lib.hid hbr
    have hm0 := World.ranges.left_eq hrg
    have Hm0 := Lib.hid hm0
    have hsr := hbr.size
    clear hbr hm0
    have hs1 : (s : Int) ≤ 1073741824 := by omega
    go_wp2_with (at_next; refine wpList_next_ranges _ rfl _ rfl StT str_key fileR strV filV (fun key kl hkey => by obtain ⟨x, rfl, _, _⟩ := Maps.keyOf_str Tryz.underlying9 hkey; exact ⟨x, rfl⟩) (fun v y hv => by obtain ⟨f, rfl, _⟩ := fileR_inv hv; exact ⟨f, rfl⟩) b w.heap.size d.m.length _ _ _ rfl hrg ?_ ?_)
    · intro _ hl0
      have HE : Hid (s = total d.m) := Lib.hid (by rw [sumL_none hl0] at hsum; omega)
      clear hl0 hrg hsum
      go_wp2
      go_ret
      exact ⟨by rw [HE.out]; rfl, Hbr.out⟩
    · intro x c kl y pl w2 cnt2 hkey hlk hv hat hrg2 hlt hg2 hs2 hen
      have hkl : kl = .string x := by
        obtain ⟨x', hx', hkl, _⟩ := Maps.keyOf_str Tryz.underlying9 hkey
        rw [hkl]
        have : x = x' := by unfold strV bs at hx'; simpa [encStr] using hx'
        rw [this]
      subst hkl
      have hgx : getM d.m x = some c := by
        have h1 := hat .nil
        obtain ⟨f, hf1, hf2'⟩ := fileR_inv hv
        have hf2 : y = encF f := congrArg Prod.fst hf2'
        have : f = c := by
          unfold filV at hf1
          simp only [Value.agg.injEq, Array.mk.injEq, List.cons.injEq, Value.string.injEq, Value.int.injEq, true_and, and_true] at hf1
          obtain ⟨fd, fs⟩ := f
          obtain ⟨cd, cs⟩ := c
          simp only at hf1
          rw [bs_inj hf1.1, hf1.2]
        subst this
        rw [hf2, enc_at] at h1
        cases hq : getM d.m x with
        | none => rw [hq] at h1; unfold encF at h1; cases h1
        | some f' => rw [hq] at h1; rw [encF_inj h1]
      have hst := sumL_step Hs.out hgx hlk
      have hsl := Hsl.out left
      have Hst : Hid (s + c.d.length + sumL d.m (fun z => left z && !z.sameKey (.string x)) = total d.m) := Lib.hid (by omega)
      have hcl : s + c.d.length ≤ 1073741824 := by omega
      have hbl : (bs c.d).size = c.d.length := bs_size _
      have HB2 : Hid (Below w.heap.size w w2) := Lib.hid (Hbr.out.grown hg2 Hbr.out.size (fun k hk => by rw [← Option.some.inj hk]; exact Nat.le_refl _))
      have HR2 := Lib.hid hrg2
      have Hlt := Lib.hid hlt
      have HRa := Lib.hid (fun o => World.ranges.alloc hrg2 o)
      have HBa := Lib.hid (fun o => HB2.out.alloc HB2.out.size o)
      unfold strV filV at hen
      clear hkey hlk hv hat hrg hrg2 hlt hg2 hgx hst hsl hsum
      go_wp2
      go_roundw
      case rel => exact ⟨_, cnt2, s + c.d.length, by go_num, Hst.out, HRa.out _, HBa.out _⟩
      case measure => rw [World.ranges.left_eq (HRa.out _), Hm0.out]; exact Hlt.out
end
end Go.Proofs.YtbaffabemomgjaaGreatDoor
