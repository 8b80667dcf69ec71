/- The walks of a disk's Names and Crash. Conditions: as each theorem says. -/
import Derived.Test.YtbaffabemomgjaaGreatDoorDskG
import Derived.Test.YtbaffabemomgjaaGreatDoorDskS
import Derived.Test.YtbaffabemomgjaaGreatDoorDskQ
namespace Go.Proofs.YtbaffabemomgjaaGreatDoor
open Go.RowKit

def intCells (i : Int) : List Value := [.int .i64 i]
def namesD (d : Dk) : List Bys := if d.dead then [] else d.m.map (·.1)
section
variable {g b : Nat} {d : Dk} {w w' : World}
def NamesSaid (base : Nat) (L : List Bys) (w : World) (e : Ending) (w' : World) : Prop := ∃ v, e = .returned v ∧ Grow StT 1 strCells base v L w' ∧ Below w.heap.size w w'
set_option maxRecDepth 100000 in
theorem names_nil (w : World) : Calls Tryz.prog 19 #[.pointer none] w fun e w' => e = .returned (.slice none 0 0) ∧ w = w' := by
  go_enter Tryz.func19, Tryz.ntmps19
  go_wp2_with (go_at_call 38; refine (lives_nil _).mono ?_; rintro e w' ⟨rfl, rfl⟩)
  go_ret
  exact ⟨rfl, rfl⟩
set_option maxRecDepth 100000 in
theorem names_any (h : DkAt g b d w) (hf : d.fit) (hn : d.m.length < 1000000) : Calls Tryz.prog 19 #[ptrV g] w (NamesSaid w.heap.size (namesD d) w) := by
  have HL := Lib.hid (lives_any h.head)
  unfold livesD at HL
  have c0 := h.head.cell (i := 0) (v := .map (some b)) rfl
  have HS := Lib.hid (sortedFiles_any h.files hf.sorted (by omega))
  clear h hf
  unfold namesD
  unfold ptrV at *
  by_cases hd : d.dead = true
  · as_aux_lemma =>
    rw [if_pos hd] at HL ⊢
    clear hd
    go_enter Tryz.func19, Tryz.ntmps19
    go_wp2_with (go_at_call 38; refine HL.out.mono ?_; rintro e w' ⟨rfl, rfl⟩)
    go_ret
    exact ⟨_, rfl, Grow.nil _, Below.refl _ _⟩
  · as_aux_lemma =>
    rw [if_neg hd] at HL ⊢
    clear hd
    go_enter Tryz.func19, Tryz.ntmps19
    go_wp2_with (first | (go_at_call 38; refine HL.out.mono ?_; rintro e w' ⟨rfl, rfl⟩) | (go_at_call 40; refine (mapsKeys_any _ _).mono ?_; rintro e w1 ⟨rfl, rfl⟩) | (go_at_call 39; refine HS.out.mono ?_; rintro e w2 ⟨v, rfl, hG, hB⟩))
    go_ret
    exact ⟨v, rfl, hG, hB⟩
theorem below_drewN {B : Nat} {a w : World} (h : Below B a w) (n : Nat) : Below B a (w.drewN n) := ⟨h.os, h.tape, h.output, h.size, h.block⟩
theorem map_cell {b : Nat} {M : Dir} {w : World} (h : FilesAt b M w) (o : Nat) : w.cell? ⟨b, o, none⟩ = none := by
  obtain ⟨es, clock, hh, _⟩ := h
  simp [World.cell?, hh]
theorem RowsAt.map' {α : Type} {k : Nat} {en : α → List Value} {v : Value} {L : List α} {M : Dir} (h : RowsAt k en w v L) (hb : FilesAt b M w) (hg : w.grownBy w' (some b)) : RowsAt k en w' v L := by
  obtain ⟨a, cap, hv, hr⟩ := h
  refine ⟨a, cap, hv, fun i hi => ?_⟩
  obtain ⟨kb, off, ha, hrr⟩ := hr i hi
  refine ⟨kb, off, ha, fun j u hj => ?_⟩
  have h1 := hrr j u hj
  exact hg.cell h1 (fun e => by
    have e2 : kb = b := Option.some.inj e
    rw [e2, map_cell hb] at h1
    cases h1)
theorem Grow.map' {α : Type} {T : TypeId} {k : Nat} {en : α → List Value} {base : Nat} {v : Value} {L : List α} {M : Dir} (h : Grow T k en base v L w) (hb : FilesAt b M w) (hg : w.grownBy w' (some b)) : Grow T k en base v L w' := by
  refine World.ownsRow.kept h hg (Or.inr (fun e => ?_))
  rcases h.2 with ⟨rfl, _⟩ | ⟨g', cap, cur, rfl, _, hh, _⟩
  · simp [Value.ownBlock] at e
  · simp only [Value.ownBlock, Option.some.injEq] at e
    subst e
    obtain ⟨es, clock, hm, _⟩ := hb
    rw [hm] at hh
    cases hh
theorem FilesAt.keyLen {M : Dir} (h : FilesAt b M w) : ∀ p ∈ M, p.1.length ≤ maxLen := by
  obtain ⟨es, he, hk⟩ := World.ownsMap.keysOf h
  intro p hp
  have h1 : ((.string p.1, encF p.2) : Lit × Da) ∈ es := by
    have h2 : encM M = .map es := he
    unfold encM at h2
    simp only [DataW.map.injEq] at h2
    rw [← h2]
    exact List.mem_map.2 ⟨p, hp, rfl⟩
  obtain ⟨x, hx⟩ := hk _ h1
  obtain ⟨y, _, hy, hyl⟩ := Maps.keyOf_str Tryz.underlying9 hx
  simp only [Lit.string.injEq] at hy
  rw [hy]
  exact hyl
set_option maxRecDepth 100000 in
theorem crash_nil (v : Value) (w : World) : Calls Tryz.prog 15 #[.pointer none, v] w fun e w' => e = .returned (.int .i64 2) ∧ w = w' := by
  go_enter Tryz.func15, Tryz.ntmps15
  go_wp2
  go_ret
  exact ⟨rfl, rfl⟩
set_option maxRecDepth 100000 in
set_option maxHeartbeats 1600000 in
theorem crash_any (h : DkAt g b d w) (hf : d.fit) (hn : d.m.length < 1000000) (ks : List Int) (a : Option Addr) (cap : Nat) (hk : RowsAt 1 intCells w (.slice a ks.length cap) ks) (hc : ks.length ≤ cap) (hcm : cap ≤ maxLen) :
    Calls Tryz.prog 15 #[ptrV g, .slice a ks.length cap] w (DkDone g b (crashD d ks) 0 w) := by
  unfold maxLen at hcm
  have c0 := h.head.cell (i := 0) (v := .map (some b)) rfl
  have HS := Lib.hid (sortedFiles_any h.files hf.sorted (by omega))
  have HH := Lib.hid h
  have HK := Lib.hid hk
  have HFit := Lib.hid hf
  have hgl := h.head.lt
  clear h hf hk
  unfold ptrV
  go_enter Tryz.func15, Tryz.ntmps15
  go_wp2_with (first | (go_at_call 40; refine (mapsKeys_any _ _).mono ?_; rintro e w1 ⟨rfl, rfl⟩) | (go_at_call 39; refine HS.out.mono ?_; rintro e w2 ⟨v, rfl, hG, hB⟩; obtain ⟨na, nc, rfl⟩ := hG.slice; have HB := Lib.hid hB; have HG := Lib.hid hG; clear hB hG))
  have hNl : (d.m.map (·.1)).length = d.m.length := List.length_map _
  obtain ⟨N, hN⟩ : ∃ N, N = d.m.map (·.1) := ⟨_, rfl⟩
  rw [← hN] at HG hNl
  rw [hNl] at HG
  have HN := Lib.hid hN
  have HNl := Lib.hid hNl
  have hwd : Hid (Apart (DkF g b) w w2) := Lib.hid (Apart.of_below HB.out)
  have HD0 : Hid (DkAt g b d w2) := Lib.hid (HH.out.grew HB.out)
  have HK0 : Hid (RowsAt 1 intCells w2 (.slice a ks.length cap) ks) := Lib.hid (HK.out.grew HB.out)
  clear hN hNl HS HK HH c0 HB
  go_loopw [1, 19] (fun v1 v19 wr => ∃ (i : Nat) (a' : Option Addr) (cap' : Nat), v19 = .int .i64 (i : Int) ∧ i ≤ d.m.length ∧ v1 = .slice a' (restI d.m ks i).length cap' ∧ RowsAt 1 intCells wr (.slice a' (restI d.m ks i).length cap') (restI d.m ks i) ∧ (restI d.m ks i).length ≤ cap' ∧ cap' ≤ 9223372036854775807 ∧ DkAt g b { d with m := crashK d.m ks i } wr ∧ Grow StT 1 strCells w.heap.size (.slice na d.m.length nc) N wr ∧ Apart (DkF g b) w wr) (fun _ v19 _ => d.m.length - (intOf v19).toNat)
  case atStart => exact ⟨0, a, cap, rfl, by omega, rfl, HK0.out, hc, by omega, HD0.out, HG.out, hwd.out⟩
  case round =>
    obtain ⟨i, a', cap', rfl, hi, rfl, hR, hrc, hcm', hD, hG, hA⟩ := hrel
    have HR := Lib.hid hR
    have HD := Lib.hid hD
    have HG5 := Lib.hid hG
    have HA := Lib.hid hA
    have hgl2 := hD.head.lt
    clear hR hD hG hA HG HD0 HK0
    by_cases hiM : i < d.m.length
    · have h : i < N.length := by have := HNl.out; omega
      obtain ⟨nb, nc2, hna, _⟩ := HG5.out.form (by omega)
      have hna2 : na = some ⟨nb, 0, none⟩ := by simp only [Value.slice.injEq] at hna; exact hna.1
      subst hna2
      have hrow := HG5.out.cells (fun _ => rfl) (by rw [HNl.out]) i h
      have hNi : N[i] = d.m[i].1 := by simp only [HN.out, List.getElem_map]
      rw [hNi, Nat.mul_one] at hrow
      have n0 : wr.cell? ⟨nb, i, none⟩ = some (strV d.m[i].1) := hrow 0 _ rfl
      have hkl : d.m[i].1.length ≤ maxLen := HD.out.files.keyLen _ (by
        have h1 := crashK_get HFit.out.sorted ks i hiM
        exact get_mem h1)
      have hgf : getF (crashK d.m ks i) d.m[i].1 = d.m[i].2 := by unfold getF; rw [crashK_get HFit.out.sorted ks i hiM]; rfl
      have hlk := HD.out.files.look d.m[i].1 hkl
      simp only at hlk
      rw [hgf] at hlk
      have hsy := HFit.out.synced d.m[i] (List.getElem_mem _)
      have hpl : d.m[i].2.d.length ≤ total d.m := by
        have h1 := get_of_mem HFit.out.sorted (List.getElem_mem hiM : d.m[i] ∈ d.m)
        have h2 := size_le_total HFit.out.sorted d.m[i].1
        exact Nat.le_trans (Nat.le_of_eq (by rw [show getM d.m d.m[i].1 = some d.m[i].2 from h1]; rfl)) h2
      have hu := HFit.out.used
      have hhi := HFit.out.hi
      have HS0 := Lib.hid (crashK_step0 (M := d.m) ks i hiM)
      have HS1 := Lib.hid (crashK_step1 HFit.out.sorted ks i hiM)
      have hlen := crashK_length d.m ks i
      clear hrow hNi hgf hna
      generalize d.m[i].1 = k at *
      generalize hpp : d.m[i].2 = p at *
      have Hpp := Lib.hid hpp
      clear hpp
      have c0 := HD.out.head.cell (i := 0) (v := .map (some b)) rfl
      have hbl : (bs p.d).size = p.d.length := bs_size _
      have hw7 : IntKind.i64.wrap ((p.d.length : Int) - p.s) = (p.d.length : Int) - p.s := IntWalk.i64_in _ (by omega)
      unfold strV filV at hlk
      unfold strV at n0
      have HDx := Lib.hid (HD.out.grew (alloc_below wr (.cells #[.string (bs p.d), .int .i64 p.s] FlT)))
      have HFx := Lib.hid (BlkAt.alloc_new wr [.string (bs p.d), .int .i64 p.s] FlT)
      have HRx := Lib.hid (HR.out.grew (alloc_below wr (.cells #[.string (bs p.d), .int .i64 p.s] FlT)))
      have HGx := Lib.hid (HG5.out.below (alloc_below wr (.cells #[.string (bs p.d), .int .i64 p.s] FlT)))
      have HAx := Lib.hid (HA.out.trans (Apart.of_below (F := DkF g b) (alloc_below wr (.cells #[.string (bs p.d), .int .i64 p.s] FlT))) (fun i hi => .inl hi))
      by_cases hm0 : (p.d.length : Int) - p.s = 0
      · as_aux_lemma =>
        obtain ⟨e1, e2⟩ := HS0.out hm0
        have HE1 := Lib.hid e1
        have HE2 := Lib.hid e2
        have q0 : ((p.d.length : Int) - p.s == 0) = true := by rw [beq_iff_eq]; exact hm0
        clear hm0 HS0 HS1 e1 e2
        go_wp2
        go_roundw
        case rel => exact ⟨i + 1, a', cap', by go_num, by omega, by rw [HE2.out], by rw [HE2.out]; exact HRx.out, by rw [HE2.out]; exact hrc, hcm', by rw [HE1.out]; exact HDx.out, HGx.out, HAx.out⟩
        case measure => simp [intOf]; omega
      · have hstep := HS1.out hm0
        have HE1 := Lib.hid hstep.1
        have HE2 := Lib.hid hstep.2
        have q0 : ((p.d.length : Int) - p.s == 0) = false := by rw [beq_eq_false_iff_ne]; exact hm0
        have hmp : 0 < (p.d.length : Int) - p.s := by omega
        clear hm0 HS0 HS1 hstep
        generalize restI d.m ks i = R at *
        rcases R with _ | ⟨x, xs⟩
        · as_aux_lemma =>
          go_wp2_with (fail)
          have hDx := HDx.out
          have hFx := HFx.out
          clear hlk c0
          generalize wr.alloc (.cells #[.string (bs p.d), .int .i64 p.s] FlT) = wx at *
          have c0 := hDx.head.cell (i := 0) (v := .map (some b)) rfl
          have f0 := hFx.cell (i := 0) rfl
          have f1 := hFx.cell (i := 1) rfl
          have hex : (bs p.d).extract 0 (p.s).toNat = bs (p.d.take (p.s).toNat) := by rw [bs_extract, List.drop_zero, Nat.sub_zero]
          have hs0 : 0 ≤ p.s := by omega
          have hs1 : p.s ≤ (p.d.length : Int) := by omega
          have hnat : (p.s).toNat ≤ p.d.length := by omega
          obtain ⟨w6, hup, hF6, hg6⟩ := hDx.files.drew.store (by rw [hlen]; unfold maxLen; omega) k hkl ⟨p.d.take (p.s).toNat, p.s⟩
          have hkf : keepF p 0 = ⟨p.d.take (p.s).toNat, p.s⟩ := by
            unfold keepF
            rw [show p.s + min (max 0 0) ((p.d.length : Int) - p.s) = p.s by omega]
          have HE3 : Hid (putM (crashK d.m ks i) k ⟨p.d.take (p.s).toNat, p.s⟩ = crashK d.m ks (i + 1)) := Lib.hid (by rw [HE1.out, ← hkf]; rfl)
          rw [HE3.out] at hF6
          have HD6 := Lib.hid (hDx.drew.map' hF6 hg6)
          have HA6 := Lib.hid (HAx.out.drew.trans (Apart.of_grown (F := DkF g b) hg6 (fun i hi => .inl (.inr (Option.some.inj hi).symm))) (fun i hi => .inl hi))
          have HG6 := Lib.hid (HGx.out.drew.map' hDx.files.drew hg6)
          have HR6 := Lib.hid ((HRx.out.grew (below_drewN (Below.refl _ _) 1)).map' hDx.files.drew hg6)
          unfold strV filV at hup
          simp only at hup
          clear hDx hFx hF6 hg6 hkf
          go_region
          go_wp2
          go_roundw
          case rel => exact ⟨i + 1, a', cap', by go_num, by omega, by rw [HE2.out]; rfl, by rw [HE2.out]; exact HR6.out, by rw [HE2.out]; exact hrc, hcm', HD6.out, HG6.out, HA6.out⟩
          case measure => simp [intOf]; omega
        · obtain ⟨kb, ko, hka, hkr⟩ := HRx.out.get 0 (by simp)
          subst hka
          have x0 : (wr.alloc (.cells #[.string (bs p.d), .int .i64 p.s] FlT)).cell? ⟨kb, ko, none⟩ = some (.int .i64 x) := by simpa [intCells] using hkr 0 _ rfl
          clear hkr
          have hl1 : 1 ≤ cap' := by simp at hrc; omega
          by_cases hc1 : cap' = 1
          · as_aux_lemma =>
            go_wp2_with (fail)
            go_quiet (fail)
            go_wp2_with (fail)
            generalize hkv : min (max x 0) ((p.d.length : Int) - p.s) = kv at *
            have hk0 : 0 ≤ kv := by omega
            have hk1 : kv ≤ (p.d.length : Int) - p.s := by omega
            have Hkv := Lib.hid hkv
            have HRt : Hid (RowsAt 1 intCells (World.drewN (wr.alloc (.cells #[.string (bs p.d), .int .i64 p.s] FlT)) nq) (.slice (some ⟨kb, ko, none⟩) xs.length 0) xs) := Lib.hid (by
              have hx : xs = [] := List.eq_nil_of_length_eq_zero (by simp at hrc; omega)
              subst hx
              exact ⟨_, 0, rfl, fun i hi => by simp at hi⟩)
            clear hkv HRx
            have hDx := (HDx.out.grew (below_drewN (Below.refl _ _) nq))
            have hFx := (HFx.out.grew (below_drewN (Below.refl _ _) nq))
            have HAy := Lib.hid (HAx.out.trans (Apart.of_below (F := DkF g b) (below_drewN (Below.refl _ _) nq)) (fun i hi => .inl hi))
            have HGy := Lib.hid (HGx.out.below (below_drewN (Below.refl _ _) nq))
            clear hlk c0 x0 HDx HFx HAx HGx
            generalize World.drewN (wr.alloc (.cells #[.string (bs p.d), .int .i64 p.s] FlT)) nq = wx at *
            have c0 := hDx.head.cell (i := 0) (v := .map (some b)) rfl
            have f0 := hFx.cell (i := 0) rfl
            have f1 := hFx.cell (i := 1) rfl
            have hex : (bs p.d).extract 0 (p.s + kv).toNat = bs (p.d.take (p.s + kv).toNat) := by rw [bs_extract, List.drop_zero, Nat.sub_zero]
            have hs0 : 0 ≤ p.s + kv := by omega
            have hs1 : p.s + kv ≤ (p.d.length : Int) := by omega
            have hnat : (p.s + kv).toNat ≤ p.d.length := by omega
            have hww : IntKind.i64.wrap (p.s + kv) = p.s + kv := IntWalk.i64_in _ (by omega)
            obtain ⟨w6, hup, hF6, hg6⟩ := hDx.files.drew.store (by rw [hlen]; unfold maxLen; omega) k hkl ⟨p.d.take (p.s + kv).toNat, p.s + kv⟩
            have hkf : keepF p x = ⟨p.d.take (p.s + kv).toNat, p.s + kv⟩ := by
              unfold keepF
              rw [Hkv.out]
            have HE3 : Hid (putM (crashK d.m ks i) k ⟨p.d.take (p.s + kv).toNat, p.s + kv⟩ = crashK d.m ks (i + 1)) := Lib.hid (by rw [HE1.out, ← hkf]; rfl)
            rw [HE3.out] at hF6
            have HD6 := Lib.hid (hDx.drew.map' hF6 hg6)
            have HA6 := Lib.hid (HAy.out.drew.trans (Apart.of_grown (F := DkF g b) hg6 (fun i hi => .inl (.inr (Option.some.inj hi).symm))) (fun i hi => .inl hi))
            have HG6 := Lib.hid (HGy.out.drew.map' hDx.files.drew hg6)
            have HR6 := Lib.hid ((HRt.out.grew (below_drewN (Below.refl _ _) 1)).map' hDx.files.drew hg6)
            unfold strV filV at hup
            simp only at hup
            clear hDx hFx hF6 hg6 hkf
            go_region
            go_wp2
            go_roundw
            case rel => exact ⟨i + 1, some ⟨kb, ko, none⟩, 0, by go_num, by omega, by rw [HE2.out]; rfl, by rw [HE2.out]; exact HR6.out, by rw [HE2.out]; simp only [List.tail_cons]; simp only [List.length_cons] at hrc; omega, by omega, HD6.out, HG6.out, HA6.out⟩
            case measure => simp [intOf]; omega
          · as_aux_lemma =>
            go_wp2_with (fail)
            go_quiet (fail)
            go_wp2_with (fail)
            generalize hkv : min (max x 0) ((p.d.length : Int) - p.s) = kv at *
            have hk0 : 0 ≤ kv := by omega
            have hk1 : kv ≤ (p.d.length : Int) - p.s := by omega
            have Hkv := Lib.hid hkv
            have HRt : Hid (RowsAt 1 intCells (World.drewN (wr.alloc (.cells #[.string (bs p.d), .int .i64 p.s] FlT)) nq) (.slice (some ⟨kb, ko + 1, none⟩) xs.length (cap' - 1)) xs) := Lib.hid (by
              obtain ⟨a3, c3, e3, hr3⟩ := HRx.out.grew (below_drewN (Below.refl _ _) nq)
              refine ⟨_, _, rfl, fun j hj => ?_⟩
              obtain ⟨b3, o3, h3, hr4⟩ := hr3 (j + 1) (by simp; omega)
              simp only [Value.slice.injEq] at e3
              rw [← e3.1] at h3
              simp only [Option.some.injEq, Addr.mk.injEq, and_true] at h3
              obtain ⟨rfl, rfl⟩ := h3
              refine ⟨_, _, rfl, ?_⟩
              rw [show ko + 1 + j * 1 = ko + (j + 1) * 1 by omega]
              simpa using hr4)
            clear hkv HRx
            have hDx := (HDx.out.grew (below_drewN (Below.refl _ _) nq))
            have hFx := (HFx.out.grew (below_drewN (Below.refl _ _) nq))
            have HAy := Lib.hid (HAx.out.trans (Apart.of_below (F := DkF g b) (below_drewN (Below.refl _ _) nq)) (fun i hi => .inl hi))
            have HGy := Lib.hid (HGx.out.below (below_drewN (Below.refl _ _) nq))
            clear hlk c0 x0 HDx HFx HAx HGx
            generalize World.drewN (wr.alloc (.cells #[.string (bs p.d), .int .i64 p.s] FlT)) nq = wx at *
            have c0 := hDx.head.cell (i := 0) (v := .map (some b)) rfl
            have f0 := hFx.cell (i := 0) rfl
            have f1 := hFx.cell (i := 1) rfl
            have hex : (bs p.d).extract 0 (p.s + kv).toNat = bs (p.d.take (p.s + kv).toNat) := by rw [bs_extract, List.drop_zero, Nat.sub_zero]
            have hs0 : 0 ≤ p.s + kv := by omega
            have hs1 : p.s + kv ≤ (p.d.length : Int) := by omega
            have hnat : (p.s + kv).toNat ≤ p.d.length := by omega
            have hww : IntKind.i64.wrap (p.s + kv) = p.s + kv := IntWalk.i64_in _ (by omega)
            obtain ⟨w6, hup, hF6, hg6⟩ := hDx.files.drew.store (by rw [hlen]; unfold maxLen; omega) k hkl ⟨p.d.take (p.s + kv).toNat, p.s + kv⟩
            have hkf : keepF p x = ⟨p.d.take (p.s + kv).toNat, p.s + kv⟩ := by
              unfold keepF
              rw [Hkv.out]
            have HE3 : Hid (putM (crashK d.m ks i) k ⟨p.d.take (p.s + kv).toNat, p.s + kv⟩ = crashK d.m ks (i + 1)) := Lib.hid (by rw [HE1.out, ← hkf]; rfl)
            rw [HE3.out] at hF6
            have HD6 := Lib.hid (hDx.drew.map' hF6 hg6)
            have HA6 := Lib.hid (HAy.out.drew.trans (Apart.of_grown (F := DkF g b) hg6 (fun i hi => .inl (.inr (Option.some.inj hi).symm))) (fun i hi => .inl hi))
            have HG6 := Lib.hid (HGy.out.drew.map' hDx.files.drew hg6)
            have HR6 := Lib.hid ((HRt.out.grew (below_drewN (Below.refl _ _) 1)).map' hDx.files.drew hg6)
            unfold strV filV at hup
            simp only at hup
            clear hDx hFx hF6 hg6 hkf
            go_region
            go_wp2
            go_roundw
            case rel => exact ⟨i + 1, some ⟨kb, ko + 1, none⟩, (cap' - 1), by go_num, by omega, by rw [HE2.out]; rfl, by rw [HE2.out]; exact HR6.out, by rw [HE2.out]; simp only [List.tail_cons]; simp only [List.length_cons] at hrc; omega, by omega, HD6.out, HG6.out, HA6.out⟩
            case measure => simp [intOf]; omega
    · have HE4 : Hid (crashK d.m ks i = crashM d.m ks) := Lib.hid (by rw [show i = d.m.length by omega, crashK_end])
      have hfz := HD.out.head.frozen
      have e2 := HD.out.head.cell (i := 2) rfl
      have e3 := HD.out.head.cell (i := 3) rfl
      have hb := (HD.out.head.set 3 (.bool false)).set 2 (.int .i64 0)
      rw [dk_dead, dk_armed] at hb
      have hg : wr.grownBy ((wr.setCell ⟨g, 3, none⟩ (.bool false)).setCell ⟨g, 2, none⟩ (.int .i64 0)) (some g) := (grown_set wr g 3 _).trans (grown_set _ g 2 _)
      have hd9 := HD.out.head' (d' := { d with m := crashK d.m ks i, armed := 0, dead := false }) rfl hb hg
      have HD9 : Hid (DkAt g b (crashD d ks) ((wr.setCell ⟨g, 3, none⟩ (.bool false)).setCell ⟨g, 2, none⟩ (.int .i64 0))) := Lib.hid (by unfold crashD; rw [← HE4.out]; exact hd9)
      have HA9 := Lib.hid (HA.out.trans (Apart.of_grown (F := DkF g b) hg (fun i hi => .inl (.inl (Option.some.inj hi).symm))) (fun i hi => .inl hi))
      clear hb hg hd9
      as_aux_lemma =>
      go_wp2
      go_ret
      exact ⟨rfl, HD9.out, HA9.out⟩
end
end Go.Proofs.YtbaffabemomgjaaGreatDoor
