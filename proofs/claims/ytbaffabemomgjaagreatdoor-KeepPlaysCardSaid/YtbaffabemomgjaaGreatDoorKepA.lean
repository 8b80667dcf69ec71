/- Plain: what the laws KeepTidies and KeepApart come to. No program in sight. Conditions: as each theorem says. -/
import Derived.Test.YtbaffabemomgjaaGreatDoorKepL
namespace Go.Proofs.YtbaffabemomgjaaGreatDoor
open Go.RowKit

def otherN : Bys := [111, 116, 104, 101, 114, 46, 110, 101, 119]
def otherE : Dir := [(otherN, ⟨[120], 1⟩)]
theorem file_other (k : Bys) : fileN k ≠ otherN := by intro e; unfold fileN keepP otherN at e; simp at e
theorem fresh_other (k : Bys) : freshN k ≠ otherN := by intro e; unfold freshN keepP otherN at e; simp at e
theorem ko_other (k : Bys) : Ko k otherE := by
  refine ⟨?_, ?_, ?_, ?_, by decide, by decide, ?_⟩
  · exact List.pairwise_singleton _ _
  · unfold otherE; rw [get_cons, if_neg (fun e => file_other k e.symm)]; rfl
  · unfold otherE; rw [get_cons, if_neg (fun e => fresh_other k e.symm)]; rfl
  · intro p hp; unfold otherE at hp; rw [List.mem_singleton.1 hp]; rfl
  · intro p hp; unfold otherE at hp; rw [List.mem_singleton.1 hp]; decide
theorem newL_fit : (⟨[], 1048576, 0, false⟩ : Dk).fit := ⟨List.Pairwise.nil, by decide, by decide, by decide, fun p hp => (by cases hp), by decide⟩
/-- What KeepTidies sees. -/
structure Tds (k l0 l1 : Bys) (act : Int) (d1 d2 d3 d4 d6 d7 : Dk) (was : Bys) : Prop where
  e1 : saveD ⟨[], 1048576, 0, false⟩ k l0 = (d1, 0)
  e2 : appendD d1 otherN [120] = (d2, 0)
  e3 : syncD d2 otherN = (d3, 0)
  e4 : armD d3 act = (d4, 0)
  e6 : crashD (saveD d4 k l1).1 [1000, 1000] = d6
  e7 : loadD d6 k = (was, 0)
  e8 : tidyD d6 = (d7, 0)
  e9 : loadD d7 k = (was, 0)
  e10 : readD d7 otherN = ([120], 0)
  e11 : (namesD d7).length = 2
  f1 : d1.fit
  f2 : d2.fit
  f3 : d3.fit
  f4 : d4.fit
  f5 : (saveD d4 k l1).1.fit
  f6 : d6.fit
  f7 : d7.fit
  n1 : d1.m.length < 900
  n2 : d2.m.length < 900
  n3 : d3.m.length < 900
  n4 : d4.m.length < 900
  n5 : (saveD d4 k l1).1.m.length < 900
  n6 : d6.m.length < 900
  n7 : d7.m.length < 900
theorem tidies_plain {k l0 l1 : Bys} {act : Int} (hk : rightN k = true) (h1 : 1 ≤ l0.length) (h2 : l0.length ≤ 500) (h3 : 1 ≤ l1.length) (h4 : l1.length ≤ 500) (h5 : 1 ≤ act) (h6 : act < 9223372036854775808)
    (hlen : ∀ d : Dk, (saveD d k l1).1.m.length ≤ d.m.length + 3) : ∃ d1 d2 d3 d4 d6 d7 was, Tds k l0 l1 act d1 d2 d3 d4 d6 d7 was := by
  have hTF := file_fresh hk k
  have hTO := file_other k
  have hFO := fresh_other k
  have e1 := save_idle newL_fit rfl rfl hk h1 (x := l0) (by omega) (by show ((0 : Nat) : Int) + 8 + l0.length ≤ 1048576; omega) rfl
  have f1 := save_fit newL_fit k l0
  rw [e1] at f1
  obtain ⟨d1, hd1⟩ : ∃ d1 : Dk, d1 = { (⟨[], 1048576, 0, false⟩ : Dk) with m := putM [] (fileN k) (encB l0) } := ⟨_, rfl⟩
  have m1 : d1.m = putM [] (fileN k) (encB l0) := by rw [hd1]
  have g1O : getM d1.m otherN = none := by rw [m1, get_put_other List.Pairwise.nil hTO.symm]; rfl
  have t1 : total d1.m ≤ 508 := by
    have := total_put (M := []) List.Pairwise.nil (fileN k) (encB l0)
    rw [m1]
    have hl : (encB l0).d.length = 8 + l0.length := frame_length l0
    have : total ([] : Dir) = 0 := rfl
    omega
  have a1 : d1.armed = 0 := by rw [hd1]
  have v1 : d1.dead = false := by rw [hd1]
  have L1 : d1.limit = 1048576 := by rw [hd1]
  have f1 : d1.fit := by rw [hd1]; exact f1
  have e1 : saveD ⟨[], 1048576, 0, false⟩ k l0 = (d1, 0) := by rw [hd1]; exact e1
  clear hd1
  have e2 := append_idle v1 a1 (k := otherN) (x := [120]) (by decide) (by rw [L1]; show (total d1.m : Int) + ((1 : Nat) : Int) ≤ _; omega) g1O
  have f2 := append_fit f1 otherN [120]
  rw [e2] at f2
  obtain ⟨d2, hd2⟩ : ∃ d2 : Dk, d2 = { d1 with m := putM d1.m otherN ⟨[120], 0⟩ } := ⟨_, rfl⟩
  have f2 : d2.fit := by rw [hd2]; exact f2
  rw [← hd2] at e2
  have m2 : d2.m = putM d1.m otherN ⟨[120], 0⟩ := by rw [hd2]
  have a2 : d2.armed = 0 := by rw [hd2]; exact a1
  have v2 : d2.dead = false := by rw [hd2]; exact v1
  have L2 : d2.limit = 1048576 := by rw [hd2]; exact L1
  clear hd2
  have g2 : getM d2.m otherN = some ⟨[120], 0⟩ := by rw [m2]; exact get_put_same f1.sorted _ _
  have e3 := sync_idle v2 a2 g2
  have f3 := sync_fit f2 otherN
  rw [e3] at f3
  obtain ⟨d3, hd3⟩ : ∃ d3 : Dk, d3 = { d2 with m := putM d2.m otherN ⟨[120], (([120] : Bys).length : Int)⟩ } := ⟨_, rfl⟩
  have f3 : d3.fit := by rw [hd3]; exact f3
  rw [← hd3] at e3
  have m3 : d3.m = putM d1.m otherN ⟨[120], 1⟩ := by rw [hd3]; show putM d2.m _ _ = _; rw [m2, put_put]; rfl
  have v3 : d3.dead = false := by rw [hd3]; exact v2
  have L3 : d3.limit = 1048576 := by rw [hd3]; exact L2
  clear hd3
  have K3 : Kd k otherE (some l0) d3 := by
    refine ⟨f3, L3, v3, ?_, fun f hf => ?_, fun j j1 j2 => ?_⟩
    · rw [m3, get_put_other f1.sorted hTO, m1, get_put_same List.Pairwise.nil]; rfl
    · rw [m3, get_put_other f1.sorted hFO, m1, get_put_other List.Pairwise.nil hTF.symm] at hf; cases hf
    · rw [m3]
      unfold otherE
      rw [get_cons]
      by_cases e : otherN = j
      · rw [if_pos e, ← e, get_put_same f1.sorted]
      · rw [if_neg e, get_put_other f1.sorted (fun q => e q.symm), m1, get_put_other List.Pairwise.nil j1]
  have hx0 : okK (some l0) := fun b hb => by rw [← Option.some.inj hb]; exact ⟨h1, h2⟩
  have hx1 : okK (some l1) := fun b hb => by rw [← Option.some.inj hb]; exact ⟨h3, h4⟩
  obtain ⟨r4, K4⟩ := K3.arm (n := act) (by omega) h6
  obtain ⟨d4, hd4⟩ : ∃ d4 : Dk, d4 = (armD d3 act).1 := ⟨_, rfl⟩
  have e4 : armD d3 act = (d4, 0) := by rw [hd4, ← r4]
  rw [← hd4] at K4
  clear hd4
  obtain ⟨kept, hx, K6⟩ : ∃ b, okK (some b) ∧ Kd k otherE (some b) (crashD (saveD d4 k l1).1 [1000, 1000]) := by
    rcases K4.round (ko_other k) hk hx0 h3 h4 [1000, 1000] with ⟨_, q⟩ | ⟨_, q⟩
    · exact ⟨l1, hx1, q⟩
    · exact ⟨l0, hx0, q⟩
  have f5 := save_fit K4.fit k l1
  have n4 := (K4.sizes (ko_other k) hk hx0).2
  have n5 := hlen d4
  obtain ⟨d6, hd6⟩ : ∃ d6 : Dk, d6 = crashD (saveD d4 k l1).1 [1000, 1000] := ⟨_, rfl⟩
  rw [← hd6] at K6
  have a6 : d6.armed = 0 := by rw [hd6]; rfl
  obtain ⟨i1, K7, m7⟩ := K6.tidy (ko_other k) hk a6
  have n7 := K6.tidy_names (ko_other k) hk a6
  obtain ⟨d7, hd7⟩ : ∃ d7 : Dk, d7 = (tidyD d6).1 := ⟨_, rfl⟩
  have e8 : tidyD d6 = (d7, 0) := by rw [hd7, ← i1]
  rw [← hd7] at K7 m7 n7
  have n7' : d7.m.length = 2 := n7
  have n6 := (K6.sizes (ko_other k) hk hx).2
  have n3 := (K3.sizes (ko_other k) hk hx0).2
  have n1 : d1.m.length ≤ 1 := by rw [m1]; exact put_length_le _ _ _
  have n2 : d2.m.length ≤ d1.m.length + 1 := by rw [m2]; exact put_length_le _ _ _
  refine ⟨d1, d2, d3, d4, d6, d7, kept, ⟨e1, e2, e3, e4, hd6.symm, K6.load hk hx, e8, K7.load hk hx, ?_, ?_, f1, f2, f3, K4.fit, f5, K6.fit, K7.fit, by omega, by omega, by omega, by omega, by omega, by omega, by omega⟩⟩
  · refine read_there (f := ⟨[120], 1⟩) K7.live ?_
    rw [K7.oth _ hTO.symm hFO.symm]
    rfl
  · unfold namesD
    rw [if_neg (by rw [K7.live]; decide), List.length_map, n7']
/-- What KeepApart sees. -/
structure Apk (n0 n1 l0 l1 l2 : Bys) (d1 d2 d3 : Dk) : Prop where
  e1 : saveD ⟨[], 1048576, 0, false⟩ n0 l0 = (d1, 0)
  e2 : saveD d1 n1 l1 = (d2, 0)
  e3 : saveD d2 n0 l2 = (d3, 0)
  e4 : loadD d3 n0 = (l2, 0)
  e5 : loadD d3 n1 = (l1, 0)
  e6 : (namesD d3).length = 2
  f1 : d1.fit
  f2 : d2.fit
  f3 : d3.fit
  n1 : d1.m.length < 900
  n2 : d2.m.length < 900
  n3 : d3.m.length < 900
theorem apart_plain {n0 n1 l0 l1 l2 : Bys} (h0 : rightN n0 = true) (h1 : rightN n1 = true) (hne : n0 ≠ n1) (a0 : 1 ≤ l0.length) (b0 : l0.length ≤ 500) (a1 : 1 ≤ l1.length) (b1 : l1.length ≤ 500) (a2 : 1 ≤ l2.length) (b2 : l2.length ≤ 500) :
    ∃ d1 d2 d3, Apk n0 n1 l0 l1 l2 d1 d2 d3 := by
  have hT : fileN n0 ≠ fileN n1 := fun e => hne (file_inj e)
  have F00 := file_fresh h0 n0
  have F01 := file_fresh h0 n1
  have F10 := file_fresh h1 n0
  have F11 := file_fresh h1 n1
  have q0 := frame_length l0
  have q1 := frame_length l1
  have q2 := frame_length l2
  have e1 := save_idle newL_fit rfl rfl h0 a0 (x := l0) (by omega) (by show ((0 : Nat) : Int) + 8 + l0.length ≤ 1048576; omega) rfl
  have f1 := save_fit newL_fit n0 l0
  rw [e1] at f1
  obtain ⟨d1, hd1⟩ : ∃ d1 : Dk, d1 = { (⟨[], 1048576, 0, false⟩ : Dk) with m := putM [] (fileN n0) (encB l0) } := ⟨_, rfl⟩
  have m1 : d1.m = putM [] (fileN n0) (encB l0) := by rw [hd1]
  have t1 : total d1.m ≤ 508 := by
    have := total_put (M := []) List.Pairwise.nil (fileN n0) (encB l0)
    have : total ([] : Dir) = 0 := rfl
    have hl : (encB l0).d.length = 8 + l0.length := q0
    rw [m1]
    omega
  have z1 : d1.armed = 0 := by rw [hd1]
  have v1 : d1.dead = false := by rw [hd1]
  have L1 : d1.limit = 1048576 := by rw [hd1]
  have f1 : d1.fit := by rw [hd1]; exact f1
  have e1 : saveD ⟨[], 1048576, 0, false⟩ n0 l0 = (d1, 0) := by rw [hd1]; exact e1
  clear hd1
  have e2 := save_idle f1 v1 z1 h1 a1 (x := l1) (by omega) (by rw [L1]; omega) (by rw [m1, get_put_other List.Pairwise.nil F01.symm]; rfl)
  have f2 := save_fit f1 n1 l1
  rw [e2] at f2
  obtain ⟨d2, hd2⟩ : ∃ d2 : Dk, d2 = { d1 with m := putM d1.m (fileN n1) (encB l1) } := ⟨_, rfl⟩
  have m2 : d2.m = putM d1.m (fileN n1) (encB l1) := by rw [hd2]
  have t2 : total d2.m ≤ 1016 := by
    have := total_put f1.sorted (fileN n1) (encB l1)
    have hl : (encB l1).d.length = 8 + l1.length := q1
    rw [m2]
    omega
  have z2 : d2.armed = 0 := by rw [hd2]; exact z1
  have v2 : d2.dead = false := by rw [hd2]; exact v1
  have L2 : d2.limit = 1048576 := by rw [hd2]; exact L1
  have f2 : d2.fit := by rw [hd2]; exact f2
  rw [← hd2] at e2
  clear hd2
  have e3 := save_idle f2 v2 z2 h0 a2 (x := l2) (by omega) (by rw [L2]; omega) (by rw [m2, get_put_other f1.sorted F10.symm, m1, get_put_other List.Pairwise.nil F00.symm]; rfl)
  have f3 := save_fit f2 n0 l2
  rw [e3] at f3
  obtain ⟨d3, hd3⟩ : ∃ d3 : Dk, d3 = { d2 with m := putM d2.m (fileN n0) (encB l2) } := ⟨_, rfl⟩
  have m3 : d3.m = putM d2.m (fileN n0) (encB l2) := by rw [hd3]
  have v3 : d3.dead = false := by rw [hd3]; exact v2
  have f3 : d3.fit := by rw [hd3]; exact f3
  rw [← hd3] at e3
  clear hd3
  have g1 : getM d1.m (fileN n1) = none := by rw [m1, get_put_other List.Pairwise.nil hT.symm]; rfl
  have g2 : getM d2.m (fileN n0) = some (encB l0) := by rw [m2, get_put_other f1.sorted hT, m1, get_put_same List.Pairwise.nil]
  have n1' : d1.m.length = 1 := by rw [m1]; rfl
  have n2' : d2.m.length = 2 := by rw [m2, put_length_new g1, n1']
  have n3' : d3.m.length = 2 := by
    rw [m3]
    have e : (putM d2.m (fileN n0) (encB l2)).length = (delM d2.m (fileN n0)).length + 1 := by unfold putM; rw [ins_length]
    have w1 := put_length_same g2 (encB l2)
    have w2 := del_length1 f2.sorted (fileN n0)
    omega
  refine ⟨d1, d2, d3, ⟨e1, e2, e3, ?_, ?_, ?_, f1, f2, f3, by omega, by omega, by omega⟩⟩
  · exact load_some (s := (frameL l2).length) v3 h0 a2 (by omega) (by rw [m3]; exact get_put_same f2.sorted _ _)
  · exact load_some (s := (frameL l1).length) v3 h1 a1 (by omega) (by rw [m3, get_put_other f2.sorted hT.symm, m2]; exact get_put_same f1.sorted _ _)
  · unfold namesD
    rw [if_neg (by rw [v3]; decide), List.length_map, n3']
end Go.Proofs.YtbaffabemomgjaaGreatDoor
