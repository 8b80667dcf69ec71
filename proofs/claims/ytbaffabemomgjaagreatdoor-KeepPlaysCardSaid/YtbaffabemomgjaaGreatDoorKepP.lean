/- Plain: names, and what Save, Load and Tidy do with a disk. No program in sight. Conditions: as each theorem says. -/
import Derived.Test.YtbaffabemomgjaaGreatDoorDskQ
import Derived.Test.YtbaffabemomgjaaGreatDoorNext
namespace Go.Proofs.YtbaffabemomgjaaGreatDoor
open Go.RowKit

theorem byteAt_le4 (n : Nat) (r : List UInt8) : byteAt (le4 n ++ r) 0 = n % 256 ∧ byteAt (le4 n ++ r) 1 = n / 256 % 256 ∧ byteAt (le4 n ++ r) 2 = n / 65536 % 256 ∧ byteAt (le4 n ++ r) 3 = n / 16777216 % 256 := by
  simp [byteAt, le4]
theorem acc_congr (B C : Nat → Nat) (o k p : Nat) (h : ∀ j, j < k → B (o + j) = C (p + j)) : acc B o k = acc C p k := by
  induction k with
  | zero => rfl
  | succ k ih => simp only [acc]; rw [ih (fun j hj => h j (by omega)), h k (by omega)]
theorem acc_le4 (n : Nat) (h : n < 4294967296) (r : List UInt8) : acc (byteAt (le4 n ++ r)) 0 4 = n := by
  obtain ⟨h0, h1, h2, h3⟩ := byteAt_le4 n r
  simp only [acc, Nat.zero_add, h0, h1, h2, h3]
  omega
theorem byteAt_append (a b : List UInt8) (j : Nat) : byteAt (a ++ b) (a.length + j) = byteAt b j := by
  simp [byteAt, List.getD, List.getElem?_append_right]
theorem hd_frame (b r : List UInt8) (h : b.length < 4294967296) : hd (frameL b ++ r) = b.length := by
  unfold hd frameL
  rw [List.append_assoc, List.append_assoc]
  exact acc_le4 _ h _
theorem sm_frame (b r : List UInt8) : sm (frameL b ++ r) = crc b := by
  unfold sm frameL
  rw [List.append_assoc, List.append_assoc]
  rw [acc_congr _ (byteAt (le4 (crc b) ++ (b ++ r))) 4 4 0 (fun j _ => by rw [Nat.zero_add]; exact byteAt_append (le4 b.length) _ j)]
  exact acc_le4 _ (crc_lt b) _
theorem frame_length (b : List UInt8) : (frameL b).length = 8 + b.length := by simp [frameL, le4]; omega
theorem frame_drop (b r : List UInt8) : (frameL b ++ r).drop 8 = b ++ r := by
  unfold frameL
  rw [List.append_assoc]
  exact List.drop_left' (by simp [le4])
/-- What was framed is found. -/
theorem next_frame (b r : List UInt8) (h1 : 1 ≤ b.length) (h2 : b.length ≤ 65536) : nErr (frameL b ++ r) = 0 ∧ nBody (frameL b ++ r) = b ∧ nUsed (frameL b ++ r) = 8 + b.length := by
  have e : nErr (frameL b ++ r) = 0 := by
    unfold nErr
    have hl : (frameL b ++ r).length = 8 + b.length + r.length := by simp [frame_length]
    rw [hl, hd_frame b r (by omega), frame_drop, sm_frame, if_neg (by omega), if_neg (by omega), if_neg (by omega), List.take_left' rfl, if_pos rfl]
  refine ⟨e, ?_, ?_⟩
  · unfold nBody; rw [if_pos e, hd_frame b r (by omega), frame_drop, List.take_left' rfl]
  · unfold nUsed; rw [if_pos e, hd_frame b r (by omega)]

/-! Names. -/
def lowB (b : UInt8) : Bool := decide (97 ≤ b.toNat ∧ b.toNat ≤ 122)
def rightN (k : Bys) : Bool := k.all lowB && decide (1 ≤ k.length ∧ k.length ≤ 20)
def keepP : Bys := [107, 101, 101, 112, 45]
def newS : Bys := [46, 110, 101, 119]
def fileN (k : Bys) : Bys := keepP ++ k
def freshN (k : Bys) : Bys := keepP ++ k ++ newS
def isTmp (k : Bys) : Bool := keepP.isPrefixOf k && newS.isSuffixOf k
theorem right_len {k : Bys} (h : rightN k = true) : 1 ≤ k.length ∧ k.length ≤ 20 := by
  unfold rightN at h
  rw [Bool.and_eq_true] at h
  simpa using h.2
theorem right_low {k : Bys} (h : rightN k = true) : ∀ b ∈ k, lowB b = true := by
  unfold rightN at h
  rw [Bool.and_eq_true, List.all_eq_true] at h
  exact h.1
theorem file_ne (k : Bys) : fileN k ≠ [] := by simp [fileN, keepP]
theorem fresh_ne (k : Bys) : freshN k ≠ [] := by simp [freshN, keepP]
theorem file_len (k : Bys) : (fileN k).length = k.length + 5 := by simp [fileN, keepP]
theorem fresh_len (k : Bys) : (freshN k).length = k.length + 9 := by simp [freshN, keepP, newS]
theorem file_inj {a b : Bys} (h : fileN a = fileN b) : a = b := List.append_cancel_left h
theorem file_fresh {a : Bys} (h : rightN a = true) (b : Bys) : fileN a ≠ freshN b := by
  intro e
  unfold fileN freshN at e
  rw [List.append_assoc] at e
  have e := List.append_cancel_left e
  have hm : (46 : UInt8) ∈ a := by rw [e]; simp [newS]
  have := right_low h _ hm
  revert this
  decide
theorem file_tmp {a : Bys} (h : rightN a = true) : isTmp (fileN a) = false := by
  unfold isTmp
  rw [Bool.and_eq_false_iff]
  right
  rw [Bool.eq_false_iff]
  intro hs
  rw [List.isSuffixOf_iff_suffix] at hs
  obtain ⟨t, ht⟩ := hs
  have hl := right_len h
  have e1 : (fileN a).getLast? = some 119 := by rw [← ht]; simp [newS]
  have hne : a ≠ [] := by intro e; rw [e] at hl; simp at hl
  have e2 : (fileN a).getLast? = a.getLast? := by unfold fileN; rw [List.getLast?_append]; cases hq : a.getLast? with
    | none => rw [List.getLast?_eq_none_iff] at hq; exact absurd hq hne
    | some x => rfl
  -- the dot in front of the three letters
  have hd : (46 : UInt8) ∈ (fileN a) := by rw [← ht]; simp [newS]
  unfold fileN at hd
  rcases List.mem_append.1 hd with hd | hd
  · revert hd; decide
  · have := right_low h _ hd
    revert this
    decide
theorem fresh_tmp (a : Bys) : isTmp (freshN a) = true := by
  unfold isTmp
  rw [Bool.and_eq_true, List.isSuffixOf_iff_suffix, List.isPrefixOf_iff_prefix]
  exact ⟨⟨a ++ newS, by unfold freshN; rw [List.append_assoc]⟩, ⟨keepP ++ a, rfl⟩⟩

/-! What the three do. -/
def clearD (d : Dk) (k : Bys) : Dk × Int := ((removeD d k).1, if (removeD d k).2 = 21 then 0 else (removeD d k).2)
/-- A pair behind a pair that went well. -/
def thenD (r : Dk × Int) (f : Dk → Dk × Int) : Dk × Int := if r.2 = 0 then f r.1 else r
def saveD (d : Dk) (k x : Bys) : Dk × Int :=
  if rightN k = false then (d, 1) else if x = [] then (d, 1) else if 65536 < x.length then (d, 31)
  else thenD (clearD d (freshN k)) fun d1 => thenD (appendD d1 (freshN k) (frameL x)) fun d2 => thenD (syncD d2 (freshN k)) fun d3 => renameD d3 (freshN k) (fileN k)
def loadD (d : Dk) (k : Bys) : Bys × Int :=
  if rightN k = false then ([], 1) else if (readD d (fileN k)).2 ≠ 0 then ([], (readD d (fileN k)).2)
  else if nErr (readD d (fileN k)).1 ≠ 0 ∨ nUsed (readD d (fileN k)).1 ≠ (readD d (fileN k)).1.length then ([], 23) else (nBody (readD d (fileN k)).1, 0)
def tidyL : List Bys → Dk → Dk × Int
  | [], d => (d, 0)
  | k :: r, d => if isTmp k then thenD (removeD d k) fun d1 => tidyL r d1 else tidyL r d
def tidyD (d : Dk) : Dk × Int := if d.dead then (d, 20) else tidyL (d.m.map (·.1)) d

theorem thenD_ok {r : Dk × Int} (h : r.2 = 0) (f : Dk → Dk × Int) : thenD r f = f r.1 := if_pos h
theorem thenD_bad {r : Dk × Int} (h : r.2 ≠ 0) (f : Dk → Dk × Int) : thenD r f = r := if_neg h
theorem thenD_fit {r : Dk × Int} {f : Dk → Dk × Int} (h : r.1.fit) (hf : (f r.1).1.fit) : (thenD r f).1.fit := by unfold thenD; split; exact hf; exact h
theorem clear_fit {d : Dk} (h : d.fit) (k : Bys) : (clearD d k).1.fit := remove_fit h k
theorem save_fit {d : Dk} (h : d.fit) (k x : Bys) : (saveD d k x).1.fit := by
  unfold saveD
  split
  · exact h
  split
  · exact h
  split
  · exact h
  refine thenD_fit (clear_fit h _) (thenD_fit (append_fit (clear_fit h _) _ _) (thenD_fit (sync_fit (append_fit (clear_fit h _) _ _) _) (rename_fit (sync_fit (append_fit (clear_fit h _) _ _) _) _ _)))
theorem act_idle {d : Dk} (h : d.armed = 0) : actD d = d := by unfold actD; rw [if_neg (by omega)]
theorem ins_del {k : Bys} {f : Fil} : ∀ (L : Dir), (∀ p ∈ L, p.1 ≠ k) → delM (insM (k, f) L) k = L := by
  intro L
  induction L with
  | nil => intro _; simp [insM, delM]
  | cons y r ih =>
    intro h
    have hy : y.1 ≠ k := h y (by simp)
    have hr : ∀ p ∈ r, p.1 ≠ k := fun p hp => h p (List.mem_cons_of_mem _ hp)
    unfold insM
    split
    · have e := del_none h
      unfold delM at e ⊢
      rw [List.filter_cons, if_neg (by simp), e]
    · have e := ih hr
      unfold delM at e ⊢
      rw [List.filter_cons, if_pos (by simp [hy]), e]
theorem del_put (M : Dir) (k : Bys) (f : Fil) : delM (putM M k f) k = delM M k := ins_del _ (fun p hp => (del_mem.1 hp).2)
theorem del_del (M : Dir) (k : Bys) : delM (delM M k) k = delM M k := del_none (fun p hp => (del_mem.1 hp).2)
theorem put_put (M : Dir) (k : Bys) (f g : Fil) : putM (putM M k f) k g = putM M k g := by
  show insM (k, g) (delM (putM M k f) k) = insM (k, g) (delM M k)
  rw [del_put]
theorem put_del (M : Dir) (k : Bys) (f : Fil) : putM (delM M k) k f = putM M k f := by
  show insM (k, f) (delM (delM M k) k) = insM (k, f) (delM M k)
  rw [del_del]
theorem put_length_new {M : Dir} {k : Bys} (h : getM M k = none) (f : Fil) : (putM M k f).length = M.length + 1 := by
  unfold putM
  rw [ins_length, del_none (get_none.1 h)]
theorem del_idle {M : Dir} {k : Bys} (h : getM M k = none) : delM M k = M := del_none (get_none.1 h)
theorem del_total {M : Dir} (h : M.sorted) (k : Bys) : total (delM M k) ≤ total M := by have := total_del h k; omega
theorem getF_some {M : Dir} {k : Bys} {f : Fil} (h : getM M k = some f) : getF M k = f := by unfold getF; rw [h]; rfl
theorem getF_none {M : Dir} {k : Bys} (h : getM M k = none) : getF M k = ⟨[], 0⟩ := by unfold getF; rw [h]; rfl
theorem act_dead {d : Dk} (h : d.dead = false) : ((actD d).dead = true ∧ livesD (actD d) = 20) ∨ ((actD d).dead = false ∧ livesD (actD d) = 0) := by
  unfold livesD
  cases (actD d).dead
  · exact .inr ⟨rfl, rfl⟩
  · exact .inl ⟨rfl, rfl⟩
theorem there_ok {d : Dk} {k : Bys} {f : Fil} (h : d.dead = false) (hg : getM d.m k = some f) : thereD d k = 0 := by unfold thereD; rw [h, hg]; rfl
theorem there_no {d : Dk} {k : Bys} (h : d.dead = false) (hg : getM d.m k = none) : thereD d k = 21 := by unfold thereD; rw [h, hg]; rfl
/-- What taking away leaves. -/
theorem clear_cases {d : Dk} (hd : d.dead = false) (k : Bys) :
    ((clearD d k).2 = 20 ∧ (clearD d k).1.m = d.m ∧ (clearD d k).1.limit = d.limit ∧ d.armed ≠ 0) ∨
    ((clearD d k).2 = 0 ∧ (clearD d k).1.m = delM d.m k ∧ (clearD d k).1.limit = d.limit ∧ (clearD d k).1.dead = false ∧ (d.armed = 0 → (clearD d k).1.armed = 0)) := by
  unfold clearD removeD
  cases hg : getM d.m k with
  | none =>
    rw [there_no hd hg]
    simp only [ne_eq, Int.reduceEq, not_false_eq_true, if_true]
    refine .inr ⟨by trivial, (del_idle hg).symm, by trivial, hd, fun h => h⟩
  | some f =>
    rw [there_ok hd hg]
    simp only [ne_eq, not_true_eq_false, if_false]
    by_cases hx : (actD d).dead = true
    · rw [if_pos hx]
      refine .inl ⟨by simp, act_m d, act_limit d, fun h => ?_⟩
      rw [act_idle h, hd] at hx
      cases hx
    · rw [if_neg hx]
      refine .inr ⟨by simp, rfl, act_limit d, by simpa using hx, fun h => ?_⟩
      show (actD d).armed = 0
      rw [act_idle h]; exact h
/-- What a Save leaves that is not refused. -/
theorem save_cases {d : Dk} (hf : d.fit) (hd : d.dead = false) {k x : Bys} (hk : rightN k = true) (h1 : 1 ≤ x.length) (h2 : x.length ≤ 65536) (hl : (total d.m : Int) + 8 + x.length ≤ d.limit) :
    (saveD d k x).1.limit = d.limit ∧
    (((saveD d k x).2 = 20 ∧ d.armed ≠ 0 ∧ ((saveD d k x).1.m = d.m ∨ ∃ s : Int, (s = 0 ∨ s = (frameL x).length) ∧ (saveD d k x).1.m = putM (delM d.m (freshN k)) (freshN k) ⟨frameL x, s⟩)) ∨
     ((saveD d k x).2 = 0 ∧ (saveD d k x).1.dead = false ∧ (d.armed = 0 → (saveD d k x).1.armed = 0) ∧ (saveD d k x).1.m = putM (delM d.m (freshN k)) (fileN k) ⟨frameL x, (frameL x).length⟩)) := by
  have e0 : saveD d k x = thenD (clearD d (freshN k)) fun d1 => thenD (appendD d1 (freshN k) (frameL x)) fun d2 => thenD (syncD d2 (freshN k)) fun d3 => renameD d3 (freshN k) (fileN k) := by
    unfold saveD
    rw [if_neg (by rw [hk]; decide), if_neg (by intro e; rw [e] at h1; simp at h1), if_neg (by omega)]
  rw [e0]
  generalize hF : freshN k = F
  have hFne : F ≠ [] := by rw [← hF]; exact fresh_ne k
  have hTne := file_ne k
  generalize fileN k = T at *
  have hcf := clear_fit hf F
  rcases clear_cases hd F with ⟨c1, c2, c3, c4⟩ | ⟨c1, c2, c3, c4, c5⟩
  · rw [thenD_bad (by rw [c1]; decide)]
    exact ⟨c3, .inl ⟨c1, c4, .inl c2⟩⟩
  rw [thenD_ok c1]
  generalize clearD d F = r1 at *
  obtain ⟨d1, z1⟩ := r1
  simp only at *
  have hg1 : getM d1.m F = none := by rw [c2]; exact get_del_same F
  have ht1 : total d1.m ≤ total d.m := by rw [c2]; exact del_total hf.sorted F
  have ea : appendD d1 F (frameL x) = (actD { d1 with m := putM d1.m F ⟨frameL x, 0⟩ }, livesD (actD { d1 with m := putM d1.m F ⟨frameL x, 0⟩ })) := by
    unfold appendD
    rw [if_neg (by rw [c4]; decide), if_neg hFne, if_neg (by rw [frame_length]; omega), getF_none hg1]
    rfl
  rw [ea]
  generalize hq : ({ d1 with m := putM d1.m F ⟨frameL x, 0⟩ } : Dk) = q2 at *
  have q2m : q2.m = putM d1.m F ⟨frameL x, 0⟩ := by rw [← hq]
  have q2l : q2.limit = d1.limit := by rw [← hq]
  have q2d : q2.dead = false := by rw [← hq]; exact c4
  have q2a : q2.armed = d1.armed := by rw [← hq]
  clear hq ea
  rcases act_dead q2d with ⟨a1, a2⟩ | ⟨a1, a2⟩
  · rw [thenD_bad (by show livesD (actD q2) ≠ 0; rw [a2]; decide)]
    refine ⟨by show (actD q2).limit = _; rw [act_limit, q2l, c3], .inl ⟨a2, fun h => ?_, .inr ⟨0, .inl rfl, by show (actD q2).m = _; rw [act_m, q2m, c2]⟩⟩⟩
    rw [act_idle (by rw [q2a, c5 h]), q2d] at a1
    cases a1
  rw [thenD_ok a2]
  show (thenD (syncD (actD q2) F) _).1.limit = _ ∧ _
  have hg2 : getM (actD q2).m F = some ⟨frameL x, 0⟩ := by rw [act_m, q2m]; exact get_put_same hcf.sorted F _
  have m2 : (actD q2).m = putM d1.m F ⟨frameL x, 0⟩ := by rw [act_m, q2m]
  have l2 : (actD q2).limit = d.limit := by rw [act_limit, q2l, c3]
  have i2 : d.armed = 0 → (actD q2).armed = 0 := fun h => by rw [act_idle (by rw [q2a, c5 h]), q2a, c5 h]
  generalize actD q2 = d2 at *
  have es : syncD d2 F = if (actD d2).dead = true then (actD d2, 20) else ({ actD d2 with m := putM d2.m F ⟨frameL x, (frameL x).length⟩ }, 0) := by
    unfold syncD
    rw [if_neg (by rw [there_ok a1 hg2]; decide), getF_some hg2]
  rw [es]
  by_cases b1 : (actD d2).dead = true
  · rw [if_pos b1, thenD_bad (by show (20 : Int) ≠ 0; decide)]
    refine ⟨by rw [act_limit, l2], .inl ⟨rfl, fun h => ?_, .inr ⟨0, .inl rfl, by rw [act_m, m2, c2]⟩⟩⟩
    rw [act_idle (i2 h), a1] at b1
    cases b1
  rw [if_neg b1, thenD_ok rfl]
  have b1 : (actD d2).dead = false := by simpa using b1
  have l3 : (actD d2).limit = d.limit := by rw [act_limit, l2]
  have i3 : d.armed = 0 → (actD d2).armed = 0 := fun h => by rw [act_idle (i2 h), i2 h]
  have m3 : putM d2.m F ⟨frameL x, (frameL x).length⟩ = putM d1.m F ⟨frameL x, (frameL x).length⟩ := by rw [m2, put_put]
  rw [m3]
  show (renameD { actD d2 with m := putM d1.m F ⟨frameL x, (frameL x).length⟩ } F T).1.limit = _ ∧ _
  generalize hq3 : ({ actD d2 with m := putM d1.m F ⟨frameL x, (frameL x).length⟩ } : Dk) = q3 at *
  have q3m : q3.m = putM d1.m F ⟨frameL x, (frameL x).length⟩ := by rw [← hq3]
  have q3l : q3.limit = d.limit := by rw [← hq3]; exact l3
  have q3d : q3.dead = false := by rw [← hq3]; exact b1
  have q3a : d.armed = 0 → q3.armed = 0 := by rw [← hq3]; exact i3
  have hg3 : getM q3.m F = some ⟨frameL x, (frameL x).length⟩ := by rw [q3m]; exact get_put_same hcf.sorted F _
  clear hq3 es m3 l3 i3
  have er : renameD q3 F T = if (actD q3).dead = true then (actD q3, 20) else ({ actD q3 with m := putM (delM q3.m F) T ⟨frameL x, (frameL x).length⟩ }, 0) := by
    unfold renameD
    rw [if_neg (by rw [q3d]; decide), if_neg hTne, if_neg (by rw [there_ok q3d hg3]; decide), getF_some hg3]
  rw [er]
  by_cases b3 : (actD q3).dead = true
  · rw [if_pos b3]
    refine ⟨by rw [act_limit, q3l], .inl ⟨rfl, fun h => ?_, .inr ⟨_, .inr rfl, by rw [act_m, q3m, c2]⟩⟩⟩
    rw [act_idle (q3a h), q3d] at b3
    cases b3
  rw [if_neg b3]
  refine ⟨by show (actD q3).limit = _; rw [act_limit, q3l], .inr ⟨rfl, by show (actD q3).dead = _; simpa using b3, fun h => ?_, ?_⟩⟩
  · show (actD q3).armed = 0
    rw [act_idle (q3a h), q3a h]
  · show putM (delM q3.m F) T _ = _
    rw [q3m, del_put, c2, del_del]
theorem load_some {d : Dk} (hd : d.dead = false) {k b : Bys} (hk : rightN k = true) (h1 : 1 ≤ b.length) (h2 : b.length ≤ 65536) {s : Int} (hg : getM d.m (fileN k) = some ⟨frameL b, s⟩) : loadD d k = (b, 0) := by
  have er : readD d (fileN k) = (frameL b, 0) := by unfold readD; rw [if_neg (by rw [there_ok hd hg]; decide), getF_some hg]
  obtain ⟨n1, n2, n3⟩ := next_frame b [] h1 h2
  rw [List.append_nil] at n1 n2 n3
  unfold loadD
  rw [if_neg (by rw [hk]; decide), er]
  simp only
  rw [if_neg (by decide), if_neg (by rw [n1, n3, frame_length]; omega), n2]
theorem load_none {d : Dk} (hd : d.dead = false) {k : Bys} (hk : rightN k = true) (hg : getM d.m (fileN k) = none) : loadD d k = ([], 21) := by
  have er : readD d (fileN k) = ([], 21) := by unfold readD; rw [there_no hd hg, if_pos (by decide)]
  unfold loadD
  rw [if_neg (by rw [hk]; decide), er]
  simp only
  rw [if_pos (by decide)]

/-! Two lists of files in which each name stands for the same are the same. -/
theorem get_cons (p : Bys × Fil) (r : Dir) (k : Bys) : getM (p :: r) k = if p.1 = k then some p.2 else getM r k := by
  unfold getM
  rw [List.find?_cons]
  by_cases h : p.1 = k
  · simp [h]
  · simp [h]
theorem get_before {p : Bys × Fil} {r : Dir} (h : Dir.sorted (p :: r)) : getM r p.1 = none := by
  unfold Dir.sorted at h
  obtain ⟨h1, _⟩ := List.pairwise_cons.1 h
  exact get_none.2 (fun q hq e => before_ne (h1 q hq) e.symm)
theorem dir_ext : ∀ {M E : Dir}, M.sorted → E.sorted → (∀ k, getM M k = getM E k) → M = E := by
  intro M
  induction M with
  | nil =>
    intro E _ _ h
    cases E with
    | nil => rfl
    | cons y r => have := h y.1; rw [get_cons, if_pos rfl] at this; cases this
  | cons x r ih =>
    intro E hM hE h
    cases E with
    | nil => have := h x.1; rw [get_cons, if_pos rfl] at this; cases this
    | cons y t =>
      have hM' := hM
      have hE' := hE
      unfold Dir.sorted at hM' hE'
      obtain ⟨m1, m2⟩ := List.pairwise_cons.1 hM'
      obtain ⟨e1, e2⟩ := List.pairwise_cons.1 hE'
      have hxy : x.1 = y.1 := by
        apply Classical.byContradiction
        intro hne
        have a1 := h x.1
        rw [get_cons, if_pos rfl, get_cons, if_neg (fun q => hne q.symm)] at a1
        have a2 := h y.1
        rw [get_cons y, if_pos rfl, get_cons, if_neg hne] at a2
        have b1 := e1 _ (get_mem a1.symm)
        have b2 := m1 _ (get_mem a2)
        have := before_asymm b1
        rw [b2] at this
        cases this
      have hx2 : x.2 = y.2 := by
        have := h x.1
        rw [get_cons, if_pos rfl, get_cons, if_pos hxy.symm] at this
        exact Option.some.inj this
      have hxe : x = y := Prod.ext hxy hx2
      subst hxe
      have hr : r = t := by
        refine ih m2 e2 (fun k => ?_)
        have := h k
        rw [get_cons, get_cons] at this
        by_cases hk : x.1 = k
        · rw [← hk, get_before hM, get_before hE]
        · rw [if_neg hk, if_neg hk] at this; exact this
      rw [hr]
/-! What a crash leaves of a file. -/
theorem crash_get (k : Bys) : ∀ (M : Dir) (ks : List Int), (getM M k = none → getM (crashM M ks) k = none) ∧ (∀ f, getM M k = some f → ∃ f', getM (crashM M ks) k = some f' ∧ (f.s = f.d.length → f' = f) ∧ f'.d.length ≤ f.d.length) := by
  intro M
  induction M with
  | nil => intro ks; exact ⟨fun h => h, fun f h => by cases h⟩
  | cons p r ih =>
    intro ks
    rw [crash_cons]
    by_cases hp : (p.2.d.length : Int) - p.2.s = 0
    · rw [if_pos hp, get_cons, get_cons]
      by_cases hk : p.1 = k
      · rw [if_pos hk, if_pos hk]
        exact ⟨fun h => (by cases h), fun f h => ⟨f, h, fun _ => rfl, Nat.le_refl _⟩⟩
      · rw [if_neg hk, if_neg hk]; exact ih ks
    · rw [if_neg hp, get_cons, get_cons]
      by_cases hk : p.1 = k
      · rw [if_pos hk, if_pos hk]
        refine ⟨fun h => (by cases h), fun f h => ⟨_, rfl, fun hs => ?_, ?_⟩⟩
        · have := Option.some.inj h
          rw [this] at hp
          omega
        · rw [← Option.some.inj h]
          show (keepF p.2 _).d.length ≤ _
          unfold keepF
          simp only [List.length_take]
          omega
      · rw [if_neg hk, if_neg hk]; exact ih ks.tail
end Go.Proofs.YtbaffabemomgjaaGreatDoor
