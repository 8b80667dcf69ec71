/- What a tree's pairs from a key on are as a sequence. Conditions: as each theorem says. -/
import Derived.Test.YteoibolompiohaaIdxZ
namespace Go.Proofs.Yteoibolompiohaa
open Go.RowKit Go.Shelf
attribute [local go_sem] Oper.semAt_some

section
variable {m : Mem} {t : Tr} {w0 : World}
theorem walk_any (l : Nat) (hT : TreeAt m t w0) (hn : t.nodes.length ≤ 1000000) (k : Key) (N : Nat) (J Jx : List Pr → World → Prop) (hJ : ∃ B, AbidesFrom B J)
    (hY : ∀ f pre x W, J pre W → pre.length < N → YieldAt Fence.wide f Try.prog l #[prV x] W (YSaid w0.heap.size J Jx (pre ++ [x]) W)) :
    ∀ (d n a : Nat) (pre : List Pr) (W : World), t.ok d a → SortedK (t.cont d a) → Below w0.heap.size w0 W → J pre W → pre.length + (t.sfx k d a).length ≤ N →
      CallsIn Fence.wide n Try.prog 40 #[ptrV m.g, .int .i64 (a : Int), .string (bs k), .func (.yield l) #[] #[]] W (WSaid w0.heap.size J Jx pre (t.sfx k d a) W) := by
  intro d
  induction d with
  | zero => exact fun n a pre W hok _ hB hp hN => walk_leaf l hT hn k N J Jx hJ hY n a pre W hok hB hp hN
  | succ d ih => exact fun n a pre W hok hs hB hp hN => walk_node l hT hn k N J Jx hJ hY d ih n a pre W hok hs hB hp hN
theorem KpN.put {n₀ : Nat} {w : World} (hn : n₀ ≤ w.heap.size) (W : World) (l : Nat) (o o' : Obj) (hl : w.heap.size ≤ l) (ho : W.heap[l]? = some o) (hc : o.isCells = false) (_ : o.isWalk = false) : KpN n₀ W (W.putObj l o') := by
  refine ⟨belowK_b hn W l o o' hl ho hc ‹_›, fun b cs fr e => ?_⟩
  rw [World.putObj_heap_other (fun e2 => by subst e2; rw [e] at ho; cases ho; cases hc)]
  exact e
theorem round_any {m' : Nat} {P : Program} {l : Nat} {f : FuncId} {tmps : Array Value} {assign body : Code} {w : World} {R : Ending → World → Prop} {m2 : Nat}
    (h : RoundIn Fence.wide m' P l f tmps assign body w R) : RoundIn Fence.wide m2 P l f tmps assign body w R := ⟨h.1, fun c cs _ => h.2 c cs (fun d h => by cases h)⟩
theorem yield_any {m' : Nat} (m2 : Nat) {P : Program} {l : Nat} {args : Array Value} {W : World} {R : Ending → World → Prop} (h : YieldAt Fence.wide m' P l args W R) : YieldAt Fence.wide m2 P l args W R := by
  obtain ⟨fn, tmps, assign, body, hy, hR⟩ := h
  exact ⟨fn, tmps, assign, body, hy, round_any hR⟩
/-- What is handed out. -/
def AllStops (tv : Option Addr) (k : Key) (L : List Pr) (w : World) : Prop :=
  ∀ (n Bt Bf : Nat) (w1 : World), Below w.heap.size w w1 → Bt < w1.heap.size → Bf < w1.heap.size → w1.cell? ⟨Bt, 0, none⟩ = some (.pointer tv) → w1.cell? ⟨Bf, 0, none⟩ = some (.string (bs k)) →
    SeqStopsK Fence.wide n Try.prog 39 #[.pointer (some ⟨Bt, 0, none⟩), .pointer (some ⟨Bf, 0, none⟩)] (fun x : Pr => #[prV x]) (KpN w.heap.size) (fun ys => ys = L) (fun pre => pre <+: L) L.length w1
set_option maxRecDepth 100000 in
set_option maxHeartbeats 2000000 in
theorem all_stops (hT : TreeAt m t w0) (hn : t.nodes.length ≤ 1000000) (d : Nat) (hok : t.ok d t.root) (hs : SortedK (t.cont d t.root)) (k : Key) : AllStops (some ⟨m.g, 0, none⟩) k (t.sfx k d t.root) w0 := by
  intro n Bt Bf w1 hB1 hBt hBf ht hf l J Jx W hW hJ _ hY h0
  have hB : Below w0.heap.size w0 W := hB1.trans (hW.mono hB1.size)
  have hw := walk_any l hT hn k (t.sfx k d t.root).length J Jx ⟨_, hJ⟩ (fun f pre x W hj hl => yield_any f (hY pre x W hj hl)) d n t.root [] W.drew hok hs hB.drew (hJ _ _ _ none h0 (grown_drew _ _) (fun r e => by cases e)) (by simp)
  have t0 := (hW.cell (p := ⟨Bt, 0, none⟩) hBt).trans ht
  have f0 := (hW.cell (p := ⟨Bf, 0, none⟩) hBf).trans hf
  have g2 := (hT.grew hB).top.cell (i := 2) rfl
  have HW := Lib.hid ((callsIn_wide.1 hw).mono (R' := fun e W2 => ∃ b, e = .returned (.bool b) ∧ (J (t.sfx k d t.root) W2 ∨ ∃ q, q <+: t.sfx k d t.root ∧ Jx q W2)) (fun e W2 h => h.elim (fun ⟨he, hj, _⟩ => ⟨true, he, .inl hj⟩) (fun ⟨he, q, hq, hx⟩ => ⟨false, he, .inr ⟨q, hq, hx⟩⟩)))
  clear hw hY hJ hB hB1 ht hf hT hs hok h0 hBt hBf hW
  unfold ptrV at HW
  refine callsIn_wide.2 ?_
  show Calls Try.prog 39 #[.func (.yield l) #[] #[], .pointer (some ⟨Bt, 0, none⟩), .pointer (some ⟨Bf, 0, none⟩)] W _
  go_enter Try.func39, Try.ntmps39
  go_upto_region 1 with (fail)
  go_region_with (go_at_call 40; (with_reducible refine HW.out.mono ?_); rintro e W2 ⟨b, rfl, hr⟩)
  all_goals
    go_end0
    refine ⟨⟨_, rfl⟩, ?_⟩
    rcases hr with hj | ⟨q, hq, hx⟩
    · exact .inl ⟨_, rfl, hj⟩
    · exact .inr ⟨q, hq, hx⟩
set_option maxRecDepth 100000 in
set_option maxHeartbeats 2000000 in
theorem all_nil (k : Key) (w : World) : AllStops none k [] w := by
  intro n Bt Bf w1 hB1 hBt hBf ht hf l J Jx W hW hJ _ hY h0
  have t0 := (hW.cell (p := ⟨Bt, 0, none⟩) hBt).trans ht
  have f0 := (hW.cell (p := ⟨Bf, 0, none⟩) hBf).trans hf
  have H0 := Lib.hid h0
  clear hY hJ hB1 ht hf h0 hBt hBf hW
  refine callsIn_wide.2 ?_
  show Calls Try.prog 39 #[.func (.yield l) #[] #[], .pointer (some ⟨Bt, 0, none⟩), .pointer (some ⟨Bf, 0, none⟩)] W _
  go_enter Try.func39, Try.ntmps39
  go_wp2
  go_end0
  exact ⟨⟨_, rfl⟩, .inl ⟨_, rfl, H0.out⟩⟩
set_option maxRecDepth 100000 in
set_option maxHeartbeats 1000000 in
/-- all itself: two boxes and a function value. -/
theorem all_any (tv : Option Addr) (k : Key) (w : World) : Calls Try.prog 30 #[.pointer tv, .string (bs k)] w fun e w' =>
    e = .returned (.func (.func 39) #[] #[.pointer (some ⟨w.heap.size, 0, none⟩), .pointer (some ⟨w.heap.size + 1, 0, none⟩)]) ∧ w' = (w.alloc (.cells #[.pointer tv] 23)).alloc (.cells #[.string (bs k)] 9) := by
  go_enter Try.func30, Try.ntmps30
  go_wp2
  go_ret
  exact ⟨by simp, rfl⟩
end
end Go.Proofs.Yteoibolompiohaa
