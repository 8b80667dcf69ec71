/- General laws for the walks of this seat: regions that draw their order, rows that a call owns, strings as lists of bytes; no program in sight. Conditions: none. -/
import Derived.WalkKit
import Derived.Lib.Hide
import Derived.Deep.QuietTactic
import Derived.BigQuiet
import Derived.Laws.CopyOwn
import Derived.WalkSpells
import Derived.WalkLawsBesides
import Derived.Laws.IdiomStrings
import Derived.Lib.ConvBytes
import Derived.Lib.Strings
import Derived.Deep.RegionLaw
import Derived.Deep.RegionWith
import Derived.Deep.DeepCutAuto
import Derived.OpenShut
import Derived.SliceStrings
import Derived.Deep.MidRow
namespace Go.Proofs.YtkidhbflojlmoaaGreat
open Go.RowKit

/-- The worlds in which all that was there is as it was. -/
def Grew (w0 W : World) : Prop := Below w0.heap.size w0 W
theorem Grew.refl (w0 : World) : Grew w0 w0 := Below.refl _ _
theorem Grew.drew (w0 : World) : Grew w0 { w0 with drawn := w0.drawn + 1 } := (Below.refl _ w0).drew
theorem Grew.ex (w0 : World) : ∃ W, Grew w0 W := ⟨w0, Grew.refl w0⟩
/-- The walk's rule: what does not speak of the world is so in every world of the class. -/
theorem Grew.all (w0 : World) (p : Prop) : (∀ W, Grew w0 W → p) = p := propext ⟨fun h => h w0 (Grew.refl w0), fun h _ _ => h⟩
theorem Grew.step {w0 W W' : World} (h : Grew w0 W) (b : Below W.heap.size W W') : Grew w0 W' := Below.trans h (b.mono h.size)
theorem Grew.trans {a b c : World} (h : Grew a b) (k : Grew b c) : Grew a c := h.step k
theorem Grew.at_ {w0 W : World} (h : Grew w0 W) {g : Nat} {o : Obj} (hg : w0.heap[g]? = some o) : W.heap[g]? = some o := by
  have hl : g < w0.heap.size := (Array.getElem?_eq_some_iff.1 hg).1
  rw [Below.block h g hl]; exact hg
theorem Grew.cell {w0 W : World} (h : Grew w0 W) {p : Addr} {v : Value} (hc : w0.cell? p = some v) : W.cell? p = some v := by
  have hl := block_lt_of_cell hc
  rw [Below.cell h hl]; exact hc

/-- A call whose contract says 'returned v, nothing older changed'. -/
theorem Calls.grew {P : Program} {f : FuncId} {args : Array Value} {w0 W : World} {v : Value} (hW : Grew w0 W)
    (h : Calls P f args W fun e w' => e = .returned v ∧ Below W.heap.size W w') : Calls P f args W fun e w' => e = .returned v ∧ Grew w0 w' :=
  h.mono fun _ _ ⟨he, hb⟩ => ⟨he, hW.step hb⟩
/-- A call whose contract says 'returned v, the same world'. -/
theorem Calls.grew_same {P : Program} {f : FuncId} {args : Array Value} {w0 W : World} {v : Value} (hW : Grew w0 W)
    (h : Calls P f args W fun e w' => e = .returned v ∧ W = w') : Calls P f args W fun e w' => e = .returned v ∧ Grew w0 w' :=
  h.mono fun _ _ ⟨he, hb⟩ => ⟨he, hb ▸ hW⟩

/-- The region's theorem at this class. -/
theorem wp_region_grew {P : Program} {id : Nat} {Q : Exit → Act → World → Prop} {a : Act} {w : World} {l : List Oper} (hm : P.follows .mixedOrders = true) (hB : Region.lexB .any l.toArray = true)
    (h : wpQuiet P l.toArray (Grew w) (fun a' => ∀ w', Grew w w' → Q .normal a' w') l a) : (Code.region id l.toArray true).wp P Q a w :=
  wp_region_quiet (C := Grew w) hm hB (Grew.drew w) (by simpa using h)

/-- A whole row loaded out of a block that every world of the class has. -/
theorem quiet_load_row {P : Program} {C : World → Prop} {o : Oper} {a : Act} {K : Act → Prop} (ty : TypeId) (x : Operand) (ho : o.op = .load ty x)
    (g : Nat) (hx : a.eval x = .pointer (some ⟨g, 0, none⟩)) (t : TypeId) (cs : Array Value) (fr : Nat × Nat) (d : TypeDesc) (hg : ∀ W, C W → W.heap[g]? = some (.cells cs t fr))
    (hu : P.underlying ty = some d) (hd : (match d with | .struct _ | .array _ _ => true | _ => false) = true) (hi : (P.info? ty).map (·.size) = some cs.size)
    (h : K (a.put o.dst (.agg cs))) : o.quiet P a C K := by
  refine ⟨.agg cs, fun W hW => ?_, h⟩
  unfold Oper.quietAt execOp
  simp only [ho, hx, Instr.loadAt, Instr.sureAddr, Sem.run_bind, Sem.run_pure, Result.andThen_ok, run_loadVar_row W g t ty cs fr d (hg W hW) hu hd hi]
  exact ⟨rfl, rfl⟩

/-- Behind a write to an owned row: a block of another element type stays. -/
theorem kept_other {w w' : World} {base e size n : Nat} {v : Value} {xs : List Value} (hg : w.grownBy w' v.ownBlock) (hown : w.ownsRow base e size v n xs)
    {b : Nat} {c : Array Value} {t : TypeId} {fr : Nat × Nat} (hb : w.heap[b]? = some (.cells c t fr)) (ht : t ≠ e) : w'.heap[b]? = some (.cells c t fr) := by
  have hl : b < w.heap.size := (Array.getElem?_eq_some_iff.1 hb).1
  rw [hg.block b hl ?_]
  · exact hb
  · intro h
    rcases hown.2 with ⟨rfl, _⟩ | ⟨g, cap, cur, rfl, _, hh, _⟩
    · simp [Value.ownBlock] at h
    · simp only [Value.ownBlock, Option.some.injEq] at h
      subst h
      rw [hh] at hb
      simp only [Option.some.injEq, Obj.cells.injEq] at hb
      exact ht hb.2.1.symm
/-- The written row lies from base on. -/
theorem own_base {w : World} {base e size n : Nat} {v : Value} {xs : List Value} (hown : w.ownsRow base e size v n xs) : ∀ k, v.ownBlock = some k → base ≤ k := by
  intro k h
  rcases hown.2 with ⟨rfl, _⟩ | ⟨g, cap, cur, rfl, hg, _⟩
  · simp [Value.ownBlock] at h
  · simp only [Value.ownBlock, Option.some.injEq] at h
    omega
/-- The cells of a new block. -/
theorem new_cells (w : World) (xs : List Value) (t : TypeId) (j : Nat) (u : Value) (h : xs[j]? = some u) : (w.alloc (.cells xs.toArray t)).cell? ((⟨w.heap.size, 0, none⟩ : Addr).add j) = some u := by
  have ha : (⟨w.heap.size, 0, none⟩ : Addr).add j = ⟨w.heap.size, j, none⟩ := by unfold Addr.add; split <;> simp_all
  rw [ha, World.cell?_alloc_at _ _ _ _ rfl]
  simpa using h
/-- One cell loaded that every world of the class has. -/
theorem quiet_load_cell {P : Program} {C : World → Prop} {o : Oper} {a : Act} {K : Act → Prop} (ty : TypeId) (x : Operand) (ho : o.op = .load ty x)
    (p : Addr) (hx : a.eval x = .pointer (some p)) (v : Value) (d : TypeDesc) (hu : P.underlying ty = some d) (hd : (match d with | .struct _ | .array _ _ => true | _ => false) = false)
    (hg : ∀ W, C W → W.cell? p = some v) (h : K (a.put o.dst v)) : o.quiet P a C K := by
  refine ⟨v, fun W hW => ?_, h⟩
  unfold Oper.quietAt execOp
  have hagg : (isAgg ty).run P W = .ok false W := by
    unfold isAgg
    rw [Sem.run_bind, run_underlying hu W]
    cases d <;> simp_all
  simp only [ho, hx, Instr.loadAt, Instr.sureAddr, Sem.run_bind, Sem.run_pure, Result.andThen_ok, loadVar, hagg]
  simp [go_sem, hg W hW, Oper.quietUpon]
/-- A struct loaded out of the middle of a block that every world of the class has. -/
theorem quiet_load_mid {P : Program} {C : World → Prop} {o : Oper} {a : Act} {K : Act → Prop} (ty : TypeId) (x : Operand) (ho : o.op = .load ty x)
    (b off : Nat) (hx : a.eval x = .pointer (some ⟨b, off, none⟩)) (cs : List Value) (d : TypeDesc) (hc : ∀ W, C W → W.rangeAt b off cs)
    (hu : P.underlying ty = some d) (hd : d.isRow = true) (hi : (P.info? ty).map (·.size) = some cs.length)
    (h : K (a.put o.dst (.agg cs.toArray))) : o.quiet P a C K := by
  refine ⟨.agg cs.toArray, fun W hW => ?_, h⟩
  unfold Oper.quietAt execOp
  simp only [ho, hx, Instr.loadAt, Instr.sureAddr, Sem.run_bind, Sem.run_pure, Result.andThen_ok, run_loadVar_mid W b off ty cs d (hc W hW) hu hd hi]
  exact ⟨rfl, rfl⟩
theorem range2 {w : World} {b o : Nat} {v0 v1 : Value} (h0 : w.cell? ⟨b, o, none⟩ = some v0) (h1 : w.cell? ⟨b, o + 1, none⟩ = some v1) : w.rangeAt b o [v0, v1] := by
  intro j v hv
  match j, hv with
  | 0, hv => simp at hv; subst hv; exact h0
  | 1, hv => simp at hv; subst hv; exact h1
  | j + 2, hv => simp at hv
theorem range3 {w : World} {b o : Nat} {v0 v1 v2 : Value} (h0 : w.cell? ⟨b, o, none⟩ = some v0) (h1 : w.cell? ⟨b, o + 1, none⟩ = some v1) (h2 : w.cell? ⟨b, o + 2, none⟩ = some v2) : w.rangeAt b o [v0, v1, v2] := by
  intro j v hv
  match j, hv with
  | 0, hv => simp at hv; subst hv; exact h0
  | 1, hv => simp at hv; subst hv; exact h1
  | 2, hv => simp at hv; subst hv; exact h2
  | j + 3, hv => simp at hv
/-- What the call owns stays owned where nothing older changed. -/
theorem own_below {w w1 : World} {base e size n : Nat} {v : Value} {xs : List Value} (h : w.ownsRow base e size v n xs) (hb : Below w.heap.size w w1) : w1.ownsRow base e size v n xs := by
  refine ⟨h.1, ?_⟩
  rcases h.2 with h2 | ⟨g, cap, cur, hv, hg, hh, r⟩
  · exact .inl h2
  · exact .inr ⟨g, cap, cur, hv, hg, by rw [hb.block g (Array.getElem?_eq_some_iff.1 hh).1]; exact hh, r⟩
/-! Strings as lists of bytes. -/
def bs (l : List UInt8) : ByteArray := ⟨l.toArray⟩
theorem bs_size (l : List UInt8) : (bs l).size = l.length := by unfold bs; exact List.size_toArray
theorem bs_data (l : List UInt8) : (bs l).data.toList = l := by unfold bs; simp
theorem bs_toList (l : List UInt8) : (bs l).toList = l := by rw [ByteArray.toList_eq, bs_data]
theorem bs_of (s : ByteArray) : bs s.data.toList = s := by unfold bs; simp
theorem bs_append (a b : List UInt8) : bs a ++ bs b = bs (a ++ b) := by apply ByteArray.ext; simp [bs]
theorem bs_extract (l : List UInt8) (a b : Nat) : (bs l).extract a b = bs ((l.drop a).take (b - a)) := by rw [Lib.extract_eq, bs_data]; rfl
theorem bs_inj {a b : List UInt8} (h : bs a = bs b) : a = b := by have := congrArg (fun s : ByteArray => s.data.toList) h; simpa [bs_data] using this
theorem bs_get (l : List UInt8) (i : Nat) (h : i < (bs l).size) : (bs l)[i] = l[i]'(by rw [bs_size] at h; exact h) := by
  show (bs l).data[i] = _
  simp [bs]
theorem getD_at' (l : List UInt8) (i : Nat) (h : i < l.length) : l.getD i 0 = l[i] := by simp [List.getD, h]
theorem notEmpty (s : ByteArray) (h : 0 < s.size) : s.toList.isEmpty = false := by
  rw [ByteArray.toList_eq]
  obtain ⟨⟨l⟩⟩ := s
  cases l with
  | nil => exact absurd h (by decide)
  | cons a l => rfl
theorem isNone (s : ByteArray) (h : s.size = 0) : s = ⟨#[]⟩ := by
  obtain ⟨⟨l⟩⟩ := s
  cases l with
  | nil => rfl
  | cons a l => exact absurd h (by show (a :: l).length ≠ 0; simp)
def byteCells (l : List UInt8) : List Value := l.map fun b => Value.int .u8 (b.toNat : Int)
theorem byteCells_length (l : List UInt8) : (byteCells l).length = l.length := by simp [byteCells]
theorem byteCells_append (a b : List UInt8) : byteCells (a ++ b) = byteCells a ++ byteCells b := by simp [byteCells]
def str (b : List UInt8) : Value := .string (bs b)
def strLen : Value → Nat | .string s => s.size | _ => 0

/-- append to a row of the call's own, as one step of a region that draws. -/
theorem step_append_own {P : Program} {ops : Array Oper} {o : Oper} {a : Act} {w : World} {K : Act → World → Prop} {Q : Exit → Act → World → Prop} {E : Prop} (hgd : o.guard = none) (s x : Operand) (t : TypeId)
    (ho : o.op = .call { callee := .builtin .append, args := #[s, x], argTypes := #[t, t] })
    (base : Nat) (e : TypeId) (i : TypeInfo) (z : Value) (size bytes : Nat) (ht : P.underlying t = some (.slice e)) (hi : P.info? e = some i) (hz : i.zero = some z)
    (hsize : i.size = size) (hby : i.bytes = bytes) (hzs : z.cells.size = size) (hsz : 0 < size)
    (v : Value) (n : Nat) (xs : List Value) (hs : a.eval s = v) (hown : w.ownsRow base e size v n xs)
    (ad : Addr) (m c : Nat) (news : List Value) (hx : a.eval x = .slice (some ad) m c) (hl : news.length = m * size) (hnews : ∀ j u, news[j]? = some u → w.cell? (ad.add j) = some u) (h1 : ∀ u ∈ news, u.oneCell' = true)
    (h63 : n + m ≤ maxLen) (hbytes : (n + m) * bytes ≤ 140737488355328) (hbase : base ≤ w.heap.size)
    (h : ∀ v' w', w'.ownsRow base e size v' (n + m) (xs ++ news) → w.grownBy w' v.ownBlock → (v' = .slice none 0 0 ↔ v = .slice none 0 0 ∧ m = 0) → K (a.put o.dst v') w') :
    if Region.wanted o (yielded ops a.tmps) = true then Oper.wp P o a w K Q else E := by
  rw [if_pos (by simp [Region.wanted, hgd])]
  exact wp_append_own w s x t ho base e i z size bytes ht hi hz hsize hby hzs hsz v n xs hs hown ad m c news hx hl hnews h1 h63 hbytes hbase h
theorem own_drew {w : World} {base e size n : Nat} {v : Value} {xs : List Value} (h : w.ownsRow base e size v n xs) : w.drew.ownsRow base e size v n xs := h

/-- 'string(b)' of a slice that the call owns. -/
theorem run_back_own {P : Program} (w : World) (src dst e : TypeId) (hs : P.underlying src = some (.slice e)) (he : P.underlying e = some (.int .u8)) (hd : P.underlying dst = some .string)
    (base : Nat) (v : Value) (n : Nat) (l : List UInt8) (h : w.ownsRow base e 1 v n (byteCells l)) (hn : 0 < n) : (convert src dst v).run P w = .ok (.string (bs l)) w := by
  have hl : l.length = n := by have := h.1; rw [byteCells_length] at this; omega
  rcases h.2 with ⟨_, h0⟩ | ⟨g, cap, cur, rfl, _⟩
  · omega
  · have hb := run_convert_bytes_back (P := P) w src dst e ⟨g, 0, none⟩ cap l hs he hd (fun j hj => by
      have ha : (⟨g, 0, none⟩ : Addr).add j = ⟨g, j, none⟩ := by unfold Addr.add; split <;> simp_all
      rw [ha, h.cellAt j (by omega)]
      simp [byteCells, hj])
    rw [hl] at hb
    exact hb

/-! A list of texts in memory. -/
/-- The slice value v reads as the texts L. -/
def StrsAt (w : World) (v : Value) (L : List (List UInt8)) : Prop :=
  ∃ a cap, v = .slice a L.length cap ∧ ∀ i, i < L.length → ∃ b off, a = some ⟨b, off, none⟩ ∧ w.cell? ⟨b, off + i, none⟩ = some (str (L.getD i []))
theorem StrsAt.grew {w w' : World} {v : Value} {L : List (List UInt8)} (h : StrsAt w v L) (hb : Below w.heap.size w w') : StrsAt w' v L := by
  obtain ⟨a, cap, hv, hc⟩ := h
  refine ⟨a, cap, hv, fun i hi => ?_⟩
  obtain ⟨b, off, h1, h2⟩ := hc i hi
  exact ⟨b, off, h1, Grew.cell hb h2⟩
theorem strs_own {w : World} {base e : Nat} {v : Value} {D : List (List UInt8)} (h : w.ownsRow base e 1 v D.length (D.map str)) : StrsAt w v D := by
  rcases h.2 with ⟨rfl, h0⟩ | ⟨g, cap, cur, rfl, _⟩
  · refine ⟨none, 0, by simp [h0], fun i hi => ?_⟩
    simp [h0] at hi
  · refine ⟨_, cap, by simp, fun i hi => ⟨g, 0, rfl, ?_⟩⟩
    rw [Nat.zero_add, h.cellAt i (by omega)]
    simp [List.getD, hi]
theorem strs_get {w : World} {a : Option Addr} {n cap : Nat} {L : List (List UInt8)} (h : StrsAt w (.slice a n cap) L) (i : Nat) (hi : i < L.length) :
    ∃ b off, a = some ⟨b, off, none⟩ ∧ w.cell? ⟨b, off + i, none⟩ = some (str L[i]) := by
  obtain ⟨a', cap', hv, hc⟩ := h
  simp only [Value.slice.injEq] at hv
  obtain ⟨rfl, _, _⟩ := hv
  obtain ⟨b, off, h1, h2⟩ := hc i hi
  refine ⟨b, off, h1, ?_⟩
  rw [h2]
  simp [List.getD, hi]
/-- Are two lists the same? -/
def sameB (a b : List (List UInt8)) : Bool := decide (a = b)

/-- What is known of a list of texts that came in: its texts, its capacity, and that each is no longer than may be. -/
def IsStrs (w : World) (v : Value) : Prop := ∃ (L : List (List UInt8)) (a : Option Addr) (cap : Nat), v = .slice a L.length cap ∧ L.length ≤ cap ∧ cap ≤ maxLen ∧ StrsAt w v L ∧ ∀ s ∈ L, s.length ≤ maxLen
open Go.WideShapes Go.ChangeShapes in
theorem open_strs {P : Program} {t e : TypeId} (ht : P.underlying t = some (.slice e)) (he : P.underlying e = some .string) (hc1 : P.cellsOf e = 1) {H : Type} {enc : TypeId × Value → H} {w : World} {r : Reach} {base : Nat} {v : Value} {d : DataW H} {p : List MemPlace}
    (hv : Value.okWide P w r base t v) (h : DataW.Trod enc P w 0 (fun _ => true) true t v d p) : IsStrs w v := by
  obtain ⟨a0, len, cap, rfl⟩ := okWide_slice ht hv
  obtain ⟨fuel, hf⟩ := h
  rcases open_strings ht he hc1 hf with ⟨hcs, _⟩ | ⟨a, len', cap', ss, hcs, _, hl, hm, hss, _, hc, hs⟩
  · simp [Value.cells] at hcs
    obtain ⟨rfl, rfl, rfl⟩ := hcs
    exact ⟨[], none, 0, rfl, by simp, by simp, ⟨none, 0, rfl, fun i hi => by simp at hi⟩, by simp⟩
  · simp [Value.cells] at hcs
    obtain ⟨rfl, rfl, rfl⟩ := hcs
    have hss' : ss.length = cap := by simpa using hss
    have hlen : ((ss.take len).map fun s => s.data.toList).length = len := by simp; omega
    refine ⟨(ss.take len).map fun s => s.data.toList, some a, cap, by rw [hlen], by rw [hlen]; exact hl, hm, ⟨some a, cap, by rw [hlen], fun i hi => ?_⟩, fun s h => ?_⟩
    · rw [hlen] at hi
      have hci := hc i (by omega)
      obtain ⟨b, off, spot⟩ := a
      have hsp : spot = none := by
        cases spot with
        | none => rfl
        | some x =>
          have h0 := hc 0 (by omega)
          simp [World.cell?, Addr.add] at h0
          split at h0 <;> simp at h0
      subst hsp
      refine ⟨b, off, rfl, ?_⟩
      have ha : (⟨b, off, none⟩ : Addr).add i = ⟨b, off + i, none⟩ := by unfold Addr.add; split <;> simp_all
      rw [ha] at hci
      rw [hci]
      have e1 : ss.getD i ByteArray.empty = ss[i]'(by omega) := by simp [List.getD, show i < ss.length by omega]
      have e2 : ((ss.take len).map fun s => s.data.toList).getD i [] = (ss[i]'(by omega)).data.toList := by simp [List.getD, hi, show i < ss.length by omega]
      rw [e1, e2]
      unfold str
      rw [bs_of]
    · obtain ⟨s', hs', rfl⟩ := List.mem_map.1 h
      exact hs s' (List.mem_of_mem_take hs')
end Go.Proofs.YtkidhbflojlmoaaGreat
