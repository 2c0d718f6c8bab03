/- Part of the proofs of the statements on alerts: texts that the last text is built on. -/
import Derived.Test.YtkdphdcpofcnjaaK2
import Derived.RangeFuncBox
import Derived.RangeFuncLeaves
import Derived.RangeFuncCalls
import Derived.RangeFuncNested
import Derived.Shelf.Abstract
import Derived.TacticsInMore
import Derived.OwnWalkIn
import Derived.LoopNIn
import Derived.LoopIn
/- R28: seat 36: rule.Level, a range over slices.Backward: walked by the model's own laws. -/
namespace Abs
open Go Go.RowKit

/-- No objects, no tokens. -/
def AHeap.bare : AHeap := ⟨fun _ => none, []⟩
theorem AHeap.bare_le (h : AHeap) : AHeap.bare.le h := ⟨fun _ _ e => by simp [AHeap.bare] at e, by simp [AHeap.bare]⟩

/-- What lay below a block lies as it lay. -/
structure Kept (n : Nat) (w w' : World) : Prop where
  size : w.heap.size ≤ w'.heap.size
  block : ∀ k, k < n → w'.heap[k]? = w.heap[k]?
  outs : Outs w w'
theorem Kept.refl (n : Nat) (w : World) : Kept n w w := ⟨Nat.le_refl _, fun _ _ => rfl, Outs.refl w⟩
theorem Kept.trans {n : Nat} {a b c : World} (h : Kept n a b) (k : Kept n b c) : Kept n a c := ⟨Nat.le_trans h.size k.size, fun i hi => (k.block i hi).trans (h.block i hi), h.outs.trans k.outs⟩
theorem Kept.mono {n m : Nat} {a b : World} (h : Kept n a b) (hm : m ≤ n) : Kept m a b := ⟨h.size, fun i hi => h.block i (by omega), h.outs⟩
theorem Kept.cell {n : Nat} {a b : World} (h : Kept n a b) {p o : Nat} (hp : p < n) : b.cell? ⟨p, o, none⟩ = a.cell? ⟨p, o, none⟩ := World.cell?_of_block (a := ⟨p, o, none⟩) (h.block p hp)
theorem Kept.frozen {n : Nat} {a b : World} (h : Kept n a b) {p o : Nat} (hp : p < n) : b.frozen? ⟨p, o, none⟩ = a.frozen? ⟨p, o, none⟩ := World.frozen?_of_block (a := ⟨p, o, none⟩) (h.block p hp)
theorem Kept.ofBelow {n : Nat} {a b : World} (h : Below n a b) : Kept n a b := ⟨h.size, h.block, h.os, h.output⟩
theorem Kept.alloc {n : Nat} {a b : World} (h : Kept n a b) (hn : n ≤ a.heap.size) (o : Obj) : Kept n a (b.alloc o) :=
  ⟨Nat.le_trans h.size (by simp), fun k hk => (Below.heap_alloc b o k (by have := h.size; omega)).trans (h.block k hk), h.outs.trans ⟨rfl, rfl⟩⟩

theorem Kept.setCell {n : Nat} {a b : World} (h : Kept n a b) {p : Nat} (hp : n ≤ p) (v : Value) : Kept n a (b.setCell ⟨p, 0, none⟩ v) :=
  ⟨Nat.le_trans h.size (KeepsWalks.setCell b _ v).size, fun k hk => (Below.heap_setCell b ⟨p, 0, none⟩ v k (by simp only; omega)).trans (h.block k hk), h.outs.trans ⟨rfl, rfl⟩⟩
theorem acalls_at {P : Program} {f : Nat} {args : List AV} {R : AV → AHeap → Prop} (hc : ACalls P f args AHeap.bare R) {m : Mem} {own : Nat → Option Own} {h : AHeap} {w W : World} {cargs : Array Value} (hw : WRel m own h w.heap) (hk : Kept w.heap.size w W) (ha : VRels m args cargs) :
    Calls P f cargs W fun e W' => ∃ v cv m' h', e = .returned cv ∧ R v h' ∧ VRel m' v cv ∧ Kept W.heap.size W W' := by
  have hW : WRel m own h W.heap := hw.more hk.size hk.block
  have hb : WRel m own AHeap.bare W.heap := hW.drop (AHeap.bare_le h) (by simp [AHeap.bare])
  refine (hc.2 m own W cargs hb ha).mono ?_
  rintro e W' ⟨v, cv, h', m', own', he, hR, hv, _, hx, ho⟩
  refine ⟨v, cv, m', h', he, hR, hv, hx.size, fun k hlt => (hx.keep k hlt ?_).2.1, ho⟩
  rintro (⟨l, o, s, h1, _⟩ | ⟨t, i, h1, _⟩)
  · simp [AHeap.bare] at h1
  · simp [AHeap.bare] at h1
/-- An answer that is a plain number or truth value, nothing changed below: what is asked of a function. -/
theorem acalls_of {P : Program} {f : Nat} {args : List AV} {h : AHeap} {u : AV} {cu : Value} (hen : Enterable P f) (hu : ∀ m, VRel m u cu)
    (H : ∀ (m : Mem) (own : Nat → Option Own) (w : World) (cargs : Array Value), WRel m own h w.heap → VRels m args cargs → Calls P f cargs w fun e w' => e = .returned cu ∧ Kept w.heap.size w w') : ACalls P f args h fun v h' => v = u ∧ h = h' :=
  ⟨hen, fun m own w cargs hw ha => (H m own w cargs hw ha).mono fun _ _ ⟨he, hk⟩ => ⟨u, cu, h, m, own, he, ⟨rfl, rfl⟩, hu m, hw.more hk.size hk.block, Ext.more hk.size hk.block, hk.outs⟩⟩
end Abs

namespace Go.Proofs.Ytkdphdcpofcnjaa
open Go Abs
open Go.RowKit Go.Shelf
set_option linter.unusedSimpArgs false
set_option linter.unusedVariables false
attribute [local go_sem] Oper.semAt_some

def ruleV (r : Rule) : Value := .agg #[.int .i64 r.mag, .int .i64 r.picks, .int .i64 r.misfit, .int .i64 r.window]
theorem rule_rel (m : Mem) (r : Rule) : VRel m (.agg (rulec r)) (ruleV r) := by
  refine .agg rfl (by simp [rulec, AV.one]) fun i c cv h1 h2 => ?_
  match i with
  | 0 | 1 | 2 | 3 => simp [rulec] at h1 h2; subst h1; subst h2; exact .int _ _
  | n + 4 => simp [rulec] at h1

/-- What has come when k rounds are over. -/
def upto {α : Type} (f : Nat → α) (k : Nat) : List α := (List.range k).map f
theorem upto_succ {α : Type} (f : Nat → α) (k : Nat) : upto f (k + 1) = upto f k ++ [f k] := by simp [upto, List.range_succ]
theorem upto_length {α : Type} (f : Nat → α) (k : Nat) : (upto f k).length = k := by simp [upto]

/-- The rules, from the last on. -/
def rat (rs : List Rule) (i : Nat) : Rule := rs[i]?.getD ⟨0, 0, 0, 0⟩
def back (rs : List Rule) (k : Nat) : Nat × Rule := (rs.length - 1 - k, rat rs (rs.length - 1 - k))

set_option maxRecDepth 100000 in
set_option maxHeartbeats 4000000 in
theorem back1_in (F : Fence) (n : Nat) (h72 : F.fn 72) (hro : F.round = none) (hn : 1 ≤ n) (l Bs n₀ b off cap : Nat) (rs : List Rule) (hlen : rs.length ≤ 100) (hb : b < n₀) (hB : Bs < n₀) (J Jx : List (Nat × Rule) → World → Prop)
    (hY : ∀ pre x W, J pre W → pre.length < rs.length → YieldAt F (n - 1) PR l #[.int .i64 (x.1 : Int), ruleV x.2] W fun e W' =>
      (e = .returned (.bool true) ∧ J (pre ++ [x]) W' ∧ Kept n₀ W W') ∨ (e = .returned (.bool false) ∧ Jx (pre ++ [x]) W'))
    (W : World) (hBs : W.cell? ⟨Bs, 0, none⟩ = some (.slice (some ⟨b, off, none⟩) rs.length cap))
    (hc : ∀ j, j < rs.length → W.cell? ⟨b, off + j * 4, none⟩ = some (.int .i64 (rat rs j).mag) ∧ W.cell? ⟨b, off + j * 4 + 1, none⟩ = some (.int .i64 (rat rs j).picks) ∧ W.cell? ⟨b, off + j * 4 + 2, none⟩ = some (.int .i64 (rat rs j).misfit) ∧ W.cell? ⟨b, off + j * 4 + 3, none⟩ = some (.int .i64 (rat rs j).window)) (h0 : J [] W) :
    CallsIn F n PR 72 #[.func (.yield l) #[] #[], .pointer (some ⟨Bs, 0, none⟩)] W fun e W' => (∃ v, e = .returned v) ∧
      ((∃ ys, ys = upto (back rs) rs.length ∧ J ys W') ∨ (∃ pre, (∃ k, k ≤ rs.length ∧ pre = upto (back rs) k) ∧ Jx pre W')) := by
  refine callsIn_of_wp Try.func72 rfl h72 ?_ hro
  simp only [Try.ntmps72, List.size_toArray, List.length_cons, List.length_nil, Nat.reduceAdd, Nat.reduceSub, Array.replicate_succ, Array.replicate_zero, List.push_toArray, List.append_toArray, List.nil_append, List.cons_append]
  have hw1 : IntKind.i64.wrap ((rs.length : Int) - 1) = (rs.length : Int) - 1 := IntWalk.i64_in _ (by omega)
  gi_wp2
  gi_loopw [3] (fun i wr => ∃ k : Nat, k ≤ rs.length ∧ i = .int .i64 ((rs.length : Int) - 1 - k) ∧ J (upto (back rs) k) wr ∧ Kept n₀ W wr)
    (fun i _ => (intOf i + 1).toNat)
  case atStart => exact ⟨0, Nat.zero_le _, by simp, h0, Kept.refl _ _⟩
  case round =>
    obtain ⟨k, hk, rfl, hJs, hnx⟩ := hrel
    by_cases hlt : k < rs.length
    · obtain ⟨j, hj⟩ : ∃ j : Nat, j = rs.length - 1 - k := ⟨_, rfl⟩
      have hji : (rs.length : Int) - 1 - k = (j : Int) := by omega
      have hjl : j < rs.length := by omega
      obtain ⟨hc0, hc1, hc2, hc3⟩ := hc j hjl
      have hcx0 := (hnx.cell (o := off + j * 4) hb).trans hc0
      have hcx1 := (hnx.cell (o := off + j * 4 + 1) hb).trans hc1
      have hcx2 := (hnx.cell (o := off + j * 4 + 2) hb).trans hc2
      have hcx3 := (hnx.cell (o := off + j * 4 + 3) hb).trans hc3
      have hBx := (hnx.cell (o := 0) hB).trans hBs
      have hbk : Hid (back rs k = (j, rat rs j)) := by show _ = _; unfold back; rw [← hj]
      have hjk : Hid ((rs.length : Int) - 1 - (k + 1 : Nat) = (j : Int) - 1) := by show _ = _; omega
      have hmj : Hid ((rs.length : Int) - 1 - k = (j : Int)) := hji
      rw [hji]
      obtain ⟨fn, tmps, assign, body, hy, hR⟩ := hY _ (j, rat rs j) wr hJs (by rw [upto_length]; exact hlt)
      dsimp only [ruleV] at hy
      have hsub : IntKind.i64.wrap ((j : Int) - 1) = (j : Int) - 1 := IntWalk.i64_in _ (by omega)
      clear hc hc0 hc1 hc2 hc3 hY hj hji
      gi_wp2
      refine hR.mono ?_
      rintro e W3 (⟨rfl, hJ3, hk3⟩ | ⟨rfl, hJx3⟩)
      · gi_wp2
        go_roundw
        case rel => exact ⟨k + 1, by omega, by rw [hjk.out], by rw [upto_succ, hbk.out]; exact hJ3, hnx.trans hk3⟩
        case measure => simp [intOf]
      · gi_wp2
        refine bodyPost_ret (results_none rfl _ _ _) rfl ?_
        exact ⟨⟨_, rfl⟩, .inr ⟨_, ⟨k + 1, by omega, by rw [upto_succ, hbk.out]⟩, hJx3⟩⟩
    · obtain rfl : k = rs.length := by omega
      have hm : (rs.length : Int) - 1 - (rs.length : Int) = -1 := by omega
      rw [hm]
      clear hm
      gi_wp2
      go_end0
      exact ⟨⟨_, rfl⟩, .inl ⟨_, rfl, hJs⟩⟩

set_option maxHeartbeats 1000000 in
/-- slices.Backward: the slice is boxed; the function value captures the box. -/
theorem back_in (F : Fence) (n : Nat) (h50 : F.fn 50) (hro : F.round = none) (a : Option Addr) (len cap : Nat) (w : World) :
    CallsIn F n PR 50 #[.slice a len cap] w fun e w' => e = .returned (.func (.func 72) #[] #[.pointer (some ⟨w.heap.size, 0, none⟩)]) ∧ w' = w.alloc (.cells #[.slice a len cap] 25) := by
  refine callsIn_of_wp Try.func50 rfl h50 ?_ hro
  simp only [Try.ntmps50, List.size_toArray, List.length_cons, List.length_nil, Nat.reduceAdd, Nat.reduceSub, Array.replicate_succ, Array.replicate_zero, List.push_toArray, List.append_toArray, List.nil_append, List.cons_append]
  gi_wp2
  go_ret
  exact ⟨rfl, rfl⟩

def RulesAt (W : World) (b off : Nat) (rs : List Rule) : Prop :=
  ∀ j, j < rs.length → W.cell? ⟨b, off + j * 4, none⟩ = some (.int .i64 (rat rs j).mag) ∧ W.cell? ⟨b, off + j * 4 + 1, none⟩ = some (.int .i64 (rat rs j).picks) ∧ W.cell? ⟨b, off + j * 4 + 2, none⟩ = some (.int .i64 (rat rs j).misfit) ∧ W.cell? ⟨b, off + j * 4 + 3, none⟩ = some (.int .i64 (rat rs j).window)
theorem RulesAt.kept {n : Nat} {W W' : World} {b off : Nat} {rs : List Rule} (h : RulesAt W b off rs) (hk : Kept n W W') (hb : b < n) : RulesAt W' b off rs := fun j hj => by
  obtain ⟨h1, h2, h3, h4⟩ := h j hj
  exact ⟨(hk.cell hb).trans h1, (hk.cell hb).trans h2, (hk.cell hb).trans h3, (hk.cell hb).trans h4⟩
theorem back_stops (F : Fence) (n : Nat) (h72 : F.fn 72) (hro : F.round = none) (hn : 1 ≤ n) (Bs n₀ b off cap : Nat) (rs : List Rule) (hlen : rs.length ≤ 100) (w : World) (hBs : Bs < n₀) (hb : b < n₀) (hn₀ : n₀ ≤ w.heap.size)
    (hc : w.cell? ⟨Bs, 0, none⟩ = some (.slice (some ⟨b, off, none⟩) rs.length cap)) (hR : RulesAt w b off rs) :
    SeqStopsK F n PR 72 #[.pointer (some ⟨Bs, 0, none⟩)] (fun x : Nat × Rule => #[Value.int .i64 (x.1 : Int), ruleV x.2]) (Kept n₀) (fun ys => ys = upto (back rs) rs.length)
      (fun pre => ∃ k, k ≤ rs.length ∧ pre = upto (back rs) k) rs.length w := fun l J Jx W hW _ _ hY h0 => by
  have hk : Kept n₀ w W := (Kept.ofBelow hW).mono hn₀
  exact back1_in F n h72 hro hn l Bs n₀ b off cap rs hlen hb hBs J Jx hY W ((hk.cell hBs).trans hc) (hR.kept hk hb) h0

/-- An event's level: the last rule that it meets. -/
def levN (rs : List Rule) (e : Event) : Nat → Nat
  | 0 => 0
  | i + 1 => if ((rs[i]?).map (meets · e)).getD false then i + 1 else levN rs e i
def lev (p : Policy) (e : Event) : Nat := levN p.rules e p.rules.length
theorem levN_le (rs : List Rule) (e : Event) : ∀ i, levN rs e i ≤ i
  | 0 => Nat.le_refl _
  | i + 1 => by
    unfold levN
    split
    · exact Nat.le_refl _
    · exact Nat.le_succ_of_le (levN_le rs e i)
theorem lev_le (p : Policy) (e : Event) : lev p e ≤ p.rules.length := levN_le _ _ _
theorem levN_at {rs : List Rule} {e : Event} {j : Nat} (hj : j < rs.length) : levN rs e (j + 1) = if meets (rat rs j) e then j + 1 else levN rs e j := by
  rw [levN, List.getElem?_eq_getElem hj]
  simp [rat, List.getElem?_eq_getElem hj]
theorem lev_skip {rs : List Rule} {e : Event} : ∀ {k : Nat}, k ≤ rs.length → (∀ x ∈ upto (back rs) k, meets x.2 e = false) → levN rs e rs.length = levN rs e (rs.length - k)
  | 0, _, _ => rfl
  | k + 1, hk, h => by
    rw [upto_succ] at h
    rw [lev_skip (k := k) (by omega) fun x hx => h x (List.mem_append_left _ hx)]
    have hx := h (back rs k) (by simp)
    obtain ⟨j, hj⟩ : ∃ j, rs.length - k = j + 1 := ⟨rs.length - k - 1, by omega⟩
    have hb : back rs k = (j, rat rs j) := by unfold back; rw [show rs.length - 1 - k = j by omega]
    rw [hb] at hx
    rw [hj, levN_at (by omega), if_neg (by simpa using hx), show rs.length - (k + 1) = j by omega]
theorem lev_hit {rs : List Rule} {e : Event} {k : Nat} (hk : k < rs.length) (h : ∀ x ∈ upto (back rs) k, meets x.2 e = false) (hm : meets (back rs k).2 e = true) : levN rs e rs.length = (back rs k).1 + 1 := by
  rw [lev_skip (by omega) h]
  obtain ⟨j, hj⟩ : ∃ j, rs.length - k = j + 1 := ⟨rs.length - k - 1, by omega⟩
  have hb : back rs k = (j, rat rs j) := by unfold back; rw [show rs.length - 1 - k = j by omega]
  rw [hb] at hm ⊢
  rw [hj, levN_at (by omega), if_pos hm]

theorem vrels_list {m : Mem} : ∀ {cs : List AV} {l : List Value}, VRels m cs l.toArray → All2 (VRel m) cs l
  | [], [], _ => .nil
  | [], _ :: _, h => by have := h.1; simp at this
  | _ :: _, [], h => by have := h.1; simp at this
  | c :: cs, x :: l, h => .cons (h.2 0 c x rfl rfl) (vrels_list ⟨by have := h.1; simpa using this, fun i c' cv h1 h2 => h.2 (i + 1) c' cv (by simpa using h1) (by simpa using h2)⟩)
theorem vrel_agg {m : Mem} {cs : List AV} {cv : Value} (h : VRel m (.agg cs) cv) : ∃ l : List Value, cv = .agg l.toArray ∧ All2 (VRel m) cs l := by
  cases h with
  | @agg _ ca h1 _ h2 => exact ⟨ca.toList, by simp, vrels_list (by rw [Array.toArray_toList]; exact ⟨h1, h2⟩)⟩
theorem vrel_rules {m : Mem} {own : Nat → Option Abs.Own} {h : AHeap} {w : World} {rs : List Rule} {t : Tag} {cv : Value} (hw : WRel m own h w.heap) (hv : VRel m (.sl 4 (rs.map Rule.enc) t) cv) (hne : 1 ≤ rs.length) :
    ∃ b off cap, cv = .slice (some ⟨b, off, none⟩) rs.length cap ∧ b < w.heap.size ∧ RulesAt w b off rs := by
  generalize hrm : rs.map Rule.enc = rm at hv
  cases hv with
  | sl0 ad ht =>
    have h0 : rs = [] := by simpa using hrm
    subst h0
    simp at hne
  | @sl _ _ _ b o cap f hs hc hh hv ht =>
    subst hrm
    have hat : ∀ j, j < rs.length → ∀ i x, (rat rs j).enc[i]? = some (.int .i64 x) → m.imm b (o + (j * 4 + i)) = some (.int .i64 x) := fun j hj i x hx => by
      have h1 : (rs.map Rule.enc)[j]? = some (rat rs j).enc := by rw [List.getElem?_map, List.getElem?_eq_getElem hj]; simp [rat, List.getElem?_eq_getElem hj]
      have h2 := hv j _ i _ h1 hx
      have h3 := (hh j _ i _ h1 hx).1
      cases hq : f (j * 4 + i) with
      | int k n => rw [hq] at h2 h3; cases h2; exact h3
      | _ => rw [hq] at h2; cases h2
    refine ⟨b, o, cap, by rw [List.length_map], cellH_lt (hw.imm _ _ _ (hat 0 (by omega) 0 _ rfl)), fun j hj => ⟨?_, ?_, ?_, ?_⟩⟩
    · rw [cell_eq]; exact hw.imm _ _ _ (hat j hj 0 _ rfl)
    · rw [cell_eq, Nat.add_assoc]; exact hw.imm _ _ _ (hat j hj 1 _ rfl)
    · rw [cell_eq, Nat.add_assoc]; exact hw.imm _ _ _ (hat j hj 2 _ rfl)
    · rw [cell_eq, Nat.add_assoc]; exact hw.imm _ _ _ (hat j hj 3 _ rfl)

theorem hidI {p : Prop} (h : p) : Hid p := h
theorem keepsFrom_ofKept {B : Nat} {W W' : World} (h : Kept W.heap.size W W') : KeepsFrom B W W' := ⟨h.size, fun k o _ hk _ => (h.block k (Array.getElem?_eq_some_iff.1 hk).1).trans hk⟩
theorem keptK_b {n₀ : Nat} {w : World} (hn : n₀ ≤ w.heap.size) (W : World) (l : Nat) (o o' : Obj) (hl : w.heap.size ≤ l) (h : W.heap[l]? = some o) (_ : o.isCells = false) (_ : o.isWalk = false) : Kept n₀ W (W.putObj l o') :=
  ⟨by simp [World.putObj], fun k hk => World.putObj_heap_other (by omega), rfl, rfl⟩
theorem _root_.Abs.Kept.grown {n₀ : Nat} {w W W' : World} {row : Option Nat} (h : Kept n₀ w W) (hg : W.grownBy W' row) (hs : n₀ ≤ w.heap.size) (hr : ∀ r, row = some r → n₀ ≤ r) : Kept n₀ w W' :=
  ⟨Nat.le_trans h.size hg.size, fun k hk => (hg.block k (by have := h.size; omega) (fun e => by have := hr k e.symm; omega)).trans (h.block k hk), h.outs.trans ⟨hg.os, hg.output⟩⟩

theorem wpListIn_load_rowI {F : Fence} {n : Nat} {P : Program} {ops : Array Oper} {rest : List Oper} {o : Oper} {a : Act} {w : World} {Q : Exit → Act → World → Prop} (hgd : o.guard = none) (ty : TypeId) (x : Operand) (ho : o.op = .load ty x)
    (g : Nat) (hx : a.eval x = .pointer (some ⟨g, 0, none⟩)) (t : TypeId) (cs : Array Value) (fr : Nat × Nat) (d : TypeDesc) (hg : w.heap[g]? = some (.cells cs t fr))
    (hu : P.underlying ty = some d) (hd : (match d with | .struct _ | .array _ _ => true | _ => false) = true) (hi : (P.info? ty).map (·.size) = some cs.size)
    (h : wpListIn F n P ops Q rest (a.put o.dst (.agg cs)) w) : wpListIn F n P ops Q (o :: rest) a w := by
  refine wpListIn_plain hgd fun K hK => ?_
  have hsem : o.semAt F.round a.eval = execOp a.eval o := by
    cases hr : F.round with
    | none => rfl
    | some l => exact Oper.semAt_some _ _ _ (by rw [ho]; intro c hc; cases hc)
  refine ⟨fun f hf => ?_, ?_⟩
  · simp [Oper.about, ho] at hf
  · rw [hsem]
    unfold execOp
    simp only [ho, hx, Instr.loadAt, Instr.sureAddr, Sem.run_bind, Sem.run_pure, Result.andThen_ok, run_loadVar_row w g t ty cs fr d hg hu hd hi]
    exact hK _ _ h

set_option maxRecDepth 100000 in
set_option maxHeartbeats 8000000 in
theorem level_in {w : World} {s0 : Value} {p : Policy} {v : Event} {b off cap : Nat} {x0 x1 x2 x3 x4 x5 x6 x7 x8 x9 x10 x11 x12 x13 x14 x15 x16 x17 x18 x19 x20 x21 x22 x23 x24 : Value} (hp : p.good)
    (hs0 : s0 = .slice (some ⟨b, off, none⟩) p.rules.length cap) (hb : b < w.heap.size) (hR : RulesAt w b off p.rules)
    (k44 : ∀ W, Kept w.heap.size w W → CallsIn Fence.wide 8 PR 44 #[.agg #[s0, .int .i64 p.distance, .int .i64 p.every]] W fun e W' => e = .returned (.int .i64 0) ∧ Kept W.heap.size W W')
    (k51 : ∀ (r : Rule) W, Kept w.heap.size w W → CallsIn Fence.wide 6 PR 51 #[ruleV r, .agg #[x0, x1, x2, x3, x4, x5, x6, x7, x8, x9, x10, x11, x12, x13, x14, x15, x16, x17, x18, x19, x20, x21, x22, x23, x24]] W fun e W' => e = .returned (.bool (meets r v)) ∧ Kept W.heap.size W W') :
    CallsIn Fence.wide 9 PR 28 #[.agg #[s0, .int .i64 p.distance, .int .i64 p.every], .agg #[x0, x1, x2, x3, x4, x5, x6, x7, x8, x9, x10, x11, x12, x13, x14, x15, x16, x17, x18, x19, x20, x21, x22, x23, x24]] w fun e w' =>
      e = .returned (.int .i64 (lev p v)) ∧ Kept w.heap.size w w' := by
  subst hs0
  refine callsIn_of_wp_marks Try.func28 rfl trivial ?_ rfl
  simp only [Try.ntmps28, List.size_toArray, List.length_cons, List.length_nil, Nat.reduceAdd, Nat.reduceSub, Array.replicate_succ, Array.replicate_zero, List.push_toArray, List.append_toArray, List.nil_append, List.cons_append]
  gi_wp2
  obtain ⟨W0, hW0⟩ : ∃ W0, W0 = ((w.alloc (.cells #[.slice (some ⟨b, off, none⟩) p.rules.length cap, .int .i64 p.distance, .int .i64 p.every] 27)).alloc (.cells #[x0, x1, x2, x3, x4, x5, x6, x7, x8, x9, x10, x11, x12, x13, x14, x15, x16, x17, x18, x19, x20, x21, x22, x23, x24] 59)).alloc (.cells #[.int .i64 0] 3) := ⟨_, rfl⟩
  rw [← hW0]
  have hk0 : Kept w.heap.size w W0 := by rw [hW0]; exact (((Kept.refl _ w).alloc (Nat.le_refl _) _).alloc (Nat.le_refl _) _).alloc (Nat.le_refl _) _
  have hsz : W0.heap.size = w.heap.size + 3 := by rw [hW0]; simp
  have hP0 : W0.heap[w.heap.size]? = some (.cells #[.slice (some ⟨b, off, none⟩) p.rules.length cap, .int .i64 p.distance, .int .i64 p.every] 27 (0, 0)) := by
    rw [hW0]; exact (Below.heap_alloc _ _ _ (by simp; omega)).trans ((Below.heap_alloc _ _ _ (by simp)).trans (World.alloc_heap_new w _))
  have hE0 : W0.heap[w.heap.size + 1]? = some (.cells #[x0, x1, x2, x3, x4, x5, x6, x7, x8, x9, x10, x11, x12, x13, x14, x15, x16, x17, x18, x19, x20, x21, x22, x23, x24] 59 (0, 0)) := by
    rw [hW0]; refine (Below.heap_alloc _ _ _ (by simp)).trans ?_; rw [← World.size_alloc w]; exact World.alloc_heap_new _ _
  have hX0 : W0.heap[w.heap.size + 1 + 1]? = some (.cells #[.int .i64 0] 3 (0, 0)) := by
    rw [hW0]; rw [← World.size_alloc w, ← World.size_alloc (w.alloc _)]; exact World.alloc_heap_new _ _
  clear hW0
  refine ⟨trivial, (k44 _ hk0).mono ?_⟩
  rintro e W1 ⟨rfl, hk1⟩
  have hkw : Kept w.heap.size w W1 := hk0.trans (hk1.mono (by omega))
  have hsz1 : w.heap.size + 3 ≤ W1.heap.size := by have := hk1.size; omega
  have hP1 : W1.cell? ⟨w.heap.size, 0, none⟩ = some (.slice (some ⟨b, off, none⟩) p.rules.length cap) := by simp [World.cell?, hk1.block w.heap.size (by omega), hP0]
  have hE1 := (hk1.block (w.heap.size + 1) (by omega)).trans hE0
  have hX1 := (hk1.block (w.heap.size + 1 + 1) (by omega)).trans hX0
  clear hk0 hsz hP0 hE0 hX0 hk1 k44
  have HE1 := hidI hE1
  have HX1 := hidI hX1
  clear hE1 hX1
  gi_wp2
  refine ⟨trivial, (back_in Fence.wide 8 trivial rfl _ _ _ _).mono ?_⟩
  rintro e W2 ⟨rfl, rfl⟩
  gi_wp2
  obtain ⟨Wl, hWl⟩ : ∃ Wl, Wl = W1.alloc (.cells #[.slice (some ⟨b, off, none⟩) p.rules.length cap] 25) := ⟨_, rfl⟩
  rw [← hWl]
  obtain ⟨Bs, hBs⟩ : ∃ Bs, Bs = W1.heap.size := ⟨_, rfl⟩
  rw [← hBs]
  have hk2 : Kept W1.heap.size W1 Wl := by rw [hWl]; exact (Kept.refl _ _).alloc (Nat.le_refl _) _
  have hsl : Wl.heap.size = Bs + 1 := by rw [hWl, hBs]; simp
  have hBl : Wl.cell? ⟨Bs, 0, none⟩ = some (.slice (some ⟨b, off, none⟩) p.rules.length cap) := by
    have : Wl.heap[Bs]? = some (.cells #[.slice (some ⟨b, off, none⟩) p.rules.length cap] 25 (0, 0)) := by rw [hWl, hBs]; exact World.alloc_heap_new _ _
    simp [World.cell?, this]
  have hkl : Kept w.heap.size w Wl := hkw.trans (hk2.mono (by omega))
  have hRl : RulesAt Wl b off p.rules := hR.kept hkl hb
  have hEl := (hk2.block (w.heap.size + 1) (by omega)).trans HE1.out
  have hXl := (hk2.block (w.heap.size + 1 + 1) (by omega)).trans HX1.out
  have hszl : w.heap.size + 3 < Wl.heap.size := by omega
  have hBsl : Bs < Wl.heap.size := by omega
  have hbl : b < Wl.heap.size := by omega
  clear hWl hBs hk2 hsl hkw hsz1 hP1 HE1 HX1 hR
  refine wpIn_rangeFunc_ownH rfl (by decide) (gf := 72) (lb := #[.pointer (some ⟨Bs, 0, none⟩)]) rfl trivial (enters_of Try.func72 (by kernel_rfl) rfl)
    (back_stops Fence.wide 8 trivial rfl (by decide) Bs Wl.heap.size b off cap p.rules (by have := hp.1.2; omega) Wl hBsl hbl (Nat.le_refl _) hBl hRl)
    Kept.trans (keptK_b (Nat.le_refl _)) (Below.refl _ _) (fun _ => rfl)
    (fun pre W => (∀ x ∈ pre, meets x.2 v = false) ∧ Kept Wl.heap.size Wl W)
    (fun c pre W => c = .ret ∧ ∃ ini last, pre = ini ++ [last] ∧ (∀ x ∈ ini, meets x.2 v = false) ∧ meets last.2 v = true ∧ W.cell? ⟨w.heap.size + 1 + 1, 0, none⟩ = some (.int .i64 (RowKit.wrap64 ((last.1 : Int) + 1))) ∧ Kept w.heap.size w W ∧ w.heap.size + 3 < W.heap.size)
    ?hI ?hIx ?h0
    (fun x a' W => ∃ B, Wl.heap.size ≤ B ∧ W.heap[B]? = some (.cells #[.int .i64 x.2.mag, .int .i64 x.2.picks, .int .i64 x.2.misfit, .int .i64 x.2.window] 72 (0, 0)) ∧
      a' = { tmps := #[.agg #[.slice (some ⟨b, off, none⟩) p.rules.length cap, .int .i64 p.distance, .int .i64 p.every], .agg #[x0, x1, x2, x3, x4, x5, x6, x7, x8, x9, x10, x11, x12, x13, x14, x15, x16, x17, x18, x19, x20, x21, x22, x23, x24], .pointer (some ⟨w.heap.size, 0, none⟩), .pointer (some ⟨w.heap.size + 1, 0, none⟩), .pointer (some ⟨w.heap.size + 1 + 1, 0, none⟩),
        .int .i64 (x.1 : Int), .pointer (some ⟨B, 0, none⟩), .agg #[.slice (some ⟨b, off, none⟩) p.rules.length cap, .int .i64 p.distance, .int .i64 p.every], .int .i64 0, .bool false, .pointer (some ⟨w.heap.size, 0, none⟩), .slice (some ⟨b, off, none⟩) p.rules.length cap,
        .func (.func 72) #[] #[.pointer (some ⟨Bs, 0, none⟩)], .int .i64 (x.1 : Int), ruleV x.2, undef, undef, undef, undef, undef], defers := [] })
    ?hAx ?assign ?body ?done ?stop
  case hI => exact fun s A B row hs hg hr => ⟨hs.1, hs.2.grown hg (Nat.le_refl _) fun r e => (hr r e).1⟩
  case hIx =>
    rintro c s A B row ⟨hc, ini, last, h1, h2, h3, h4, h5, h6⟩ hg hr
    exact ⟨hc, ini, last, h1, h2, h3, cell_kept h4 hg fun r e => (hr r e).2, h5.grown hg (Nat.le_refl _) fun r e => by have := (hr r e).1; omega, Nat.lt_of_lt_of_le h6 hg.size⟩
  case h0 => exact ⟨by simp, Kept.refl _ _⟩
  case hAx =>
    rintro x a' _ A B row ⟨Bx, h1, h2, h3⟩ hg hr
    exact ⟨Bx, h1, (grownBy_keeps_cells hg (fun r e => (hr r e).2) h2 rfl).trans h2, h3⟩
  case assign =>
    rintro l pre x W K ⟨hpre, hkW⟩ hK
    have hle := hkW.size
    simp only [ruleV]
    gi_wp2
    exact hK _ _ (keepsFrom_ofKept ((Kept.refl _ _).alloc (Nat.le_refl _) _)) ((Kept.refl _ _).alloc hle _) ⟨hpre, hkW.alloc (Nat.le_refl _) _⟩ ⟨W.heap.size, hle, World.alloc_heap_new _ _, rfl⟩
  case body =>
    rintro l pre x a' W hl hrec ⟨hpre, hkW⟩ ⟨Bx, hB1, hB2, rfl⟩ hlen
    have hE := (hkW.block (w.heap.size + 1) (by omega)).trans hEl
    have hX := (hkW.block (w.heap.size + 1 + 1) (by omega)).trans hXl
    have hsW := hkW.size
    have hkw : Kept w.heap.size w W := hkl.trans (hkW.mono (by omega))
    have k51' := k51 x.2 W hkw
    have HX := hidI hX
    clear hX hEl hXl hBl hRl k51 hrec
    refine wpIn_block ?_
    refine wpIn_seq ?_
    refine wpIn_region_lit ?_
    refine wpListIn_load_rowI rfl 72 _ rfl Bx rfl _ _ _ _ hB2 Try.underlying72 rfl (by kernel_rfl) ?_
    refine wpListIn_load_rowI rfl 59 _ rfl (w.heap.size + 1) rfl _ _ _ _ hE Try.underlying59 rfl (by kernel_rfl) ?_
    clear hB2 hE
    gi_wp2
    refine ⟨trivial, (CallsIn.inRound l k51').mono ?_⟩
    rintro e W' ⟨rfl, hk'⟩
    have hX' := (hk'.block (w.heap.size + 1 + 1) (by omega)).trans HX.out
    have hXc : W'.cell? ⟨w.heap.size + 1 + 1, 0, none⟩ = some (.int .i64 0) := by simp [World.cell?, hX']
    have hXf : W'.frozen? ⟨w.heap.size + 1 + 1, 0, none⟩ = false := by simp [World.frozen?, hX']
    have hs' := hk'.size
    clear hX' HX k51'
    cases hm : meets x.2 v
    · gi_wp2
      exact ⟨keepsFrom_ofKept hk', hk'.mono (by omega), ⟨fun y hy => (List.mem_append.1 hy).elim (hpre y) fun e => by simp at e; subst e; exact hm, hkW.trans (hk'.mono (by omega))⟩⟩
    · gi_wp2
      exact ⟨(keepsFrom_ofKept hk').trans ((KeepsOthers.setCell _ _ _).from _), rfl, pre, x, rfl, hpre, hm, World.cell?_setCell_same' _ _ _ (by rw [hXc]; rfl), (hkw.trans (hk'.mono (by omega))).setCell (by omega) _, Nat.lt_of_lt_of_le (by omega) (KeepsWalks.setCell W' _ _).size⟩
  case done =>
    rintro D ys W hD rfl ⟨hne, hkW⟩ hK
    have hX := (hkW.block (w.heap.size + 1 + 1) (by omega)).trans hXl
    have hXc : W.cell? ⟨w.heap.size + 1 + 1, 0, none⟩ = some (.int .i64 0) := by simp [World.cell?, hX]
    have hXf : W.frozen? ⟨w.heap.size + 1 + 1, 0, none⟩ = false := by simp [World.frozen?, hX]
    clear hX
    gi_wp2
    have hK' := (KeepsOthers.setCell W ⟨w.heap.size + 1 + 1, 0, none⟩ (.int .i64 0)).same D _ hK rfl
    refine ⟨by simp, .inl ⟨_, _, rfl, run_takeDeferred hK', ?_⟩⟩
    have hc5 := cell_kept (World.cell?_setCell_same' W ⟨w.heap.size + 1 + 1, 0, none⟩ (.int .i64 0) (by rw [hXc]; rfl)) (grownBy_putObj' _ D (.deferred none)) (fun r e => by cases e; exact ⟨_, hK', rfl⟩)
    have hlev : lev p v = 0 := by
      unfold lev
      rw [lev_skip (Nat.le_refl _) hne, Nat.sub_self]
      rfl
    refine ⟨.int .i64 0, ?_, by rw [hlev]; rfl, ?_⟩
    · simp [results, Try.f28, go_sem, hc5]
    · exact ((hkl.trans (hkW.mono (by omega))).setCell (by omega) _).grown (grownBy_putObj' _ D (.deferred none)) (Nat.le_refl _) fun r e => by cases e; omega
  case stop =>
    rintro D c pre W hD ⟨k, hk, rfl⟩ ⟨rfl, ini, last, e1, e2, e3, hcr, hkk, hss⟩ hK
    gi_wp2
    refine ⟨by simp, .inl ⟨_, _, rfl, run_takeDeferred hK, ?_⟩⟩
    have hc5 := cell_kept hcr (grownBy_putObj' _ D (.deferred none)) (fun r e => by cases e; exact ⟨_, hK, rfl⟩)
    obtain ⟨k', rfl⟩ : ∃ k', k = k' + 1 := by
      cases k with
      | zero => simp [upto] at e1
      | succ k' => exact ⟨k', rfl⟩
    rw [upto_succ] at e1
    obtain ⟨rfl, e5⟩ := List.append_inj' e1 rfl
    obtain rfl : back p.rules k' = last := by simpa using e5
    have hlev : lev p v = (back p.rules k').1 + 1 := lev_hit (by omega) e2 e3
    have hle := lev_le p v
    have hw64 : RowKit.wrap64 (((back p.rules k').1 : Int) + 1) = ((lev p v : Nat) : Int) := by
      have h3 := hp.1.2
      rw [hlev, Int.natCast_add]
      unfold RowKit.wrap64
      simp only [Int.cast_ofNat_Int]
      omega
    rw [hw64] at hc5
    refine ⟨.int .i64 (lev p v : Nat), ?_, rfl, ?_⟩
    · simp [results, Try.f28, go_sem, hc5]
    · exact hkk.grown (grownBy_putObj' _ D (.deferred none)) (Nat.le_refl _) fun r e => by cases e; omega

theorem c28 {h : AHeap} {p : Policy} {t : Tag} {v : Event} {te : Tag} (hp : p.good) : ACalls PR 28 [.agg (polc p t), .agg (evc v te)] h fun u h' => u = .int .i64 (lev p v) ∧ h = h' := by
  refine acalls_of ⟨_, Try.func28, by kernel_rfl, rfl⟩ (fun m => .int _ _) fun m own w cargs hw ha => ?_
  obtain ⟨ca⟩ := cargs
  have hl := vrels_list ha
  rcases hl with _ | ⟨h1, _ | ⟨h2, _ | _⟩⟩
  obtain ⟨l1, rfl, h1'⟩ := vrel_agg h1
  obtain ⟨l2, rfl, h2'⟩ := vrel_agg h2
  unfold polc at h1'
  rcases h1' with _ | ⟨hs, _ | ⟨hd, _ | ⟨he, _ | _⟩⟩⟩
  rename_i s0 d0 e0
  obtain ⟨b, off, cap, rfl, hb, hR⟩ := vrel_rules hw hs hp.1.1
  have ed : d0 = .int .i64 p.distance := by cases hd; rfl
  have ee : e0 = .int .i64 p.every := by cases he; rfl
  subst ed ee
  have hlen := h2'.len
  match l2, hlen with
  | [x0, x1, x2, x3, x4, x5, x6, x7, x8, x9, x10, x11, x12, x13, x14, x15, x16, x17, x18, x19, x20, x21, x22, x23, x24], _ =>
    refine callsIn_wide.1 (level_in (w := w) hp rfl hb hR (fun W hk => callsIn_wide.2 ?_) (fun r W hk => callsIn_wide.2 ?_))
    · refine (acalls_at (c44 (t := t) hp) hw hk (cargs := #[_]) ⟨rfl, fun i c cv q1 q2 => ?_⟩).mono ?_
      · cases i with
        | zero => simp at q1 q2; subst q1 q2; exact h1
        | succ i => simp at q1
      · rintro e W' ⟨u, cv, m', h', he, ⟨rfl, _⟩, hv, hk'⟩
        cases hv
        exact ⟨he, hk'⟩
    · refine (acalls_at (c51 (r := r) (v := v) (t := te)) hw hk (cargs := #[_, _]) ⟨rfl, fun i c cv q1 q2 => ?_⟩).mono ?_
      · match i with
        | 0 => simp at q1 q2; subst q1 q2; exact rule_rel m r
        | 1 => simp at q1 q2; subst q1 q2; exact h2
        | i + 2 => simp at q1
      · rintro e W' ⟨u, cv, m', h', he, ⟨rfl, _⟩, hv, hk'⟩
        cases hv
        exact ⟨he, hk'⟩
end Go.Proofs.Ytkdphdcpofcnjaa

/- K23: contracts of seat 36: levels, timeliness, movement (the program's). -/
namespace Go.Proofs.Ytkdphdcpofcnjaa
open Go Abs
set_option linter.unusedSimpArgs false
set_option linter.unusedVariables false
set_option maxHeartbeats 2000000
attribute [local irreducible] Go.IntKind.wrap

def tly (p : Policy) (e : Event) (now : Int) : Bool := decide (lev p e ≠ 0) && (decide (now - e.e.time ≥ 0) && decide (now - e.e.time ≤ ((p.rules[lev p e - 1]?).map Rule.window).getD 0))

theorem c30 {h : AHeap} {p : Policy} {t : Tag} {v : Event} {te : Tag} {now : Int} (hp : p.good) (hv : v.good) (hn : 0 ≤ now ∧ now ≤ 1000000) :
    ACalls PR 30 [.agg (polc p t), .agg (evc v te), .int .i64 now] h fun u h' => u = .bool (tly p v now) ∧ h = h' := by
  have ht := hv.2.2.2.2.2.1
  have hle := lev_le p v
  have hpl := hp.1.2
  refine fn_sound at30 ok30 (Nat.le_of_ble_eq_true rfl) (afn ?_)
  show AW _ C30 _ _
  unfold C30
  unfold polc evc
  refine nav ?_
  apply acallpp monoR rfl (by rfl) (c28 (p := p) (t := t) (v := v) (te := te) hp)
  rintro _ _ ⟨rfl, rfl⟩
  refine ⟨rfl, rfl, ?_⟩
  refine nav ?_
  refine acond rfl (fun hc => ?_) (fun hc => ?_)
  · have h0 : lev p v = 0 := by have := of_decide_eq_true hc; omega
    repeat' (first | refine nat1 ?_ | (apply aeqs rfl (by rfl) (by rfl); intro be hbe) | (apply gaeqs rfl (by first | assumption | with_reducible rfl) rfl (by rfl) (by rfl); intro be hbe) | refine gpassS1 rfl rfl rfl rfl rfl (fun _ => ?_) (fun _ => ?_) | refine gpassS0 rfl rfl rfl rfl rfl (fun _ => ?_) (fun _ => ?_) | refine psplitA rfl (fun _ => ?_) (fun _ => ?_) | refine acond rfl (fun _ => ?_) (fun _ => ?_))
    apply qf rfl (by rfl) aheap_le
    exact ⟨by simp [resV, tly, h0], rfl⟩
  · have hn0 : lev p v ≠ 0 := by have := of_decide_eq_false hc; omega
    obtain ⟨r, hr, he⟩ := map_get (f := Rule.enc) (l := p.rules) (k := lev p v - 1) (by omega)
    simp only [Rule.enc] at he
    repeat' (first | refine nat1 ?_ | (apply aeqs rfl (by rfl) (by rfl); intro be hbe) | (apply gaeqs rfl (by first | assumption | with_reducible rfl) rfl (by rfl) (by rfl); intro be hbe) | refine gpassS1 rfl rfl rfl rfl rfl (fun _ => ?_) (fun _ => ?_) | refine gpassS0 rfl rfl rfl rfl rfl (fun _ => ?_) (fun _ => ?_) | refine psplitA rfl (fun _ => ?_) (fun _ => ?_) | refine acond rfl (fun _ => ?_) (fun _ => ?_))
    · apply gaixz rfl (by assumption) rfl (by omega) (by rw [show ((lev p v : Nat) : Int) - 1 = ((lev p v - 1 : Nat) : Int) from by omega]; exact he)
      repeat' (first | refine nat1 ?_ | (apply aeqs rfl (by rfl) (by rfl); intro be hbe) | (apply gaeqs rfl (by first | assumption | with_reducible rfl) rfl (by rfl) (by rfl); intro be hbe) | refine gpassS1 rfl rfl rfl rfl rfl (fun _ => ?_) (fun _ => ?_) | refine gpassS0 rfl rfl rfl rfl rfl (fun _ => ?_) (fun _ => ?_) | refine psplitA rfl (fun _ => ?_) (fun _ => ?_) | refine acond rfl (fun _ => ?_) (fun _ => ?_))
      apply qf rfl (by rfl) aheap_le
      refine ⟨?_, rfl⟩
      have hge : decide (now - v.e.time ≥ 0) = true := by assumption
      simp only [resV, tly, hr, hge, Option.map_some, Option.getD_some, Bool.true_and, hn0, ne_eq, not_false_eq_true, decide_true]
    · apply qf rfl (by rfl) aheap_le
      refine ⟨?_, rfl⟩
      have hge : decide (now - v.e.time ≥ 0) = false := by assumption
      simp only [resV, tly, hge, Bool.false_and, Bool.and_false]

def mv (p : Policy) (a b : Event) : Bool :=
  if lev p a ≠ lev p b then true else
  if sqd a.e.px a.e.py a.e.pz b.e.px b.e.py b.e.pz > p.distance * p.distance then true else
  if gap a.e.time b.e.time > p.distance then true else !decide (max a.e.low b.e.low ≤ min a.e.high b.e.high)
theorem mv_self {p : Policy} {e : Event} (hp : p.good) (he : e.good) : mv p e e = false := by
  have h1 := hp.2.2.1.1
  have h2 := he.2.2.2.2.2.2.2.2
  unfold mv
  rw [if_neg (by simp), if_neg, if_neg, Bool.not_eq_false', decide_eq_true_eq]
  · omega
  · unfold gap; rw [if_neg (by omega)]; omega
  · have : sqd e.e.px e.e.py e.e.pz e.e.px e.e.py e.e.pz = 0 := by simp [sqd]
    rw [this]
    have := Int.mul_nonneg h1 h1
    omega

section
variable {C : Con} {K : ASt → Prop} {env : Abs.Env} {loc : Abs.Loc} {h : AHeap} {i : Nat} {dst : Option Nat} {args : List Opd} {r : List AIns}
theorem astk2 {n d a b : Nat} {x : AV} {o : AObj} {y y' : Opd × Nat × Bool} (ha : ASt.args ⟨env, loc, h⟩ (.st n) args = some [.lp d a b, x]) (hf : x.fit = true) (hn : x.cells.length = n) (ho : wrObj (loc d) a b x.cells = some o)
    (hk : ASt.ldA ⟨env.put dst (some (.tup [])), loc.set d (some o), h⟩ y = ASt.ldA ⟨env, loc, h⟩ y) (hk' : ASt.ldA ⟨env.put dst (some (.tup [])), loc.set d (some o), h⟩ y' = ASt.ldA ⟨env, loc, h⟩ y')
    (hh : AO C r ⟨env.put dst (some (.tup [])), loc.set d (some o), h⟩ K) : AO C (⟨i, none, dst, .st n, args, [y, y']⟩ :: r) ⟨env, loc, h⟩ K :=
  aact rfl ha ⟨hf, hn, o, ho, fun z hz => (by simp only [List.mem_cons, List.not_mem_nil, or_false] at hz; rcases hz with rfl | rfl; exact hk; exact hk'), hh⟩
end

theorem c29 {h : AHeap} {p : Policy} {t : Tag} {v w : Event} {te te' : Tag} (hp : p.good) (hv : v.good) (hw : w.good) :
    ACalls PR 29 [.agg (polc p t), .agg (evc v te), .agg (evc w te')] h fun u h' => u = .bool (mv p v w) ∧ h = h' := by
  obtain ⟨v1, v2, v3, v4, v5, v6, v7⟩ := id hv
  obtain ⟨w1, w2, w3, w4, w5, w6, w7⟩ := id hw
  have hd := hp.2.2.1
  have hdd : 0 ≤ p.distance * p.distance ∧ p.distance * p.distance ≤ 1000000 := ⟨Int.mul_nonneg hd.1 hd.1, by have := Int.mul_le_mul hd.2 hd.2 hd.1 (by omega); omega⟩
  have hdb : decide (p.distance ≤ 4194304) = true := decide_eq_true (by omega)
  refine fn_sound at29 ok29 (Nat.le_of_ble_eq_true rfl) (afn ?_)
  show AW _ C29 _ _
  unfold C29
  have k44 := c44 (h := h) (p := p) (t := t) hp
  have k28 := c28 (h := h) (p := p) (t := t) (v := v) (te := te) hp
  have k28' := c28 (h := h) (p := p) (t := t) (v := w) (te := te') hp
  have k52 := c52 (h := h) (x := v.e.px) (y := v.e.py) (z := v.e.pz) (x' := w.e.px) (y' := w.e.py) (z' := w.e.pz) (by omega) (by omega) (by omega) (by omega) (by omega) (by omega)
  have k53 := c53 (h := h) (a := v.e.time) (b := w.e.time) (by omega) (by omega)
  unfold polc evc
  repeat' (first | refine nat1 ?_ | (apply acallpp monoR rfl (by rfl) k44; rintro _ _ ⟨rfl, rfl⟩; refine ⟨rfl, rfl, ?_⟩) | (apply gcallpp rfl (by first | assumption | with_reducible rfl) monoR rfl (by rfl) k44; rintro _ _ ⟨rfl, rfl⟩; refine ⟨rfl, rfl, ?_⟩) | (refine gcallS1 rfl monoR rfl (by rfl) k44 (fun _ => ?_) (fun _ => ?_); rintro _ _ ⟨rfl, rfl⟩; refine ⟨rfl, rfl, ?_⟩) | (refine gcallS0 rfl monoR rfl (by rfl) k44 (fun _ => ?_) (fun _ => ?_); rintro _ _ ⟨rfl, rfl⟩; refine ⟨rfl, rfl, ?_⟩) | (apply aeqs rfl (by rfl) (by rfl); intro be hbe) | (apply gaeqs rfl (by first | assumption | with_reducible rfl) rfl (by rfl) (by rfl); intro be hbe) | refine gpassS1 rfl rfl rfl rfl rfl (fun _ => ?_) (fun _ => ?_) | refine gpassS0 rfl rfl rfl rfl rfl (fun _ => ?_) (fun _ => ?_) | refine psplitA rfl (fun _ => ?_) (fun _ => ?_) | refine acond rfl (fun _ => ?_) (fun _ => ?_))
  all_goals try (exfalso; simp_all; done)
  apply astk2 rfl (by rfl) (by rfl) (by simp only [buildV, elemsV, List.replicate_succ, List.replicate_zero, List.set_cons_succ, Nat.lt_add_one, Nat.zero_lt_succ, Nat.reduceLT, Nat.reduceMul, wrObj, wrElem, Loc.of, Loc.set, AV.cells, AV.fit, AV.one, List.length_cons, List.length_nil, List.take_succ_cons, List.take_zero, List.drop_succ_cons, List.drop_zero, List.cons_append, List.nil_append, List.getElem?_cons_zero, List.set_cons_zero, Nat.reduceAdd, Nat.reduceLeDiff, Nat.reduceEqDiff, and_self, if_true, Option.map_some, Option.bind_some, List.drop_nil, List.take_nil, List.append_nil]; rfl) (by rfl) (by rfl)
  repeat' (first | refine nat1 ?_ | (apply acallpp monoR rfl (by rfl) k28; rintro _ _ ⟨rfl, rfl⟩; refine ⟨rfl, rfl, ?_⟩) | (apply gcallpp rfl (by first | assumption | with_reducible rfl) monoR rfl (by rfl) k28; rintro _ _ ⟨rfl, rfl⟩; refine ⟨rfl, rfl, ?_⟩) | (refine gcallS1 rfl monoR rfl (by rfl) k28 (fun _ => ?_) (fun _ => ?_); rintro _ _ ⟨rfl, rfl⟩; refine ⟨rfl, rfl, ?_⟩) | (refine gcallS0 rfl monoR rfl (by rfl) k28 (fun _ => ?_) (fun _ => ?_); rintro _ _ ⟨rfl, rfl⟩; refine ⟨rfl, rfl, ?_⟩) | (apply acallpp monoR rfl (by rfl) k28'; rintro _ _ ⟨rfl, rfl⟩; refine ⟨rfl, rfl, ?_⟩) | (apply gcallpp rfl (by first | assumption | with_reducible rfl) monoR rfl (by rfl) k28'; rintro _ _ ⟨rfl, rfl⟩; refine ⟨rfl, rfl, ?_⟩) | (refine gcallS1 rfl monoR rfl (by rfl) k28' (fun _ => ?_) (fun _ => ?_); rintro _ _ ⟨rfl, rfl⟩; refine ⟨rfl, rfl, ?_⟩) | (refine gcallS0 rfl monoR rfl (by rfl) k28' (fun _ => ?_) (fun _ => ?_); rintro _ _ ⟨rfl, rfl⟩; refine ⟨rfl, rfl, ?_⟩) | (apply acallpp monoR rfl (by rfl) k52; rintro _ _ ⟨rfl, rfl⟩; refine ⟨rfl, rfl, ?_⟩) | (apply gcallpp rfl (by first | assumption | with_reducible rfl) monoR rfl (by rfl) k52; rintro _ _ ⟨rfl, rfl⟩; refine ⟨rfl, rfl, ?_⟩) | (refine gcallS1 rfl monoR rfl (by rfl) k52 (fun _ => ?_) (fun _ => ?_); rintro _ _ ⟨rfl, rfl⟩; refine ⟨rfl, rfl, ?_⟩) | (refine gcallS0 rfl monoR rfl (by rfl) k52 (fun _ => ?_) (fun _ => ?_); rintro _ _ ⟨rfl, rfl⟩; refine ⟨rfl, rfl, ?_⟩) | (apply acallpp monoR rfl (by rfl) k53; rintro _ _ ⟨rfl, rfl⟩; refine ⟨rfl, rfl, ?_⟩) | (apply gcallpp rfl (by first | assumption | with_reducible rfl) monoR rfl (by rfl) k53; rintro _ _ ⟨rfl, rfl⟩; refine ⟨rfl, rfl, ?_⟩) | (refine gcallS1 rfl monoR rfl (by rfl) k53 (fun _ => ?_) (fun _ => ?_); rintro _ _ ⟨rfl, rfl⟩; refine ⟨rfl, rfl, ?_⟩) | (refine gcallS0 rfl monoR rfl (by rfl) k53 (fun _ => ?_) (fun _ => ?_); rintro _ _ ⟨rfl, rfl⟩; refine ⟨rfl, rfl, ?_⟩) | (apply aeqs rfl (by rfl) (by rfl); intro be hbe) | (apply gaeqs rfl (by first | assumption | with_reducible rfl) rfl (by rfl) (by rfl); intro be hbe) | refine gpassS1 rfl rfl rfl rfl rfl (fun _ => ?_) (fun _ => ?_) | refine gpassS0 rfl rfl rfl rfl rfl (fun _ => ?_) (fun _ => ?_) | refine psplitA rfl (fun _ => ?_) (fun _ => ?_) | refine acond rfl (fun _ => ?_) (fun _ => ?_))
  · rename_i hc
    apply qf rfl (by rfl) aheap_le
    refine ⟨?_, rfl⟩
    have hne : lev p v ≠ lev p w := fun e => by rw [e] at hc; simp at hc
    simp only [resV, mv, if_pos hne]
  · rename_i h1 h2
    apply qf rfl (by rfl) aheap_le
    refine ⟨?_, rfl⟩
    have he : lev p v = lev p w := by
      have : decide (((lev p v : Nat) : Int) = ((lev p w : Nat) : Int)) = true := by simpa using h1
      have := of_decide_eq_true this
      omega
    simp only [resV, mv, if_neg (show ¬ lev p v ≠ lev p w by simp [he]), if_pos (of_decide_eq_true h2)]
  · rename_i h1 h2 h3
    apply qf rfl (by rfl) aheap_le
    refine ⟨?_, rfl⟩
    have he : lev p v = lev p w := by
      have : decide (((lev p v : Nat) : Int) = ((lev p w : Nat) : Int)) = true := by simpa using h1
      have := of_decide_eq_true this
      omega
    rw [Go.IntWalk.u64_in p.distance (by omega)] at h3
    simp only [resV, mv, if_neg (show ¬ lev p v ≠ lev p w by simp [he]), if_neg (of_decide_eq_false h2), if_pos (of_decide_eq_true h3)]
  · rename_i h1 h2 h3
    have k54 := c54 (h := h) (x := v.e.low) (y := v.e.high) (x' := w.e.low) (y' := w.e.high)
    repeat' (first | refine nat1 ?_ | (apply acallpp monoR rfl (by rfl) k54; rintro _ _ ⟨rfl, rfl⟩; refine ⟨rfl, rfl, ?_⟩) | (apply gcallpp rfl (by first | assumption | with_reducible rfl) monoR rfl (by rfl) k54; rintro _ _ ⟨rfl, rfl⟩; refine ⟨rfl, rfl, ?_⟩) | (refine gcallS1 rfl monoR rfl (by rfl) k54 (fun _ => ?_) (fun _ => ?_); rintro _ _ ⟨rfl, rfl⟩; refine ⟨rfl, rfl, ?_⟩) | (refine gcallS0 rfl monoR rfl (by rfl) k54 (fun _ => ?_) (fun _ => ?_); rintro _ _ ⟨rfl, rfl⟩; refine ⟨rfl, rfl, ?_⟩) | (apply aeqs rfl (by rfl) (by rfl); intro be hbe) | (apply gaeqs rfl (by first | assumption | with_reducible rfl) rfl (by rfl) (by rfl); intro be hbe) | refine gpassS1 rfl rfl rfl rfl rfl (fun _ => ?_) (fun _ => ?_) | refine gpassS0 rfl rfl rfl rfl rfl (fun _ => ?_) (fun _ => ?_) | refine psplitA rfl (fun _ => ?_) (fun _ => ?_) | refine acond rfl (fun _ => ?_) (fun _ => ?_))
    apply qf rfl (by rfl) aheap_le
    refine ⟨?_, rfl⟩
    have he : lev p v = lev p w := by
      have : decide (((lev p v : Nat) : Int) = ((lev p w : Nat) : Int)) = true := by simpa using h1
      have := of_decide_eq_true this
      omega
    rw [Go.IntWalk.u64_in p.distance (by omega)] at h3
    simp only [resV, mv, if_neg (show ¬ lev p v ≠ lev p w by simp [he]), if_neg (of_decide_eq_false h2), if_neg (of_decide_eq_false h3)]
end Go.Proofs.Ytkdphdcpofcnjaa

/- K24: contracts of seat 36: comparisons of the program. -/
namespace Go.Proofs.Ytkdphdcpofcnjaa
open Go Abs
set_option linter.unusedSimpArgs false
set_option linter.unusedVariables false
set_option maxHeartbeats 2000000
attribute [local irreducible] Go.IntKind.wrap

def cmpI (a b : Int) : Int := if a < b then -1 else if a > b then 1 else 0
def cmpS (a b : ByteArray) : Int := if Op.bytesLess a.toList b.toList then -1 else if a = b then 0 else 1
def firstNZ : List Int → Int
  | [] => 0
  | x :: r => if x = 0 then firstNZ r else x
def cmpP (p q : Pick) : Int := firstNZ [firstNZ [cmpS p.net q.net, cmpS p.sta q.sta, cmpS p.loc q.loc, cmpS p.cha q.cha], cmpI p.time q.time, cmpI p.early q.early, cmpI p.late q.late, cmpI p.amp q.amp, cmpI p.pol q.pol]
def cmpE (p q : Pick) : Int := firstNZ [cmpI p.time q.time, cmpP p q]

theorem c90 {h : AHeap} {n : Int} : ACalls PR 90 [.int .i64 n] h fun u h' => u = .bool false ∧ h = h' := by
  refine fn_sound at90 ok90 (Nat.le_of_ble_eq_true rfl) (afn ?_)
  show AW _ C90 _ _
  unfold C90
  repeat' (first | refine nat1 ?_ | (apply aeqs rfl (by rfl) (by rfl); intro be hbe) | (apply gaeqs rfl (by first | assumption | with_reducible rfl) rfl (by rfl) (by rfl); intro be hbe) | refine gpassS1 rfl rfl rfl rfl rfl (fun _ => ?_) (fun _ => ?_) | refine gpassS0 rfl rfl rfl rfl rfl (fun _ => ?_) (fun _ => ?_) | refine psplitA rfl (fun _ => ?_) (fun _ => ?_) | refine acond rfl (fun _ => ?_) (fun _ => ?_))
  apply qf rfl (by rfl) aheap_le
  exact ⟨by simp [resV], rfl⟩
theorem c94 {h : AHeap} {n : ByteArray} : ACalls PR 94 [.str n] h fun u h' => u = .bool false ∧ h = h' := by
  refine fn_sound at94 ok94 (Nat.le_of_ble_eq_true rfl) (afn ?_)
  show AW _ C94 _ _
  unfold C94
  repeat' (first | refine nat1 ?_ | (apply aeqs rfl (by rfl) (by rfl); intro be hbe) | (apply gaeqs rfl (by first | assumption | with_reducible rfl) rfl (by rfl) (by rfl); intro be hbe) | refine gpassS1 rfl rfl rfl rfl rfl (fun _ => ?_) (fun _ => ?_) | refine gpassS0 rfl rfl rfl rfl rfl (fun _ => ?_) (fun _ => ?_) | refine psplitA rfl (fun _ => ?_) (fun _ => ?_) | refine acond rfl (fun _ => ?_) (fun _ => ?_))
  apply qf rfl (by rfl) aheap_le
  exact ⟨by simp [resV], rfl⟩
theorem c87 {h : AHeap} {a b : Int} : ACalls PR 87 [.int .i64 a, .int .i64 b] h fun u h' => u = .int .i64 (cmpI a b) ∧ h = h' := by
  refine fn_sound at87 ok87 (Nat.le_of_ble_eq_true rfl) (afn ?_)
  show AW _ C87 _ _
  unfold C87
  repeat' (first | refine nat1 ?_ | (apply acallpp monoR rfl (by rfl) c90; rintro _ _ ⟨rfl, rfl⟩; refine ⟨rfl, rfl, ?_⟩) | (apply gcallpp rfl (by first | assumption | with_reducible rfl) monoR rfl (by rfl) c90; rintro _ _ ⟨rfl, rfl⟩; refine ⟨rfl, rfl, ?_⟩) | (refine gcallS1 rfl monoR rfl (by rfl) c90 (fun _ => ?_) (fun _ => ?_); rintro _ _ ⟨rfl, rfl⟩; refine ⟨rfl, rfl, ?_⟩) | (refine gcallS0 rfl monoR rfl (by rfl) c90 (fun _ => ?_) (fun _ => ?_); rintro _ _ ⟨rfl, rfl⟩; refine ⟨rfl, rfl, ?_⟩) | (apply aeqs rfl (by rfl) (by rfl); intro be hbe) | (apply gaeqs rfl (by first | assumption | with_reducible rfl) rfl (by rfl) (by rfl); intro be hbe) | refine gpassS1 rfl rfl rfl rfl rfl (fun _ => ?_) (fun _ => ?_) | refine gpassS0 rfl rfl rfl rfl rfl (fun _ => ?_) (fun _ => ?_) | refine psplitA rfl (fun _ => ?_) (fun _ => ?_) | refine acond rfl (fun _ => ?_) (fun _ => ?_))
  all_goals (apply qf rfl (by rfl) aheap_le; refine ⟨?_, rfl⟩; simp_all [resV, cmpI] <;> (rw [if_neg (by omega), if_neg (by omega)]))
theorem c92 {h : AHeap} {a b : ByteArray} : ACalls PR 92 [.str a, .str b] h fun u h' => u = .int .i64 (cmpS a b) ∧ h = h' := by
  refine fn_sound at92 ok92 (Nat.le_of_ble_eq_true rfl) (afn ?_)
  show AW _ C92 _ _
  unfold C92
  repeat' (first | refine nat1 ?_ | (apply acallpp monoR rfl (by rfl) c94; rintro _ _ ⟨rfl, rfl⟩; refine ⟨rfl, rfl, ?_⟩) | (apply gcallpp rfl (by first | assumption | with_reducible rfl) monoR rfl (by rfl) c94; rintro _ _ ⟨rfl, rfl⟩; refine ⟨rfl, rfl, ?_⟩) | (refine gcallS1 rfl monoR rfl (by rfl) c94 (fun _ => ?_) (fun _ => ?_); rintro _ _ ⟨rfl, rfl⟩; refine ⟨rfl, rfl, ?_⟩) | (refine gcallS0 rfl monoR rfl (by rfl) c94 (fun _ => ?_) (fun _ => ?_); rintro _ _ ⟨rfl, rfl⟩; refine ⟨rfl, rfl, ?_⟩) | (apply aeqs rfl (by rfl) (by rfl); intro be hbe) | (apply gaeqs rfl (by first | assumption | with_reducible rfl) rfl (by rfl) (by rfl); intro be hbe) | refine gpassS1 rfl rfl rfl rfl rfl (fun _ => ?_) (fun _ => ?_) | refine gpassS0 rfl rfl rfl rfl rfl (fun _ => ?_) (fun _ => ?_) | refine psplitA rfl (fun _ => ?_) (fun _ => ?_) | refine acond rfl (fun _ => ?_) (fun _ => ?_))
  all_goals (apply qf rfl (by rfl) aheap_le; refine ⟨?_, rfl⟩; simp_all [resV, cmpS])
theorem firstNZ_drop {xs : List Int} {k : Nat} (h : ∀ i (hi : i < xs.length), i < k → xs[i] = 0) : firstNZ xs = firstNZ (xs.drop k) := by
  induction xs generalizing k with
  | nil => simp
  | cons x r ih =>
    cases k with
    | zero => rfl
    | succ k =>
      have h0 := h 0 (by simp) (by omega)
      simp only [List.getElem_cons_zero] at h0
      simp only [firstNZ, h0, if_true, List.drop_succ_cons]
      exact ih fun i hi hk => by
        have := h (i + 1) (by simpa using hi) (by omega)
        rw [List.getElem_cons_succ] at this
        exact this
theorem c86 {h : AHeap} {xs : List Int} {t : Tag} (hl : xs.length ≤ 1000) : ACalls PR 86 [.sl 1 (ints xs) t] h fun u h' => u = .int .i64 (firstNZ xs) ∧ h = h' := by
  refine fn_sound at86 ok86 (Nat.le_of_ble_eq_true rfl) (afn ?_)
  show AW _ C86 _ _
  unfold C86
  refine nav ?_
  rw [ints_len]
  refine aloop (fun q s => ∃ k : Nat, q + k = xs.length ∧ (∀ i (hi : i < xs.length), i < k → xs[i] = 0) ∧ s = ⟨Env.of [(3, some (.int .i64 0)), (6, some (.sl 1 (ints xs) t)), (7, some (.int .i64 xs.length)), (8, some (.int .i64 k))], Loc.of [], h⟩) xs.length ⟨0, by omega, by simp, rfl⟩ ?_
  rintro q s' ⟨k, hq, hz, rfl⟩
  have hd := firstNZ_drop hz
  refine nav ?_
  refine acond rfl (fun hc => ?_) (fun hc => ?_)
  · have hlt : k < xs.length := by have := of_decide_eq_true hc; omega
    have he := ints_get hlt
    rw [List.drop_eq_getElem_cons hlt] at hd
    refine naw ?_
    refine acond rfl (fun hd2 => ?_) (fun hd2 => ?_)
    · refine naw ?_
      apply qf rfl (by rfl) aheap_le
      refine ⟨?_, rfl⟩
      have hne : xs[k] ≠ 0 := by simpa using hd2
      rw [hd]
      simp only [resV, firstNZ, if_neg hne]
    · refine naw ?_
      refine ql_n (q - 1) (by omega) ⟨k + 1, by omega, fun i hi hik => ?_, rfl⟩
      rcases Nat.lt_or_ge i k with h1 | h1
      · exact hz i hi h1
      · have : i = k := by omega
        subst this
        simpa using hd2
  · have hge : xs.length ≤ k := by have := of_decide_eq_false hc; omega
    rw [List.drop_of_length_le hge] at hd
    refine naw ?_
    apply qf rfl (by rfl) aheap_le
    exact ⟨by rw [hd]; rfl, rfl⟩
theorem c89 {h : AHeap} {a b c d a' b' c' d' : ByteArray} : ACalls PR 89 [.agg [.str a, .str b, .str c, .str d], .agg [.str a', .str b', .str c', .str d']] h fun u h' => u = .int .i64 (firstNZ [cmpS a a', cmpS b b', cmpS c c', cmpS d d']) ∧ h = h' := by
  refine fn_sound at89 ok89 (Nat.le_of_ble_eq_true rfl) (afn ?_)
  show AW _ C89 _ _
  unfold C89
  repeat' (first | refine nat1 ?_ | (apply acallpp monoR rfl (by rfl) c92; rintro _ _ ⟨rfl, rfl⟩; refine ⟨rfl, rfl, ?_⟩) | (apply gcallpp rfl (by first | assumption | with_reducible rfl) monoR rfl (by rfl) c92; rintro _ _ ⟨rfl, rfl⟩; refine ⟨rfl, rfl, ?_⟩) | (refine gcallS1 rfl monoR rfl (by rfl) c92 (fun _ => ?_) (fun _ => ?_); rintro _ _ ⟨rfl, rfl⟩; refine ⟨rfl, rfl, ?_⟩) | (refine gcallS0 rfl monoR rfl (by rfl) c92 (fun _ => ?_) (fun _ => ?_); rintro _ _ ⟨rfl, rfl⟩; refine ⟨rfl, rfl, ?_⟩) | (apply aeqs rfl (by rfl) (by rfl); intro be hbe) | (apply gaeqs rfl (by first | assumption | with_reducible rfl) rfl (by rfl) (by rfl); intro be hbe) | refine gpassS1 rfl rfl rfl rfl rfl (fun _ => ?_) (fun _ => ?_) | refine gpassS0 rfl rfl rfl rfl rfl (fun _ => ?_) (fun _ => ?_) | refine psplitA rfl (fun _ => ?_) (fun _ => ?_) | refine acond rfl (fun _ => ?_) (fun _ => ?_))
  apply acallpp monoR rfl (by rfl) (c86 (xs := [cmpS a a', cmpS b b', cmpS c c', cmpS d d']) (t := .full) (by simp))
  rintro _ _ ⟨rfl, rfl⟩
  refine ⟨rfl, rfl, ?_⟩
  repeat' (first | refine nat1 ?_ | (apply aeqs rfl (by rfl) (by rfl); intro be hbe) | (apply gaeqs rfl (by first | assumption | with_reducible rfl) rfl (by rfl) (by rfl); intro be hbe) | refine gpassS1 rfl rfl rfl rfl rfl (fun _ => ?_) (fun _ => ?_) | refine gpassS0 rfl rfl rfl rfl rfl (fun _ => ?_) (fun _ => ?_) | refine psplitA rfl (fun _ => ?_) (fun _ => ?_) | refine acond rfl (fun _ => ?_) (fun _ => ?_))
  apply qf rfl (by rfl) aheap_le
  exact ⟨rfl, rfl⟩
theorem c84 {h : AHeap} {p q : Pick} : ACalls PR 84 [.agg p.enc, .agg q.enc] h fun u h' => u = .int .i64 (cmpP p q) ∧ h = h' := by
  refine fn_sound at84 ok84 (Nat.le_of_ble_eq_true rfl) (afn ?_)
  show AW _ C84 _ _
  unfold C84
  unfold Pick.enc
  repeat' (first | refine nat1 ?_ | (apply acallpp monoR rfl (by rfl) c89; rintro _ _ ⟨rfl, rfl⟩; refine ⟨rfl, rfl, ?_⟩) | (apply gcallpp rfl (by first | assumption | with_reducible rfl) monoR rfl (by rfl) c89; rintro _ _ ⟨rfl, rfl⟩; refine ⟨rfl, rfl, ?_⟩) | (refine gcallS1 rfl monoR rfl (by rfl) c89 (fun _ => ?_) (fun _ => ?_); rintro _ _ ⟨rfl, rfl⟩; refine ⟨rfl, rfl, ?_⟩) | (refine gcallS0 rfl monoR rfl (by rfl) c89 (fun _ => ?_) (fun _ => ?_); rintro _ _ ⟨rfl, rfl⟩; refine ⟨rfl, rfl, ?_⟩) | (apply acallpp monoR rfl (by rfl) c87; rintro _ _ ⟨rfl, rfl⟩; refine ⟨rfl, rfl, ?_⟩) | (apply gcallpp rfl (by first | assumption | with_reducible rfl) monoR rfl (by rfl) c87; rintro _ _ ⟨rfl, rfl⟩; refine ⟨rfl, rfl, ?_⟩) | (refine gcallS1 rfl monoR rfl (by rfl) c87 (fun _ => ?_) (fun _ => ?_); rintro _ _ ⟨rfl, rfl⟩; refine ⟨rfl, rfl, ?_⟩) | (refine gcallS0 rfl monoR rfl (by rfl) c87 (fun _ => ?_) (fun _ => ?_); rintro _ _ ⟨rfl, rfl⟩; refine ⟨rfl, rfl, ?_⟩) | (apply aeqs rfl (by rfl) (by rfl); intro be hbe) | (apply gaeqs rfl (by first | assumption | with_reducible rfl) rfl (by rfl) (by rfl); intro be hbe) | refine gpassS1 rfl rfl rfl rfl rfl (fun _ => ?_) (fun _ => ?_) | refine gpassS0 rfl rfl rfl rfl rfl (fun _ => ?_) (fun _ => ?_) | refine psplitA rfl (fun _ => ?_) (fun _ => ?_) | refine acond rfl (fun _ => ?_) (fun _ => ?_))
  apply acallpp monoR rfl (by rfl) (c86 (xs := [firstNZ [cmpS p.net q.net, cmpS p.sta q.sta, cmpS p.loc q.loc, cmpS p.cha q.cha], cmpI p.time q.time, cmpI p.early q.early, cmpI p.late q.late, cmpI p.amp q.amp, cmpI p.pol q.pol]) (t := .full) (by simp))
  rintro _ _ ⟨rfl, rfl⟩
  refine ⟨rfl, rfl, ?_⟩
  repeat' (first | refine nat1 ?_ | (apply aeqs rfl (by rfl) (by rfl); intro be hbe) | (apply gaeqs rfl (by first | assumption | with_reducible rfl) rfl (by rfl) (by rfl); intro be hbe) | refine gpassS1 rfl rfl rfl rfl rfl (fun _ => ?_) (fun _ => ?_) | refine gpassS0 rfl rfl rfl rfl rfl (fun _ => ?_) (fun _ => ?_) | refine psplitA rfl (fun _ => ?_) (fun _ => ?_) | refine acond rfl (fun _ => ?_) (fun _ => ?_))
  apply qf rfl (by rfl) aheap_le
  exact ⟨rfl, rfl⟩
theorem c71 {h : AHeap} {p q : Pick} : ACalls PR 71 [.agg p.enc, .agg q.enc] h fun u h' => u = .int .i64 (cmpE p q) ∧ h = h' := by
  refine fn_sound at71 ok71 (Nat.le_of_ble_eq_true rfl) (afn ?_)
  show AW _ C71 _ _
  unfold C71
  have k84 := c84 (h := h) (p := p) (q := q)
  unfold Pick.enc
  repeat' (first | refine nat1 ?_ | (apply acallpp monoR rfl (by rfl) c87; rintro _ _ ⟨rfl, rfl⟩; refine ⟨rfl, rfl, ?_⟩) | (apply gcallpp rfl (by first | assumption | with_reducible rfl) monoR rfl (by rfl) c87; rintro _ _ ⟨rfl, rfl⟩; refine ⟨rfl, rfl, ?_⟩) | (refine gcallS1 rfl monoR rfl (by rfl) c87 (fun _ => ?_) (fun _ => ?_); rintro _ _ ⟨rfl, rfl⟩; refine ⟨rfl, rfl, ?_⟩) | (refine gcallS0 rfl monoR rfl (by rfl) c87 (fun _ => ?_) (fun _ => ?_); rintro _ _ ⟨rfl, rfl⟩; refine ⟨rfl, rfl, ?_⟩) | (apply acallpp monoR rfl (by rfl) k84; rintro _ _ ⟨rfl, rfl⟩; refine ⟨rfl, rfl, ?_⟩) | (apply gcallpp rfl (by first | assumption | with_reducible rfl) monoR rfl (by rfl) k84; rintro _ _ ⟨rfl, rfl⟩; refine ⟨rfl, rfl, ?_⟩) | (refine gcallS1 rfl monoR rfl (by rfl) k84 (fun _ => ?_) (fun _ => ?_); rintro _ _ ⟨rfl, rfl⟩; refine ⟨rfl, rfl, ?_⟩) | (refine gcallS0 rfl monoR rfl (by rfl) k84 (fun _ => ?_) (fun _ => ?_); rintro _ _ ⟨rfl, rfl⟩; refine ⟨rfl, rfl, ?_⟩) | (apply aeqs rfl (by rfl) (by rfl); intro be hbe) | (apply gaeqs rfl (by first | assumption | with_reducible rfl) rfl (by rfl) (by rfl); intro be hbe) | refine gpassS1 rfl rfl rfl rfl rfl (fun _ => ?_) (fun _ => ?_) | refine gpassS0 rfl rfl rfl rfl rfl (fun _ => ?_) (fun _ => ?_) | refine psplitA rfl (fun _ => ?_) (fun _ => ?_) | refine acond rfl (fun _ => ?_) (fun _ => ?_))
  apply acallpp monoR rfl (by rfl) (c86 (xs := [cmpI p.time q.time, cmpP p q]) (t := .full) (by simp))
  rintro _ _ ⟨rfl, rfl⟩
  refine ⟨rfl, rfl, ?_⟩
  repeat' (first | refine nat1 ?_ | (apply aeqs rfl (by rfl) (by rfl); intro be hbe) | (apply gaeqs rfl (by first | assumption | with_reducible rfl) rfl (by rfl) (by rfl); intro be hbe) | refine gpassS1 rfl rfl rfl rfl rfl (fun _ => ?_) (fun _ => ?_) | refine gpassS0 rfl rfl rfl rfl rfl (fun _ => ?_) (fun _ => ?_) | refine psplitA rfl (fun _ => ?_) (fun _ => ?_) | refine acond rfl (fun _ => ?_) (fun _ => ?_))
  apply qf rfl (by rfl) aheap_le
  exact ⟨rfl, rfl⟩

/-- Picks in strictly ascending order; the first is the least by time. -/
structure SortedP (ps : List Pick) : Prop where
  ne : ps ≠ []
  len : ps.length ≤ 1000
  asc : ∀ (k : Nat) (p q : Pick), ps[k]? = some p → ps[k + 1]? = some q → cmpP p q < 0
  min : ∀ (k : Nat) (p q : Pick), ps[0]? = some p → ps[k + 1]? = some q → ¬ cmpE q p < 0

theorem c69 {h : AHeap} {ps : List Pick} {t : Tag} (hs : SortedP ps) : ACalls PR 69 [.sl 9 (ps.map Pick.enc) t] h fun u h' => u = .bool true ∧ h = h' := by
  have hl := hs.len
  refine fn_sound at69 ok69 (Nat.le_of_ble_eq_true rfl) (afn ?_)
  show AW _ C69 _ _
  unfold C69
  refine nav ?_
  have hlp := List.length_pos_iff.2 hs.ne
  refine aloop (fun q s => ∃ k : Nat, q + k = ps.length ∧ 1 ≤ k ∧ s = ⟨Env.of [(0, some (.sl 9 (ps.map Pick.enc) t)), (3, some (.int .i64 k))], Loc.of [], h⟩) (ps.length - 1) ⟨1, by omega, by omega, rfl⟩ ?_
  rintro q s' ⟨k, hq, hk1, rfl⟩
  refine nav ?_
  refine acond rfl (fun hc => ?_) (fun hc => ?_)
  · have hlt : k < ps.length := by have := of_decide_eq_true hc; simpa using this
    obtain ⟨b, hb, he⟩ := pick_get hlt
    obtain ⟨a, ha, he'⟩ := pick_get (ps := ps) (k := k - 1) (by omega)
    have hx' : (ps.map Pick.enc)[((k : Int) - 1).toNat]? = some a.enc := by rw [show ((k : Int) - 1).toNat = k - 1 by omega]; exact he'
    have hlt0 := hs.asc (k - 1) a b ha (by rw [show k - 1 + 1 = k by omega]; exact hb)
    have k84 := c84 (h := h) (p := a) (q := b)
    simp only [Pick.enc] at he hx'
    repeat' (first | refine nat1 ?_ | (apply acallpp monoR rfl (by rfl) k84; rintro _ _ ⟨rfl, rfl⟩; refine ⟨rfl, rfl, ?_⟩) | (apply gcallpp rfl (by first | assumption | with_reducible rfl) monoR rfl (by rfl) k84; rintro _ _ ⟨rfl, rfl⟩; refine ⟨rfl, rfl, ?_⟩) | (refine gcallS1 rfl monoR rfl (by rfl) k84 (fun _ => ?_) (fun _ => ?_); rintro _ _ ⟨rfl, rfl⟩; refine ⟨rfl, rfl, ?_⟩) | (refine gcallS0 rfl monoR rfl (by rfl) k84 (fun _ => ?_) (fun _ => ?_); rintro _ _ ⟨rfl, rfl⟩; refine ⟨rfl, rfl, ?_⟩) | (apply aeqs rfl (by rfl) (by rfl); intro be hbe) | (apply gaeqs rfl (by first | assumption | with_reducible rfl) rfl (by rfl) (by rfl); intro be hbe) | refine gpassS1 rfl rfl rfl rfl rfl (fun _ => ?_) (fun _ => ?_) | refine gpassS0 rfl rfl rfl rfl rfl (fun _ => ?_) (fun _ => ?_) | refine psplitA rfl (fun _ => ?_) (fun _ => ?_) | refine acond rfl (fun _ => ?_) (fun _ => ?_))
    · exfalso; simp_all; omega
    · exact ql_n (q - 1) (by omega) ⟨k + 1, by omega, by omega, rfl⟩
  · refine nav ?_
    apply qf rfl (by rfl) aheap_le
    exact ⟨rfl, rfl⟩
end Go.Proofs.Ytkdphdcpofcnjaa

/- K25: contracts of seat 36: the least pick, names. -/
namespace Go.Proofs.Ytkdphdcpofcnjaa
open Go Abs
set_option linter.unusedSimpArgs false
set_option linter.unusedVariables false
set_option maxHeartbeats 2000000
attribute [local irreducible] Go.IntKind.wrap

section
variable {C : Con} {K : ASt → Prop} {env : Abs.Env} {loc : Abs.Loc} {h : AHeap} {i : Nat} {dst : Option Nat} {args : List Opd} {r : List AIns}
/-- A call of a function's value. -/
theorem acallv {f : Nat} {first cap vs : List AV} {R : AV → AHeap → Prop} (hC : Monotone C) (ha : ASt.args ⟨env, loc, h⟩ .callv args = some (.fn f first cap :: vs)) (hp : vs.all AV.plain = true) (hc : C f (first ++ vs ++ cap) h R)
    (hh : ∀ u h', R u h' → u.plain = true ∧ AO C r ⟨env.put dst (some u), loc, h'⟩ K) : AO C (⟨i, none, dst, .callv, args, []⟩ :: r) ⟨env, loc, h⟩ K :=
  aact rfl ha ⟨hp, hC _ _ _ _ _ hc fun u h' hu => ⟨(hh u h' hu).1, by simp, (hh u h' hu).2⟩⟩
/-- Maps. -/
theorem alkl {d : Nat} {ag ok : Bool} {ks : List Nat} {es : List (List AV × AV)} {key z : AV} (ha : ASt.args ⟨env, loc, h⟩ (.lkl ag ks z ok) args = some [.lmap d, key]) (hl : loc d = some (.map ag ks es)) (h1 : key.isAgg = ag) (h2 : key.cells.map AV.kindNo = ks)
    (hh : AO C r ⟨env.put dst (some (if ok then .tup [(findE es key.cells).getD z, .bool (findE es key.cells).isSome] else (findE es key.cells).getD z)), loc, h⟩ K) : AO C (⟨i, none, dst, .lkl ag ks z ok, args, []⟩ :: r) ⟨env, loc, h⟩ K :=
  apass rfl ha (by
    cases ok <;> simp [pval, lkV, hl, h1, h2]) hh
theorem aupl {d : Nat} {ag : Bool} {ks : List Nat} {es : List (List AV × AV)} {key v : AV} (ha : ASt.args ⟨env, loc, h⟩ (.upl ag ks) args = some [.lmap d, key, v]) (hl : loc d = some (.map ag ks es)) (h1 : key.isAgg = ag) (h2 : key.cells.map AV.kindNo = ks) (h3 : v.plain = true)
    (hh : AO C r ⟨env.put dst (some (.tup [])), loc.set d (some (.map ag ks (setE es key.cells v))), h⟩ K) : AO C (⟨i, none, dst, .upl ag ks, args, []⟩ :: r) ⟨env, loc, h⟩ K :=
  aact rfl ha ⟨es, hl, h1, h2, h3, by simp, hh⟩
end
theorem findE_none {es : List (List AV × AV)} {key : List AV} (h : key ∉ es.map Prod.fst) : findE es key = none := by
  induction es with
  | nil => rfl
  | cons x r ih =>
    obtain ⟨k, v⟩ := x
    simp only [List.map_cons, List.mem_cons, not_or] at h
    simp only [findE]
    rw [if_neg (fun e => h.1 e.symm)]
    exact ih h.2
theorem setE_new {es : List (List AV × AV)} {key : List AV} {v : AV} (h : key ∉ es.map Prod.fst) : setE es key v = es ++ [(key, v)] := by
  induction es with
  | nil => rfl
  | cons x r ih =>
    obtain ⟨k, v'⟩ := x
    simp only [List.map_cons, List.mem_cons, not_or] at h
    simp only [setE]
    rw [if_neg (fun e => h.1 e.symm), ih h.2]
    rfl
theorem Pick.enc_inj {p q : Pick} (h : p.enc = q.enc) : p = q := by
  cases p; cases q
  simp [Pick.enc] at h
  simp [h]
theorem mem_encs {p : Pick} {ps : List Pick} (h : p.enc ∈ ps.map Pick.enc) : p ∈ ps := by
  obtain ⟨q, hq, e⟩ := List.mem_map.1 h
  exact Pick.enc_inj e ▸ hq

theorem c85 {h : AHeap} {ps : List Pick} {t : Tag} (hs : SortedP ps) : ACalls PR 85 [.sl 9 (ps.map Pick.enc) t, .fn 71 [] []] h fun u h' => (∃ p, ps[0]? = some p ∧ u = .agg p.enc) ∧ h = h' := by
  have hl := hs.len
  have hlp := List.length_pos_iff.2 hs.ne
  obtain ⟨p0, hp0, he0⟩ := pick_get (ps := ps) (k := 0) hlp
  refine fn_sound at85 ok85 (Nat.le_of_ble_eq_true rfl) (afn ?_)
  show AW _ C85 _ _
  unfold C85
  simp only [Pick.enc] at he0
  have hd1 : decide (((ps.map Pick.enc).length : Int) < 1) = false := by rw [decide_eq_false_iff_not, List.length_map]; omega
  refine nav ?_
  refine aloop (fun q s => ∃ k : Nat, q + k = ps.length ∧ 1 ≤ k ∧ s = ⟨Env.of [(0, some (.sl 9 (ps.map Pick.enc) t)), (1, some (.fn 71 [] [])), (4, some (.lp 4 0 0)), (5, some (.lp 5 0 0)), (6, some (.int .i64 k))], Loc.of [(4, some (.arr 9 [zs9])), (5, some (.arr 9 [p0.enc]))], h⟩) (ps.length - 1) ⟨1, by omega, by omega, rfl⟩ ?_
  rintro q s' ⟨k, hq, hk1, rfl⟩
  unfold zs9 Pick.enc
  refine nav ?_
  refine acond rfl (fun hc => ?_) (fun hc => ?_)
  · have hlt : k < ps.length := by have := of_decide_eq_true hc; simpa using this
    obtain ⟨b, hb, he⟩ := pick_get hlt
    have hge := hs.min (k - 1) p0 b hp0 (by rw [show k - 1 + 1 = k by omega]; exact hb)
    simp only [Pick.enc] at he
    have k71 := c71 (h := h) (p := b) (q := p0)
    refine nav ?_
    apply acallv monoR rfl (by rfl) k71
    rintro _ _ ⟨rfl, rfl⟩
    refine ⟨rfl, ?_⟩
    have hff : decide (cmpE b p0 < 0) = false := decide_eq_false hge
    refine naw ?_
    exact ql_n (q - 1) (by omega) ⟨k + 1, by omega, by omega, rfl⟩
  · refine nav ?_
    apply qf rfl (by rfl) aheap_le
    exact ⟨⟨p0, hp0, rfl⟩, rfl⟩

theorem c70 {h : AHeap} {ps : List Pick} {t : Tag} (hs : SortedP ps) : ACalls PR 70 [.sl 9 (ps.map Pick.enc) t] h fun u h' => (∃ p, ps[0]? = some p ∧ u = .agg p.enc) ∧ h = h' := by
  have hl := hs.len
  have hlp := List.length_pos_iff.2 hs.ne
  refine fn_sound at70 ok70 (Nat.le_of_ble_eq_true rfl) (afn ?_)
  show AW _ C70 _ _
  unfold C70
  have hd1 : decide (((ps.map Pick.enc).length : Int) = 0) = false := by rw [decide_eq_false_iff_not, List.length_map]; omega
  refine nav ?_
  apply acallpp monoR rfl (by rfl) (c85 hs)
  rintro _ _ ⟨⟨p, hp, rfl⟩, rfl⟩
  refine ⟨rfl, rfl, ?_⟩
  unfold Pick.enc
  refine nav ?_
  apply qf rfl (by rfl) aheap_le
  exact ⟨⟨p, hp, rfl⟩, rfl⟩

theorem evPick_cmp {n i j : Nat} (hij : i < j) (hj : j < 6) : cmpP (evPick n i) (evPick n j) = -1 := by
  have key : ∀ i j : Nat, i < j → j < 6 → firstNZ [cmpS ⟨#[65, 66]⟩ ⟨#[65, 66]⟩, cmpS ⟨#[83, 49 + i.toUInt8]⟩ ⟨#[83, 49 + j.toUInt8]⟩, cmpS ⟨#[48, 48]⟩ ⟨#[48, 48]⟩, cmpS ⟨#[66, 72, 90]⟩ ⟨#[66, 72, 90]⟩] = -1 := by
    intro i j hij hj
    have hi : i = 0 ∨ i = 1 ∨ i = 2 ∨ i = 3 ∨ i = 4 := by omega
    have hjj : j = 1 ∨ j = 2 ∨ j = 3 ∨ j = 4 ∨ j = 5 := by omega
    rcases hi with rfl | rfl | rfl | rfl | rfl <;> rcases hjj with rfl | rfl | rfl | rfl | rfl <;> first | (omega) | (decide +kernel)
  unfold cmpP evPick pickAt
  simp only
  rw [firstNZ, if_neg (by rw [key i j hij hj]; decide), key i j hij hj]

theorem evPick_time (n i : Nat) : (evPick n i).time = 1000 + 400 * (n : Int) + i := rfl
theorem cmpE_gt {p q : Pick} (h : p.time < q.time) : ¬ cmpE q p < 0 := by
  have e : cmpI q.time p.time = 1 := by unfold cmpI; rw [if_neg (by omega), if_pos (by omega)]
  have : cmpE q p = 1 := by unfold cmpE; rw [firstNZ, e]; rfl
  rw [this]; decide
theorem cmpE_lt {p q : Pick} (h : p.time < q.time) : cmpE p q < 0 := by
  have e : cmpI p.time q.time = -1 := by unfold cmpI; rw [if_pos (by omega)]
  have : cmpE p q = -1 := by unfold cmpE; rw [firstNZ, e]; rfl
  rw [this]; decide
theorem EvD.sorted {d : EvD} (hd : d.ok) : SortedP d.ev.picks := by
  obtain ⟨h1, h2, h3, h4⟩ := hd
  have hget : ∀ k, d.ev.picks[k]? = if k < d.cnt then some (evPick d.n (d.i0 + k)) else none := fun k => by
    show (List.map d.pick (List.range' d.i0 d.cnt))[k]? = _
    rw [List.getElem?_map]
    split
    · rw [List.getElem?_range' (by omega)]; simp [EvD.pick]
    · rw [List.getElem?_eq_none (by simp; omega)]; rfl
  refine ⟨?_, ?_, fun k p q hp hq => ?_, fun k p q hp hq => ?_⟩
  · intro e
    have := hget 0
    rw [e, if_pos (by omega)] at this
    simp at this
  · show (List.map d.pick (List.range' d.i0 d.cnt)).length ≤ 1000
    simp; omega
  · rw [hget] at hp hq
    split at hp
    · split at hq
      · cases hp; cases hq
        rw [evPick_cmp (by omega) (by omega)]; decide
      · cases hq
    · cases hp
  · rw [hget] at hp hq
    split at hp
    · split at hq
      · cases hp; cases hq
        exact cmpE_gt (by rw [evPick_time, evPick_time]; omega)
      · cases hq
    · cases hp
end Go.Proofs.Ytkdphdcpofcnjaa

/- K26: contracts of seat 36: the program's validity of events. -/
namespace Go.Proofs.Ytkdphdcpofcnjaa
open Go Abs
set_option linter.unusedSimpArgs false
set_option linter.unusedVariables false
set_option maxHeartbeats 2000000
attribute [local irreducible] Go.IntKind.wrap

structure EvV (es : List Event) : Prop where
  each : ∀ e ∈ es, SortedP e.picks ∧ e.picks[0]? = some e.name
  asc : ∀ (k : Nat) (a b : Event), es[k]? = some a → es[k + 1]? = some b → cmpE a.name b.name < 0
  nodup : (es.flatMap Event.picks).Nodup
  len : es.length ≤ 1000

theorem EvsOk.evv {m : Nat} {es : List Event} {ds : List EvD} (h : EvsOk m es ds) (hm : m ≤ 1000) : EvV es := by
  refine ⟨fun e he => ?_, fun k a b ha hb => ?_, ?_, by have := h.len; omega⟩
  · rw [h.eq] at he
    obtain ⟨d, hd, rfl⟩ := List.mem_map.1 he
    have hok := (h.ok d hd).1
    refine ⟨EvD.sorted hok, ?_⟩
    show (List.map d.pick (List.range' d.i0 d.cnt))[0]? = some (d.pick d.i0)
    rw [List.getElem?_map, List.getElem?_range' (by have := hok.2.1; omega)]
    simp
  · rw [h.eq, List.getElem?_map] at ha hb
    obtain ⟨x, hx, rfl⟩ := Option.map_eq_some_iff.1 ha
    obtain ⟨y, hy, rfl⟩ := Option.map_eq_some_iff.1 hb
    obtain ⟨hk, rfl⟩ := List.getElem?_eq_some_iff.1 hx
    obtain ⟨hk', rfl⟩ := List.getElem?_eq_some_iff.1 hy
    have h1 := List.pairwise_iff_getElem.1 h.inc k (k + 1) hk hk' (by omega)
    have h2 := (h.ok ds[k] (List.getElem_mem hk)).1.1
    exact cmpE_lt (by simp only [EvD.ev, EvD.pick, evPick, pickAt]; omega)
  · have hp : (es.flatMap Event.picks).Pairwise fun a b => a.time < b.time := by
      rw [List.pairwise_flatMap]
      refine ⟨fun e he => ?_, ?_⟩
      · rw [h.eq] at he
        obtain ⟨d, hd, rfl⟩ := List.mem_map.1 he
        show (List.map d.pick (List.range' d.i0 d.cnt)).Pairwise _
        rw [List.pairwise_map]
        refine List.Pairwise.imp ?_ (List.pairwise_lt_range' (s := d.i0) (n := d.cnt) 1 (by omega))
        intro i j hij
        show (1000 + 400 * (d.n : Int) + i) < (1000 + 400 * (d.n : Int) + j)
        omega
      · rw [h.eq, List.pairwise_map]
        refine List.Pairwise.imp_of_mem ?_ h.inc
        intro d d' hd hd' hlt x hx y hy
        obtain ⟨i, hi, rfl⟩ := List.mem_map.1 (show x ∈ List.map d.pick (List.range' d.i0 d.cnt) from hx)
        obtain ⟨j, hj, rfl⟩ := List.mem_map.1 (show y ∈ List.map d'.pick (List.range' d'.i0 d'.cnt) from hy)
        have h1 := (h.ok d hd).1
        have h3 := (List.mem_range'_1.1 hi)
        have := h1.2.2.1
        show (1000 + 400 * (d.n : Int) + i) < (1000 + 400 * (d'.n : Int) + j)
        omega
    exact hp.imp fun h e => by rw [e] at h; omega

theorem alklN {C : Con} {K : ASt → Prop} {env : Abs.Env} {loc : Abs.Loc} {h : AHeap} {i : Nat} {dst : Option Nat} {args : List Opd} {r : List AIns} {d : Nat} {ag : Bool} {ks : List Nat} {es : List (List AV × AV)} {key z : AV} (ha : ASt.args ⟨env, loc, h⟩ (.lkl ag ks z true) args = some [.lmap d, key]) (hl : loc d = some (.map ag ks es)) (h1 : key.isAgg = ag) (h2 : key.cells.map AV.kindNo = ks) (hf : findE es key.cells = none)
    (hh : AO C r ⟨env.put dst (some (.tup [z, .bool false])), loc, h⟩ K) : AO C (⟨i, none, dst, .lkl ag ks z true, args, []⟩ :: r) ⟨env, loc, h⟩ K :=
  alkl ha hl h1 h2 (by simp only [hf, if_true, Option.getD_none, Option.isSome_none]; exact hh)

def ks9 : List Nat := [1, 1, 1, 1, 6, 6, 6, 6, 6]
theorem c45 {h : AHeap} {v : AV} {es : List Event} (hv : IsSl 25 IsEv v es) (hes : EvV es) : ACalls PR 45 [v] h fun u h' => u = .bool true ∧ h = h' := by
  have hl := hes.len
  refine fn_sound at45 ok45 (Nat.le_of_ble_eq_true rfl) (afn ?_)
  show AW _ C45 _ _
  unfold C45
  have hN := hv.names
  refine nav ?_
  apply alenS rfl hv
  refine nav ?_
  refine aloop (fun q s => ∃ (k : Nat) (mp : List (List AV × AV)), q + k = es.length ∧ mp.map Prod.fst = ((es.take k).flatMap Event.picks).map Pick.enc ∧ s = ⟨Env.of [(0, some v), (3, some (.lmap 11)), (12, some v), (13, some (.int .i64 es.length)), (14, some (.int .i64 k))], Loc.of [(11, some (.map true [1, 1, 1, 1, 6, 6, 6, 6, 6] mp))], h⟩) es.length ⟨0, [], by omega, rfl, rfl⟩ ?_
  rintro q s' ⟨k, mp, hq, hmp, rfl⟩
  refine nav ?_
  refine acond rfl (fun hc => ?_) (fun hc => ?_)
  · have hlt : k < es.length := by have := of_decide_eq_true hc; omega
    have hek := List.getElem?_eq_getElem hlt
    obtain ⟨hso, hnm⟩ := hes.each _ (List.getElem_mem hlt)
    have htake : es.take (k + 1) = es.take k ++ [es[k]] := by rw [List.take_add_one, hek]; rfl
    have hsub : ((es.take (k + 1)).flatMap Event.picks).Nodup := by
      refine List.Nodup.sublist ?_ hes.nodup
      conv => rhs; rw [← List.take_append_drop (k + 1) es, List.flatMap_append]
      exact List.sublist_append_left _ _
    obtain ⟨cs, t, rfl, hcs⟩ := hv.sl hlt
    obtain ⟨c, hx, te, hc2⟩ := hcs.get k hek
    have hxe : cs[k]? = some (evc es[k] te) := by rw [hx, hc2]; rfl
    obtain ⟨pr, tp, hpr, hlt2⟩ : ∃ (pr : Event) (tp : Tag), (1 ≤ k → cs[((k : Int) - 1).toNat]? = some (evc pr tp)) ∧ (1 ≤ k → cmpE pr.name es[k].name < 0) := by
      by_cases h1 : 1 ≤ k
      · have hek' := List.getElem?_eq_getElem (l := es) (i := k - 1) (by omega)
        obtain ⟨c', hx', tp, hc3⟩ := hcs.get (k - 1) hek'
        exact ⟨_, tp, fun _ => by rw [show ((k : Int) - 1).toNat = k - 1 by omega, hx', hc3]; rfl, fun _ => hes.asc (k - 1) _ _ hek' (by rw [show k - 1 + 1 = k by omega]; exact hek)⟩
      · exact ⟨es[k], te, fun h => absurd h h1, fun h => absurd h h1⟩
    generalize es[k] = e at *
    have hlen0 : decide (((e.picks.map Pick.enc).length : Int) = 0) = false := by
      rw [decide_eq_false_iff_not, List.length_map]
      have := List.length_pos_iff.2 hso.ne
      omega
    have hnt : (!true) = false := rfl
    have k69 := c69 (h := h) (t := te) hso
    have k70 : ACalls PR 70 [.sl 9 (e.picks.map Pick.enc) te] h fun u h' => u = .agg e.name.enc ∧ h = h' := (c70 hso).mono fun u h' ⟨⟨p, e1, e2⟩, e3⟩ => ⟨by rw [hnm] at e1; cases e1; exact e2, e3⟩
    have k71 := c71 (h := h) (p := pr.name) (q := e.name)
    simp only [Pick.enc] at k70
    unfold evc at hxe hpr
    apply askip
    apply qs_n
    apply aseq
    apply ablock
    apply aseq
    refine ajoin (fun s => s = ⟨Env.of [(0, some (.sl 25 cs t)), (3, some (.lmap 11)), (4, some (.int .i64 k)), (5, some (.lp 5 0 0)), (12, some (.sl 25 cs t)), (13, some (.int .i64 es.length)), (14, some (.int .i64 k))], Loc.of [(5, some (.arr 25 [evc e te])), (11, some (.map true [1, 1, 1, 1, 6, 6, 6, 6, 6] mp))], h⟩) (fun Q' hE hO => ?_) ?_
    · refine nav ?_
      exact hE _ rfl
    rintro _ rfl
    apply qs_n
    apply aseq
    unfold evc
    refine ajoin (fun s => s = ⟨Env.of [(0, some (.sl 25 cs t)), (3, some (.lmap 11)), (4, some (.int .i64 k)), (5, some (.lp 5 0 0)), (6, some (.sl 9 (e.picks.map Pick.enc) te)), (12, some (.sl 25 cs t)), (13, some (.int .i64 es.length)), (14, some (.int .i64 k))], Loc.of [(5, some (.arr 25 [evc e te])), (11, some (.map true [1, 1, 1, 1, 6, 6, 6, 6, 6] mp))], h⟩) (fun Q' hE hO => ?_) ?_
    · refine nav ?_
      exact hE _ rfl
    rintro _ rfl
    apply qs_n
    apply aseq
    unfold evc
    refine ajoin (fun s => ∃ x, s = ⟨Env.of [(0, some (.sl 25 cs t)), (3, some (.lmap 11)), (6, some (.sl 9 (e.picks.map Pick.enc) te)), (12, some (.sl 25 cs t)), (13, some (.int .i64 es.length)), (14, some (.int .i64 k)), (52, x)], Loc.of [(11, some (.map true [1, 1, 1, 1, 6, 6, 6, 6, 6] mp))], h⟩) (fun Q' hE hO => ?_) ?_
    · rcases Nat.eq_zero_or_pos k with rfl | hk1
      · repeat' (first | refine nat1 ?_ | (apply acallpp monoR rfl (by rfl) k69; rintro _ _ ⟨rfl, rfl⟩; refine ⟨rfl, rfl, ?_⟩) | (apply gcallpp rfl (by first | assumption | with_reducible rfl) monoR rfl (by rfl) k69; rintro _ _ ⟨rfl, rfl⟩; refine ⟨rfl, rfl, ?_⟩) | (refine gcallS1 rfl monoR rfl (by rfl) k69 (fun _ => ?_) (fun _ => ?_); rintro _ _ ⟨rfl, rfl⟩; refine ⟨rfl, rfl, ?_⟩) | (refine gcallS0 rfl monoR rfl (by rfl) k69 (fun _ => ?_) (fun _ => ?_); rintro _ _ ⟨rfl, rfl⟩; refine ⟨rfl, rfl, ?_⟩) | (apply acallpp monoR rfl (by rfl) k70; rintro _ _ ⟨rfl, rfl⟩; refine ⟨rfl, rfl, ?_⟩) | (apply gcallpp rfl (by first | assumption | with_reducible rfl) monoR rfl (by rfl) k70; rintro _ _ ⟨rfl, rfl⟩; refine ⟨rfl, rfl, ?_⟩) | (refine gcallS1 rfl monoR rfl (by rfl) k70 (fun _ => ?_) (fun _ => ?_); rintro _ _ ⟨rfl, rfl⟩; refine ⟨rfl, rfl, ?_⟩) | (refine gcallS0 rfl monoR rfl (by rfl) k70 (fun _ => ?_) (fun _ => ?_); rintro _ _ ⟨rfl, rfl⟩; refine ⟨rfl, rfl, ?_⟩) | (apply aeqs rfl (by rfl) (by rfl); intro be hbe) | (apply gaeqs rfl (by first | assumption | with_reducible rfl) rfl (by rfl) (by rfl); intro be hbe) | refine gpassS1 rfl rfl rfl rfl rfl (fun _ => ?_) (fun _ => ?_) | refine gpassS0 rfl rfl rfl rfl rfl (fun _ => ?_) (fun _ => ?_) | refine psplitA rfl (fun _ => ?_) (fun _ => ?_) | refine acond rfl (fun _ => ?_) (fun _ => ?_))
        all_goals first
          | exact hE _ ⟨_, rfl⟩
          | (exfalso; simp_all; done)
      · have hpr1 := hpr hk1
        have hlt1 : decide (cmpE pr.name e.name ≥ 0) = false := decide_eq_false (by have := hlt2 hk1; omega)
        repeat' (first | refine nat1 ?_ | (apply acallpp monoR rfl (by rfl) k69; rintro _ _ ⟨rfl, rfl⟩; refine ⟨rfl, rfl, ?_⟩) | (apply gcallpp rfl (by first | assumption | with_reducible rfl) monoR rfl (by rfl) k69; rintro _ _ ⟨rfl, rfl⟩; refine ⟨rfl, rfl, ?_⟩) | (refine gcallS1 rfl monoR rfl (by rfl) k69 (fun _ => ?_) (fun _ => ?_); rintro _ _ ⟨rfl, rfl⟩; refine ⟨rfl, rfl, ?_⟩) | (refine gcallS0 rfl monoR rfl (by rfl) k69 (fun _ => ?_) (fun _ => ?_); rintro _ _ ⟨rfl, rfl⟩; refine ⟨rfl, rfl, ?_⟩) | (apply acallpp monoR rfl (by rfl) k70; rintro _ _ ⟨rfl, rfl⟩; refine ⟨rfl, rfl, ?_⟩) | (apply gcallpp rfl (by first | assumption | with_reducible rfl) monoR rfl (by rfl) k70; rintro _ _ ⟨rfl, rfl⟩; refine ⟨rfl, rfl, ?_⟩) | (refine gcallS1 rfl monoR rfl (by rfl) k70 (fun _ => ?_) (fun _ => ?_); rintro _ _ ⟨rfl, rfl⟩; refine ⟨rfl, rfl, ?_⟩) | (refine gcallS0 rfl monoR rfl (by rfl) k70 (fun _ => ?_) (fun _ => ?_); rintro _ _ ⟨rfl, rfl⟩; refine ⟨rfl, rfl, ?_⟩) | (apply acallpp monoR rfl (by rfl) k71; rintro _ _ ⟨rfl, rfl⟩; refine ⟨rfl, rfl, ?_⟩) | (apply gcallpp rfl (by first | assumption | with_reducible rfl) monoR rfl (by rfl) k71; rintro _ _ ⟨rfl, rfl⟩; refine ⟨rfl, rfl, ?_⟩) | (refine gcallS1 rfl monoR rfl (by rfl) k71 (fun _ => ?_) (fun _ => ?_); rintro _ _ ⟨rfl, rfl⟩; refine ⟨rfl, rfl, ?_⟩) | (refine gcallS0 rfl monoR rfl (by rfl) k71 (fun _ => ?_) (fun _ => ?_); rintro _ _ ⟨rfl, rfl⟩; refine ⟨rfl, rfl, ?_⟩) | (apply aeqs rfl (by rfl) (by rfl); intro be hbe) | (apply gaeqs rfl (by first | assumption | with_reducible rfl) rfl (by rfl) (by rfl); intro be hbe) | refine gpassS1 rfl rfl rfl rfl rfl (fun _ => ?_) (fun _ => ?_) | refine gpassS0 rfl rfl rfl rfl rfl (fun _ => ?_) (fun _ => ?_) | refine psplitA rfl (fun _ => ?_) (fun _ => ?_) | refine acond rfl (fun _ => ?_) (fun _ => ?_))
        all_goals first
          | exact hE _ ⟨_, rfl⟩
          | (exfalso; simp_all; done)
    rintro _ ⟨x52, rfl⟩
    refine nav ?_
    refine aloop (fun q2 s => ∃ (j : Nat) (mp : List (List AV × AV)), q2 + j = e.picks.length ∧ mp.map Prod.fst = ((es.take k).flatMap Event.picks ++ e.picks.take j).map Pick.enc ∧
        s = ⟨Env.of [(0, some (.sl 25 cs t)), (3, some (.lmap 11)), (12, some (.sl 25 cs t)), (13, some (.int .i64 es.length)), (14, some (.int .i64 k)), (53, some (.sl 9 (e.picks.map Pick.enc) te)), (54, some (.int .i64 e.picks.length)), (55, some (.int .i64 j))], Loc.of [(11, some (.map true [1, 1, 1, 1, 6, 6, 6, 6, 6] mp))], h⟩) e.picks.length
      ⟨0, mp, by omega, by rw [hmp]; simp, by rw [List.length_map]; rfl⟩ ?_
    clear hmp
    rintro q2 s2 ⟨j, mp, hq2, hmp, rfl⟩
    have hpl := hso.len
    refine nav ?_
    refine acond rfl (fun hc2 => ?_) (fun hc2 => ?_)
    · have hj : j < e.picks.length := by have := of_decide_eq_true hc2; omega
      obtain ⟨pk, hpk, hpe⟩ := pick_get hj
      have hnot : pk.enc ∉ mp.map Prod.fst := by
        rw [hmp]
        intro hm
        have hm' := mem_encs hm
        rw [htake, List.flatMap_append, List.flatMap_singleton, ← List.take_append_drop j e.picks, ← List.append_assoc] at hsub
        have hd : pk ∈ e.picks.drop j := by
          rw [List.drop_eq_getElem_cons hj]
          have : e.picks[j] = pk := by rw [List.getElem?_eq_getElem hj] at hpk; exact Option.some.inj hpk
          rw [this]
          exact List.mem_cons_self
        exact (List.nodup_append.1 hsub).2.2 pk hm' pk hd rfl
      have hfind := findE_none hnot
      have hset := setE_new (v := .agg []) hnot
      simp only [Pick.enc] at hpe
      refine nav ?_
      apply alklN rfl rfl (by rfl) (by rfl) (by exact hfind)
      refine naw ?_
      apply aupl rfl rfl (by rfl) (by rfl) (by rfl)
      refine naw ?_
      refine ql_n (q2 - 1) (by omega) ⟨j + 1, _, by omega, ?_, rfl⟩
      show (setE mp pk.enc (.agg [])).map Prod.fst = _
      rw [hset, List.map_append, hmp, List.take_add_one, hpk, ← List.append_assoc, List.map_append (l₂ := (some pk).toList)]
      rfl
    · have hj : e.picks.length ≤ j := by have := of_decide_eq_false hc2; omega
      refine naw ?_
      refine ql_n (q - 1) (by omega) ⟨k + 1, mp, by omega, ?_, rfl⟩
      rw [hmp, List.take_of_length_le hj, htake, List.flatMap_append, List.flatMap_singleton]
  · refine nav ?_
    apply qf rfl (by rfl) aheap_le
    exact ⟨rfl, rfl⟩
end Go.Proofs.Ytkdphdcpofcnjaa

/- K27: contracts of seat 36: the program's validity of alerts. -/
namespace Go.Proofs.Ytkdphdcpofcnjaa
open Go Abs
set_option linter.unusedSimpArgs false
set_option linter.unusedVariables false
set_option maxHeartbeats 2000000
attribute [local irreducible] Go.IntKind.wrap

def openNames (l : List Alert) : List Pick := (l.filter fun a => !a.wd).map Alert.name

theorem c14 {h : AHeap} {v : AV} {l : List Alert} {number now : Int} (hv : IsSl 38 IsAl v l) (hli : LInv l number now) (hn : number ≤ 1000) (hw : now ≤ 18014398509481984) (hl : l.length ≤ 200) : ACalls PR 14 [v] h fun u h' => u = .bool true ∧ h = h' := by
  refine fn_sound at14 ok14 (Nat.le_of_ble_eq_true rfl) (afn ?_)
  show AW _ C14 _ _
  unfold C14
  have hN := hv.names
  have hd0 : decide ((l.length : Int) > 200) = false := decide_eq_false (by omega)
  refine nav ?_
  apply alenS rfl hv
  refine nav ?_
  apply alenS rfl hv
  refine nav ?_
  refine aloop (fun q s => ∃ (k : Nat) (lst : Int) (mp : List (List AV × AV)), q + k = l.length ∧ (∀ (j : Nat) (a : Alert), k ≤ j → l[j]? = some a → lst < a.id) ∧ mp.map Prod.fst = (openNames (l.take k)).map Pick.enc ∧
      s = ⟨Env.of [(3, some (.lmap 12)), (4, some (.int .i64 lst)), (13, some v), (14, some (.int .i64 l.length)), (15, some (.int .i64 k))], Loc.of [(12, some (.map true [1, 1, 1, 1, 6, 6, 6, 6, 6] mp))], h⟩) l.length
    ⟨0, -1, [], by omega, fun j a _ ha => by have := (hli.num a (List.mem_of_getElem? ha)).1; omega, rfl, rfl⟩ ?_
  rintro q s' ⟨k, lst, mp, hq, hlst, hmp, rfl⟩
  refine nav ?_
  refine acond rfl (fun hc => ?_) (fun hc => ?_)
  · have hlt : k < l.length := by have := of_decide_eq_true hc; omega
    have hla := List.getElem?_eq_getElem hlt
    have hnum := hli.num _ (List.getElem_mem hlt)
    have htm := hli.tms _ (List.getElem_mem hlt)
    have hl1 := hlst k _ (Nat.le_refl _) hla
    have hnext : ∀ (j : Nat) (a : Alert), k + 1 ≤ j → l[j]? = some a → (l[k]).id < a.id := fun j a hj ha => by
      obtain ⟨hj', rfl⟩ := List.getElem?_eq_some_iff.1 ha
      exact List.pairwise_iff_getElem.1 hli.ids k j hlt hj' (by omega)
    have htake : l.take (k + 1) = l.take k ++ [l[k]] := by rw [List.take_add_one, hla]; rfl
    have hnot : (l[k]).wd = false → (l[k]).name.enc ∉ mp.map Prod.fst := fun hw hm => by
      rw [hmp] at hm
      have hm' := mem_encs hm
      obtain ⟨b, hb, hbn⟩ := List.mem_map.1 hm'
      obtain ⟨hb1, hb2⟩ := List.mem_filter.1 hb
      obtain ⟨j, hj⟩ := List.getElem?_of_mem hb1
      obtain ⟨hj1, hj2⟩ := List.getElem?_eq_some_iff.1 hj
      have hjk : j < k := by rw [List.length_take] at hj1; omega
      rw [List.getElem_take] at hj2
      exact List.pairwise_iff_getElem.1 hli.nms j k (by omega) hlt hjk (by rw [hj2]; simpa using hb2) hw (by rw [hj2]; exact hbn)
    obtain ⟨cs, t, rfl, hcs⟩ := hv.sl hlt
    obtain ⟨c, hx, ta, hc2⟩ := hcs.get k hla
    have hxe : cs[k]? = some (alc l[k] ta) := by rw [hx, hc2]
    generalize l[k] = a at *
    have hd1 : decide (a.id ≤ lst) = false := decide_eq_false (by omega)
    have hd2 : decide (a.id ≥ 1000) = false := decide_eq_false (by omega)
    have hd3 : decide (a.tm < 0) = false := decide_eq_false (by omega)
    have hd4 : decide (a.tm > 18014398509481984) = false := decide_eq_false (by omega)
    unfold alc at hxe
    repeat' (first | refine nat1 ?_ | (apply aeqs rfl (by rfl) (by rfl); intro be hbe) | (apply gaeqs rfl (by first | assumption | with_reducible rfl) rfl (by rfl) (by rfl); intro be hbe) | refine gpassS1 rfl rfl rfl rfl rfl (fun _ => ?_) (fun _ => ?_) | refine gpassS0 rfl rfl rfl rfl rfl (fun _ => ?_) (fun _ => ?_) | refine psplitA rfl (fun _ => ?_) (fun _ => ?_) | refine acond rfl (fun _ => ?_) (fun _ => ?_))
    · have hwd : a.wd = true := by assumption
      refine ql_n (q - 1) (by omega) ⟨k + 1, a.id, mp, by omega, hnext, ?_, rfl⟩
      rw [hmp, htake]
      simp [openNames, List.filter_append, hwd]
    · have hwd : a.wd = false := by assumption
      have hfind := findE_none (hnot hwd)
      have hset := setE_new (v := .agg []) (hnot hwd)
      apply alklN rfl rfl (by rfl) (by rfl) (by exact hfind)
      repeat' (first | refine nat1 ?_ | (apply aeqs rfl (by rfl) (by rfl); intro be hbe) | (apply gaeqs rfl (by first | assumption | with_reducible rfl) rfl (by rfl) (by rfl); intro be hbe) | refine gpassS1 rfl rfl rfl rfl rfl (fun _ => ?_) (fun _ => ?_) | refine gpassS0 rfl rfl rfl rfl rfl (fun _ => ?_) (fun _ => ?_) | refine psplitA rfl (fun _ => ?_) (fun _ => ?_) | refine acond rfl (fun _ => ?_) (fun _ => ?_))
      apply aupl rfl rfl (by rfl) (by rfl) (by rfl)
      refine naw ?_
      refine ql_n (q - 1) (by omega) ⟨k + 1, a.id, _, by omega, hnext, ?_, rfl⟩
      show (setE mp a.name.enc (.agg [])).map Prod.fst = _
      rw [hset, List.map_append, hmp, htake]
      simp [openNames, List.filter_append, hwd]
  · refine nav ?_
    apply qf rfl (by rfl) aheap_le
    exact ⟨rfl, rfl⟩
end Go.Proofs.Ytkdphdcpofcnjaa

/- K28: contracts of seat 36: IndexFunc, ContainsFunc over alerts; refused. -/
namespace Go.Proofs.Ytkdphdcpofcnjaa
open Go Abs
set_option linter.unusedSimpArgs false
set_option linter.unusedVariables false
set_option maxHeartbeats 2000000
attribute [local irreducible] Go.IntKind.wrap

def fidx {α : Type} (pred : α → Bool) : List α → Option Nat
  | [] => none
  | a :: r => if pred a then some 0 else (fidx pred r).map (· + 1)
def fidxI {α : Type} (pred : α → Bool) (l : List α) : Int := match fidx pred l with
  | some i => i
  | none => -1
theorem fidx_some {α : Type} {pred : α → Bool} : ∀ {l : List α} {k : Nat} {a : α}, (∀ (i : Nat) (b : α), i < k → l[i]? = some b → pred b = false) → l[k]? = some a → pred a = true → fidx pred l = some k
  | [], k, a, _, ha, _ => by simp at ha
  | x :: r, 0, a, _, ha, hp => by simp at ha; subst ha; simp [fidx, hp]
  | x :: r, k + 1, a, h, ha, hp => by
    have h0 := h 0 x (by omega) rfl
    have := fidx_some (pred := pred) (l := r) (k := k) (a := a) (fun i b hi hb => h (i + 1) b (by omega) (by simpa using hb)) (by simpa using ha) hp
    simp [fidx, h0, this]
theorem fidx_none {α : Type} {pred : α → Bool} : ∀ {l : List α}, (∀ a ∈ l, pred a = false) → fidx pred l = none
  | [], _ => rfl
  | x :: r, h => by
    have := fidx_none (pred := pred) (l := r) fun a ha => h a (by simp [ha])
    simp [fidx, h x (by simp), this]

theorem c58 {h : AHeap} {v : AV} {l : List Alert} {f : Nat} {cap : List AV} {pred : Alert → Bool} (hv : IsSl 38 IsAl v l) (hl : l.length ≤ 1000) (hcap : cap.all AV.plain = true)
    (hf : ∀ a ∈ l, ∀ tg, ACalls PR f ([.agg (alc a tg)] ++ cap) h fun u h' => u = .bool (pred a) ∧ h = h') :
    ACalls PR 58 [v, .fn f [] cap] h fun u h' => u = .int .i64 (fidxI pred l) ∧ h = h' := by
  refine fn_sound at58 ok58 (Nat.le_of_ble_eq_true rfl) (afn ?_)
  show AW _ C58 _ _
  unfold C58
  have hN := hv.names
  refine nav ?_
  apply alenS rfl hv
  refine nav ?_
  refine aloop (fun q s => ∃ k : Nat, q + k = l.length ∧ (∀ (i : Nat) (b : Alert), i < k → l[i]? = some b → pred b = false) ∧ s = ⟨Env.of [(0, some v), (1, some (.fn f [] cap)), (7, some (.int .i64 l.length)), (8, some (.int .i64 k))], Loc.of [], h⟩) l.length ⟨0, by omega, fun i b hi => absurd hi (by omega), rfl⟩ ?_
  rintro q s' ⟨k, hq, hno, rfl⟩
  refine nav ?_
  refine acond rfl (fun hc => ?_) (fun hc => ?_)
  · have hlt : k < l.length := by have := of_decide_eq_true hc; omega
    have hla := List.getElem?_eq_getElem hlt
    have hmem := List.getElem_mem hlt
    obtain ⟨cs, t, c, rfl, hx, ta, hc2⟩ := hv.at hla
    have hxe : cs[k]? = some (alc l[k] ta) := by rw [hx, hc2]
    generalize l[k] = a at *
    have hfa := hf a hmem ta
    unfold alc at hxe
    refine nav ?_
    apply acallv monoR rfl (by rfl) hfa
    rintro _ _ ⟨rfl, rfl⟩
    refine ⟨rfl, ?_⟩
    refine nav ?_
    refine acond rfl (fun hp => ?_) (fun hp => ?_)
    · refine nav ?_
      apply qf rfl (by rfl) aheap_le
      exact ⟨by simp only [resV, fidxI, fidx_some hno hla hp], rfl⟩
    · refine naw ?_
      refine ql_n (q - 1) (by omega) ⟨k + 1, by omega, fun i b hi hb => ?_, rfl⟩
      rcases Nat.lt_or_ge i k with h1 | h1
      · exact hno i b h1 hb
      · have : i = k := by omega
        subst this
        rw [hla] at hb
        cases hb
        exact hp
  · have hge : l.length ≤ k := by have := of_decide_eq_false hc; omega
    refine nav ?_
    apply qf rfl (by rfl) aheap_le
    refine ⟨?_, rfl⟩
    have := fidx_none (pred := pred) (l := l) fun a ha => by
      obtain ⟨i, hi⟩ := List.getElem?_of_mem ha
      exact hno i a (by have := (List.getElem?_eq_some_iff.1 hi).1; omega) hi
    simp only [resV, fidxI, this]

theorem c47 {h : AHeap} {l : Nat} {a : Alert} {tg : Tag} {now : Int} (ho : h.os l = some (.arr 1 [[.int .i64 now]])) : ACalls PR 47 [.agg (alc a tg), .hp l 0 0] h fun u h' => u = .bool (decide (now < a.tm)) ∧ h = h' := by
  refine fn_sound at47 ok47 (Nat.le_of_ble_eq_true rfl) (afn ?_)
  show AW _ C47 _ _
  unfold C47
  unfold alc
  refine nav ?_
  apply qf rfl (by rfl) aheap_le
  exact ⟨rfl, rfl⟩

theorem c46 {h : AHeap} {v : AV} {l : List Alert} {f : Nat} {cap : List AV} (hv : IsSl 38 IsAl v l) (hl : l.length ≤ 1000) (hcap : cap.all AV.plain = true)
    (hf : ∀ a ∈ l, ∀ tg, ACalls PR f ([.agg (alc a tg)] ++ cap) h fun u h' => u = .bool false ∧ h = h') :
    ACalls PR 46 [v, .fn f [] cap] h fun u h' => u = .bool false ∧ h = h' := by
  refine fn_sound at46 ok46 (Nat.le_of_ble_eq_true rfl) (afn ?_)
  show AW _ C46 _ _
  unfold C46
  have hN := hv.names
  have k58 := c58 (h := h) (pred := fun _ => false) hv hl hcap hf
  have hi : fidxI (fun _ => false) l = -1 := by simp only [fidxI, fidx_none (l := l) (pred := fun _ => false) (fun _ _ => rfl)]
  rw [hi] at k58
  refine nav ?_
  apply acallpp monoR rfl (by simp only [List.all_cons, List.all_nil, AV.plain, hN]; rfl) k58
  rintro _ _ ⟨rfl, rfl⟩
  refine ⟨rfl, rfl, ?_⟩
  refine nav ?_
  apply qf rfl (by rfl) aheap_le
  exact ⟨rfl, rfl⟩

theorem c24 {h : AHeap} {p : Policy} {t : Tag} {v w : AV} {l : List Alert} {es : List Event} {number now : Int} (hp : p.good) (hv : IsSl 38 IsAl v l) (hw : IsSl 25 IsEv w es) (hli : LInv l number now) (hl : l.length ≤ 200) (hev : EvV es) (hn : 0 ≤ number ∧ number ≤ 1000) (hnow : 0 ≤ now ∧ now ≤ 1000000) :
    ACalls PR 24 [.agg (polc p t), v, .int .i64 number, w, .int .i64 now] h fun u h' => u = .int .i64 0 ∧ h = h' := by
  refine fn_sound at24 ok24 (Nat.le_of_ble_eq_true rfl) (afn ?_)
  show AW _ C24 _ _
  unfold C24
  unfold polc
  have hN : v.names = none ∧ w.names = none := ⟨hv.names, hw.names⟩
  refine nav ?_
  apply aboxh rfl (by rfl)
  intro l0 hl0
  have ho : (h.set l0 (some (.arr 1 [[.int .i64 now]]))).os l0 = some (.arr 1 [[.int .i64 now]]) := AHeap.os_set _ _ _
  have k44 := c44 (h := h.set l0 (some (.arr 1 [[.int .i64 now]]))) (p := p) (t := t) hp
  have k14 := c14 (h := h.set l0 (some (.arr 1 [[.int .i64 now]]))) hv hli hn.2 (by omega) hl
  have k45 := c45 (h := h.set l0 (some (.arr 1 [[.int .i64 now]]))) hw hev
  have hd1 : decide (number < 0) = false := decide_eq_false (by omega)
  have hd2 : decide (now < 0) = false := decide_eq_false (by omega)
  have hd3 : decide (now > 18014398509481984) = false := decide_eq_false (by omega)
  have hnt : (!true) = false := rfl
  repeat' (first | refine nat1 ?_ | (apply acallpp monoR rfl (by rfl) k44; rintro _ _ ⟨rfl, rfl⟩; refine ⟨rfl, rfl, ?_⟩) | (apply gcallpp rfl (by first | assumption | with_reducible rfl) monoR rfl (by rfl) k44; rintro _ _ ⟨rfl, rfl⟩; refine ⟨rfl, rfl, ?_⟩) | (refine gcallS1 rfl monoR rfl (by rfl) k44 (fun _ => ?_) (fun _ => ?_); rintro _ _ ⟨rfl, rfl⟩; refine ⟨rfl, rfl, ?_⟩) | (refine gcallS0 rfl monoR rfl (by rfl) k44 (fun _ => ?_) (fun _ => ?_); rintro _ _ ⟨rfl, rfl⟩; refine ⟨rfl, rfl, ?_⟩) | (apply aeqs rfl (by rfl) (by rfl); intro be hbe) | (apply gaeqs rfl (by first | assumption | with_reducible rfl) rfl (by rfl) (by rfl); intro be hbe) | refine gpassS1 rfl rfl rfl rfl rfl (fun _ => ?_) (fun _ => ?_) | refine gpassS0 rfl rfl rfl rfl rfl (fun _ => ?_) (fun _ => ?_) | refine psplitA rfl (fun _ => ?_) (fun _ => ?_) | refine acond rfl (fun _ => ?_) (fun _ => ?_))
  apply acallpp monoR rfl (by simp only [List.all_cons, List.all_nil, AV.plain, hN]; rfl) k14
  rintro _ _ ⟨rfl, rfl⟩
  refine ⟨rfl, rfl, ?_⟩
  refine nav ?_
  apply gcallpp rfl hnt monoR rfl (by simp only [List.all_cons, List.all_nil, AV.plain, hN]; rfl) k45
  rintro _ _ ⟨rfl, rfl⟩
  refine ⟨rfl, rfl, ?_⟩
  refine ojoin (fun s => s = ⟨Env.of [(1, some v), (9, some (.hp l0 0 0)), (15, some (.bool false))], Loc.of [], h.set l0 (some (.arr 1 [[.int .i64 now]]))⟩) (fun F' hE => ?_) ?_
  · rcases hv with ⟨rfl, rfl⟩ | ⟨cs, t', rfl, hcs⟩
    · repeat' (first | refine nat1 ?_ | (apply aeqs rfl (by rfl) (by rfl); intro be hbe) | (apply gaeqs rfl (by first | assumption | with_reducible rfl) rfl (by rfl) (by rfl); intro be hbe) | refine gpassS1 rfl rfl rfl rfl rfl (fun _ => ?_) (fun _ => ?_) | refine gpassS0 rfl rfl rfl rfl rfl (fun _ => ?_) (fun _ => ?_) | refine psplitA rfl (fun _ => ?_) (fun _ => ?_) | refine acond rfl (fun _ => ?_) (fun _ => ?_))
      all_goals first
        | (exact hE _ rfl)
        | (exfalso; simp_all; done)
    · have hcl : cs.length ≤ 1000 := by rw [hcs.len]; omega
      rcases Nat.eq_zero_or_pos cs.length with h0 | h0
      · have hdd : decide ((cs.length : Int) > 0) = false := by rw [h0]; rfl
        repeat' (first | refine nat1 ?_ | (apply aeqs rfl (by rfl) (by rfl); intro be hbe) | (apply gaeqs rfl (by first | assumption | with_reducible rfl) rfl (by rfl) (by rfl); intro be hbe) | refine gpassS1 rfl rfl rfl rfl rfl (fun _ => ?_) (fun _ => ?_) | refine gpassS0 rfl rfl rfl rfl rfl (fun _ => ?_) (fun _ => ?_) | refine psplitA rfl (fun _ => ?_) (fun _ => ?_) | refine acond rfl (fun _ => ?_) (fun _ => ?_))
        all_goals first
          | (exact hE _ rfl)
          | (exfalso; simp_all; done)
      · obtain ⟨x, y, h1, h2, ta, h3⟩ := hcs.get' (k := cs.length - 1) (by omega)
        have hlast : cs[((cs.length : Int) - 1).toNat]? = some (alc y ta) := by rw [show ((cs.length : Int) - 1).toNat = cs.length - 1 by omega, h1, h3]
        have hdd : decide ((cs.length : Int) > 0) = true := decide_eq_true (by omega)
        have hid := (hli.num y (List.mem_of_getElem? h2)).2
        have hde : decide (number ≤ y.id) = false := decide_eq_false (by omega)
        unfold alc at hlast
        repeat' (first | refine nat1 ?_ | (apply aeqs rfl (by rfl) (by rfl); intro be hbe) | (apply gaeqs rfl (by first | assumption | with_reducible rfl) rfl (by rfl) (by rfl); intro be hbe) | refine gpassS1 rfl rfl rfl rfl rfl (fun _ => ?_) (fun _ => ?_) | refine gpassS0 rfl rfl rfl rfl rfl (fun _ => ?_) (fun _ => ?_) | refine psplitA rfl (fun _ => ?_) (fun _ => ?_) | refine acond rfl (fun _ => ?_) (fun _ => ?_))
        all_goals first
          | (rw [hde]; exact hE _ rfl)
          | (exact hE _ rfl)
          | (exfalso; simp_all; done)
  rintro _ rfl
  have k47 : ∀ a ∈ l, ∀ tg, ACalls PR 47 ([.agg (alc a tg)] ++ [.hp l0 0 0]) (h.set l0 (some (.arr 1 [[.int .i64 now]]))) fun u h' => u = .bool false ∧ h.set l0 (some (.arr 1 [[.int .i64 now]])) = h' := fun a ha tg =>
    (c47 ho).mono fun u h' ⟨e1, e2⟩ => ⟨by rw [e1, decide_eq_false (by have := (hli.tms a ha).2; omega)], e2⟩
  have k46 := c46 hv (by omega) (by rfl) k47
  repeat' (first | refine nat1 ?_ | (apply aeqs rfl (by rfl) (by rfl); intro be hbe) | (apply gaeqs rfl (by first | assumption | with_reducible rfl) rfl (by rfl) (by rfl); intro be hbe) | refine gpassS1 rfl rfl rfl rfl rfl (fun _ => ?_) (fun _ => ?_) | refine gpassS0 rfl rfl rfl rfl rfl (fun _ => ?_) (fun _ => ?_) | refine psplitA rfl (fun _ => ?_) (fun _ => ?_) | refine acond rfl (fun _ => ?_) (fun _ => ?_))
  apply acallpp monoR rfl (by simp only [List.all_cons, List.all_nil, AV.plain, hN]; rfl) k46
  rintro _ _ ⟨rfl, rfl⟩
  refine ⟨rfl, rfl, ?_⟩
  repeat' (first | refine nat1 ?_ | (apply aeqs rfl (by rfl) (by rfl); intro be hbe) | (apply gaeqs rfl (by first | assumption | with_reducible rfl) rfl (by rfl) (by rfl); intro be hbe) | refine gpassS1 rfl rfl rfl rfl rfl (fun _ => ?_) (fun _ => ?_) | refine gpassS0 rfl rfl rfl rfl rfl (fun _ => ?_) (fun _ => ?_) | refine psplitA rfl (fun _ => ?_) (fun _ => ?_) | refine acond rfl (fun _ => ?_) (fun _ => ?_))
  apply qf (h' := h) rfl (by rfl) ?_
  · exact ⟨rfl, rfl⟩
  · refine ⟨fun j o hj => ?_, List.Sublist.refl _⟩
    have hne : j ≠ l0 := fun e => by rw [e, hl0] at hj; cases hj
    rw [os_ne _ _ hne]; exact hj
end Go.Proofs.Ytkdphdcpofcnjaa

/- K29: contracts of seat 36: copies. -/
namespace Go.Proofs.Ytkdphdcpofcnjaa
open Go Abs
set_option linter.unusedSimpArgs false
set_option linter.unusedVariables false
set_option maxHeartbeats 2000000
attribute [local irreducible] Go.IntKind.wrap

theorem c48 {h : AHeap} {ps : List Pick} {t : Tag} (hne : ps ≠ []) (hl : ps.length ≤ 1000) : ACalls PR 48 [.sl 9 (ps.map Pick.enc) t] h fun u h' => (∃ tg, u = .sl 9 (ps.map Pick.enc) tg) ∧ h = h' := by
  refine fn_sound at48 ok48 (Nat.le_of_ble_eq_true rfl) (afn ?_)
  show AW _ C48 _ _
  unfold C48
  repeat' (first | refine nat1 ?_ | (apply aeqs rfl (by rfl) (by rfl); intro be hbe) | (apply gaeqs rfl (by first | assumption | with_reducible rfl) rfl (by rfl) (by rfl); intro be hbe) | refine gpassS1 rfl rfl rfl rfl rfl (fun _ => ?_) (fun _ => ?_) | refine gpassS0 rfl rfl rfl rfl rfl (fun _ => ?_) (fun _ => ?_) | refine psplitA rfl (fun _ => ?_) (fun _ => ?_) | refine acond rfl (fun _ => ?_) (fun _ => ?_))
  apply aapp (tg := .full) (xs := []) (ys := ps.map Pick.enc) (tg' := t) rfl (.inr rfl) (by simpa using hne) (by simp; omega) (by simp) (by simp)
  intro t' ht
  repeat' (first | refine nat1 ?_ | (apply aeqs rfl (by rfl) (by rfl); intro be hbe) | (apply gaeqs rfl (by first | assumption | with_reducible rfl) rfl (by rfl) (by rfl); intro be hbe) | refine gpassS1 rfl rfl rfl rfl rfl (fun _ => ?_) (fun _ => ?_) | refine gpassS0 rfl rfl rfl rfl rfl (fun _ => ?_) (fun _ => ?_) | refine psplitA rfl (fun _ => ?_) (fun _ => ?_) | refine acond rfl (fun _ => ?_) (fun _ => ?_))
  apply qf (h' := h) rfl (by rfl) ⟨fun _ _ h => h, List.sublist_cons_self _ _⟩
  exact ⟨⟨_, rfl⟩, rfl⟩

theorem c26 {h : AHeap} {v : Event} {t : Tag} (hv : v.good) : ACalls PR 26 [.agg (evc v t)] h fun u h' => (∃ tg, u = .agg (evc v tg)) ∧ h = h' := by
  have hl := hv.2.1
  refine fn_sound at26 ok26 (Nat.le_of_ble_eq_true rfl) (afn ?_)
  show AW _ C26 _ _
  unfold C26
  unfold evc
  refine nav ?_
  apply acallpp monoR rfl (by rfl) (c48 (t := t) hv.1 (by omega))
  rintro _ _ ⟨⟨tg, rfl⟩, rfl⟩
  refine ⟨rfl, rfl, ?_⟩
  refine nav ?_
  apply qf rfl (by rfl) aheap_le
  exact ⟨⟨tg, rfl⟩, rfl⟩

/-- Alerts in a mutable array, or none. -/
def ArrA (h : AHeap) (l : List Alert) (u : AV) (h' : AHeap) : Prop :=
  (l = [] ∧ (u = .nils ∨ u = .sl 38 [] .full) ∧ h' = h) ∨
  ∃ (l2 c : Nat) (cs rest : List (List AV)), u = .hm l2 38 0 l.length c ∧ l ≠ [] ∧ c = cs.length + rest.length ∧ All2 IsAl cs l ∧ h.os l2 = none ∧ h' = h.set l2 (some (.arr 38 (cs ++ rest)))
theorem ArrA.names {h : AHeap} {l : List Alert} {u : AV} {h' : AHeap} (a : ArrA h l u h') : u.names = none := by
  rcases a with ⟨_, rfl | rfl, _⟩ | ⟨l2, c, cs, rest, rfl, _⟩ <;> rfl

theorem c49 {h : AHeap} {v : AV} {l : List Alert} (hv : IsSl 38 IsAl v l) (hl : l.length ≤ 1000) : ACalls PR 49 [v] h (ArrA h l) := by
  refine fn_sound at49 ok49 (Nat.le_of_ble_eq_true rfl) (afn ?_)
  show AW _ C49 _ _
  unfold C49
  rcases hv with ⟨rfl, rfl⟩ | ⟨cs, t, rfl, hcs⟩
  · repeat' (first | refine nat1 ?_ | (apply aeqs rfl (by rfl) (by rfl); intro be hbe) | (apply gaeqs rfl (by first | assumption | with_reducible rfl) rfl (by rfl) (by rfl); intro be hbe) | refine gpassS1 rfl rfl rfl rfl rfl (fun _ => ?_) (fun _ => ?_) | refine gpassS0 rfl rfl rfl rfl rfl (fun _ => ?_) (fun _ => ?_) | refine psplitA rfl (fun _ => ?_) (fun _ => ?_) | refine acond rfl (fun _ => ?_) (fun _ => ?_))
    · apply qf rfl (by rfl) aheap_le
      exact .inl ⟨rfl, .inl rfl, rfl⟩
    · exfalso; simp_all
  · repeat' (first | refine nat1 ?_ | (apply aeqs rfl (by rfl) (by rfl); intro be hbe) | (apply gaeqs rfl (by first | assumption | with_reducible rfl) rfl (by rfl) (by rfl); intro be hbe) | refine gpassS1 rfl rfl rfl rfl rfl (fun _ => ?_) (fun _ => ?_) | refine gpassS0 rfl rfl rfl rfl rfl (fun _ => ?_) (fun _ => ?_) | refine psplitA rfl (fun _ => ?_) (fun _ => ?_) | refine acond rfl (fun _ => ?_) (fun _ => ?_))
    rcases hcs with _ | ⟨hx, htl⟩
    · refine aact rfl rfl ⟨[], .inr ⟨t, rfl⟩, fun _ => ⟨rfl, ⟨fun x hx => (by cases hx), ?_⟩⟩, fun e => absurd rfl e⟩
      repeat' (first | refine nat1 ?_ | (apply aeqs rfl (by rfl) (by rfl); intro be hbe) | (apply gaeqs rfl (by first | assumption | with_reducible rfl) rfl (by rfl) (by rfl); intro be hbe) | refine gpassS1 rfl rfl rfl rfl rfl (fun _ => ?_) (fun _ => ?_) | refine gpassS0 rfl rfl rfl rfl rfl (fun _ => ?_) (fun _ => ?_) | refine psplitA rfl (fun _ => ?_) (fun _ => ?_) | refine acond rfl (fun _ => ?_) (fun _ => ?_))
      apply qf rfl (by rfl) aheap_le
      exact .inl ⟨rfl, .inr rfl, rfl⟩
    · rename_i c y cs l
      have hll := (All2.cons hx htl).len
      apply aappm0 rfl (.inr rfl) (by simp) (by rw [hll]; omega)
      intro l2 c2 hl2 hc2
      repeat' (first | refine nat1 ?_ | (apply aeqs rfl (by rfl) (by rfl); intro be hbe) | (apply gaeqs rfl (by first | assumption | with_reducible rfl) rfl (by rfl) (by rfl); intro be hbe) | refine gpassS1 rfl rfl rfl rfl rfl (fun _ => ?_) (fun _ => ?_) | refine gpassS0 rfl rfl rfl rfl rfl (fun _ => ?_) (fun _ => ?_) | refine psplitA rfl (fun _ => ?_) (fun _ => ?_) | refine acond rfl (fun _ => ?_) (fun _ => ?_))
      apply qf rfl (by rfl) aheap_le
      refine .inr ⟨l2, c2, c :: cs, _, by rw [hll]; rfl, by simp, ?_, .cons hx htl, hl2, rfl⟩
      rw [List.length_replicate]; omega
end Go.Proofs.Ytkdphdcpofcnjaa

/- K30: contracts of seat 36: all. -/
namespace Go.Proofs.Ytkdphdcpofcnjaa
open Go Abs
set_option linter.unusedSimpArgs false
set_option linter.unusedVariables false
set_option maxHeartbeats 2000000
attribute [local irreducible] Go.IntKind.wrap

theorem c27 {h : AHeap} {v : AV} {l : List Alert} (hv : IsSl 38 IsAl v l) (hl : l.length ≤ 1000) (hg : ∀ a ∈ l, a.ev.good) : ACalls PR 27 [v] h (ArrA h l) := by
  refine fn_sound at27 ok27 (Nat.le_of_ble_eq_true rfl) (afn ?_)
  show AW _ C27 _ _
  unfold C27
  have hN := hv.names
  refine nav ?_
  apply acall monoR rfl (by simp only [List.all_cons, List.all_nil, AV.plain, hN]; rfl) (c49 hv hl)
  rintro u h1 hA
  refine ⟨by simp only [AV.plain, hA.names]; rfl, ?_⟩
  have hN := hA.names
  rcases hA with ⟨rfl, hu, hh⟩ | ⟨l2, c, cs, rest, rfl, hne, hc, hcs, hl2, rfl⟩
  · obtain rfl : h = h1 := hh.symm
    have hlt0 : decide ((0 : Int) < 0) = false := rfl
    rcases hu with rfl | rfl
    · refine nav ?_
      refine aloop (fun q s => s = ⟨Env.of [(3, some .nils), (8, some (.int .i64 0)), (9, some (.int .i64 0))], Loc.of [], h⟩) 0 rfl ?_
      rintro q s' rfl
      repeat' (first | refine nat1 ?_ | (apply aeqs rfl (by rfl) (by rfl); intro be hbe) | (apply gaeqs rfl (by first | assumption | with_reducible rfl) rfl (by rfl) (by rfl); intro be hbe) | refine gpassS1 rfl rfl rfl rfl rfl (fun _ => ?_) (fun _ => ?_) | refine gpassS0 rfl rfl rfl rfl rfl (fun _ => ?_) (fun _ => ?_) | refine psplitA rfl (fun _ => ?_) (fun _ => ?_) | refine acond rfl (fun _ => ?_) (fun _ => ?_))
      all_goals first
        | (exfalso; simp_all; done)
        | (apply qf rfl (by rfl) aheap_le; exact .inl ⟨rfl, .inl rfl, rfl⟩)
    · refine nav ?_
      refine aloop (fun q s => s = ⟨Env.of [(3, some (.sl 38 [] .full)), (8, some (.int .i64 0)), (9, some (.int .i64 0))], Loc.of [], h⟩) 0 rfl ?_
      rintro q s' rfl
      repeat' (first | refine nat1 ?_ | (apply aeqs rfl (by rfl) (by rfl); intro be hbe) | (apply gaeqs rfl (by first | assumption | with_reducible rfl) rfl (by rfl) (by rfl); intro be hbe) | refine gpassS1 rfl rfl rfl rfl rfl (fun _ => ?_) (fun _ => ?_) | refine gpassS0 rfl rfl rfl rfl rfl (fun _ => ?_) (fun _ => ?_) | refine psplitA rfl (fun _ => ?_) (fun _ => ?_) | refine acond rfl (fun _ => ?_) (fun _ => ?_))
      all_goals first
        | (exfalso; simp_all; done)
        | (apply qf rfl (by rfl) aheap_le; exact .inl ⟨rfl, .inr rfl, rfl⟩)
  · refine nav ?_
    refine aloop (fun q s => ∃ (k : Nat) (cs : List (List AV)), q + k = l.length ∧ All2 IsAl cs l ∧ s = ⟨Env.of [(3, some (.hm l2 38 0 l.length c)), (8, some (.int .i64 l.length)), (9, some (.int .i64 k))], Loc.of [], h.set l2 (some (.arr 38 (cs ++ rest)))⟩) l.length ⟨0, cs, by omega, hcs, rfl⟩ ?_
    have hcl := hcs.len
    clear hcs
    rintro q s' ⟨k, cs', hq, hcs, rfl⟩
    have hcl' := hcs.len
    refine nav ?_
    refine acond rfl (fun hc2 => ?_) (fun hc2 => ?_)
    · have hlt : k < l.length := by have := of_decide_eq_true hc2; omega
      have hla := List.getElem?_eq_getElem hlt
      have hga := hg _ (List.getElem_mem hlt)
      obtain ⟨e, he, ta, hea⟩ := hcs.get k hla
      have hx : (cs' ++ rest)[0 + k]? = some (alc l[k] ta) := by rw [Nat.zero_add, List.getElem?_append_left (by omega), he, hea]
      have hlen : 0 + k < (cs' ++ rest).length := by simp; omega
      have hset : ∀ tg, (cs' ++ rest).set (0 + k) (alc l[k] tg) = cs'.set k (alc l[k] tg) ++ rest := fun tg => by rw [Nat.zero_add, List.set_append_left _ _ (by omega)]
      have hall : ∀ tg, All2 IsAl (cs'.set k (alc l[k] tg)) l := fun tg => by
        have := hcs.set k (x := alc l[k] tg) (y := l[k]) ⟨tg, rfl⟩
        rwa [List.set_getElem_self] at this
      generalize l[k] = a at *
      have ho : (h.set l2 (some (.arr 38 (cs' ++ rest)))).os l2 = some (.arr 38 (cs' ++ rest)) := AHeap.os_set _ _ _
      unfold alc at hx
      refine nav ?_
      apply acallpp monoR rfl (by rfl) (c26 (v := a.ev) (t := ta) hga)
      rintro _ _ ⟨⟨tg, rfl⟩, rfl⟩
      refine ⟨rfl, rfl, ?_⟩
      unfold evc
      refine nav ?_
      apply asthE rfl (by rfl) (by rfl) ho hx (by simp)
      rw [set_set]
      refine naw ?_
      refine ql_n (q - 1) (by omega) ⟨k + 1, _, by omega, hall tg, ?_⟩
      rw [← hset tg]
      rfl
    · refine nav ?_
      apply qf rfl (by rfl) aheap_le
      exact .inr ⟨l2, c, cs', rest, rfl, hne, by omega, hcs, hl2, rfl⟩
end Go.Proofs.Ytkdphdcpofcnjaa

/- K31: contracts of seat 36: shared picks (some truth value). -/
namespace Go.Proofs.Ytkdphdcpofcnjaa
open Go Abs
set_option linter.unusedSimpArgs false
set_option linter.unusedVariables false
set_option maxHeartbeats 2000000
attribute [local irreducible] Go.IntKind.wrap

theorem c76 {h : AHeap} {ps : List Pick} {t : Tag} {p : Pick} (hl : ps.length ≤ 1000) : ACalls PR 76 [.sl 9 (ps.map Pick.enc) t, .agg p.enc] h (SomeI h) := by
  refine fn_sound at76 ok76 (Nat.le_of_ble_eq_true rfl) (afn ?_)
  show AW _ C76 _ _
  unfold C76
  refine nav ?_
  rw [List.length_map]
  refine aloop (fun q s => ∃ k : Nat, q + k = ps.length ∧ s = ⟨Env.of [(0, some (.sl 9 (ps.map Pick.enc) t)), (3, some (.lp 3 0 0)), (7, some (.int .i64 ps.length)), (8, some (.int .i64 k))], Loc.of [(3, some (.arr 9 [p.enc]))], h⟩) ps.length ⟨0, by omega, rfl⟩ ?_
  rintro q s' ⟨k, hq, rfl⟩
  unfold Pick.enc
  refine nav ?_
  refine acond rfl (fun hc => ?_) (fun hc => ?_)
  · have hlt : k < ps.length := by have := of_decide_eq_true hc; omega
    obtain ⟨b, hb, he⟩ := pick_get hlt
    unfold Pick.enc at he
    repeat' (first | refine nat1 ?_ | (apply aeqs rfl (by rfl) (by rfl); intro be hbe) | (apply gaeqs rfl (by first | assumption | with_reducible rfl) rfl (by rfl) (by rfl); intro be hbe) | refine gpassS1 rfl rfl rfl rfl rfl (fun _ => ?_) (fun _ => ?_) | refine gpassS0 rfl rfl rfl rfl rfl (fun _ => ?_) (fun _ => ?_) | refine psplitA rfl (fun _ => ?_) (fun _ => ?_) | refine acond rfl (fun _ => ?_) (fun _ => ?_))
    all_goals first
      | exact ql_n (q - 1) (by omega) ⟨k + 1, by omega, rfl⟩
      | (apply qf rfl (by rfl) aheap_le; exact ⟨⟨_, rfl⟩, rfl⟩)
  · refine nav ?_
    apply qf rfl (by rfl) aheap_le
    exact ⟨⟨_, rfl⟩, rfl⟩
theorem c57 {h : AHeap} {ps : List Pick} {t : Tag} {p : Pick} (hl : ps.length ≤ 1000) : ACalls PR 57 [.sl 9 (ps.map Pick.enc) t, .agg p.enc] h (SomeB h) := by
  refine fn_sound at57 ok57 (Nat.le_of_ble_eq_true rfl) (afn ?_)
  show AW _ C57 _ _
  unfold C57
  have k76 := c76 (h := h) (ps := ps) (t := t) (p := p) hl
  unfold Pick.enc at k76 ⊢
  repeat' (first | refine nat1 ?_ | (apply acallpp monoR rfl (by rfl) k76; rintro _ _ ⟨⟨_, rfl⟩, rfl⟩; refine ⟨rfl, rfl, ?_⟩) | (apply gcallpp rfl (by first | assumption | with_reducible rfl) monoR rfl (by rfl) k76; rintro _ _ ⟨⟨_, rfl⟩, rfl⟩; refine ⟨rfl, rfl, ?_⟩) | (refine gcallS1 rfl monoR rfl (by rfl) k76 (fun _ => ?_) (fun _ => ?_); rintro _ _ ⟨⟨_, rfl⟩, rfl⟩; refine ⟨rfl, rfl, ?_⟩) | (refine gcallS0 rfl monoR rfl (by rfl) k76 (fun _ => ?_) (fun _ => ?_); rintro _ _ ⟨⟨_, rfl⟩, rfl⟩; refine ⟨rfl, rfl, ?_⟩) | (apply aeqs rfl (by rfl) (by rfl); intro be hbe) | (apply gaeqs rfl (by first | assumption | with_reducible rfl) rfl (by rfl) (by rfl); intro be hbe) | refine gpassS1 rfl rfl rfl rfl rfl (fun _ => ?_) (fun _ => ?_) | refine gpassS0 rfl rfl rfl rfl rfl (fun _ => ?_) (fun _ => ?_) | refine psplitA rfl (fun _ => ?_) (fun _ => ?_) | refine acond rfl (fun _ => ?_) (fun _ => ?_))
  apply qf rfl (by rfl) aheap_le
  exact ⟨⟨_, rfl⟩, rfl⟩
theorem c56 {h : AHeap} {l : Nat} {v : Event} {t : Tag} {p : Pick} (ho : h.os l = some (.arr 25 [evc v t])) (hl : v.picks.length ≤ 1000) : ACalls PR 56 [.agg p.enc, .hp l 0 0] h (SomeB h) := by
  refine fn_sound at56 ok56 (Nat.le_of_ble_eq_true rfl) (afn ?_)
  show AW _ C56 _ _
  unfold C56
  have k57 := c57 (h := h) (ps := v.picks) (t := t) (p := p) hl
  unfold evc at ho
  unfold Pick.enc at k57 ⊢
  repeat' (first | refine nat1 ?_ | (apply acallpp monoR rfl (by rfl) k57; rintro _ _ ⟨⟨_, rfl⟩, rfl⟩; refine ⟨rfl, rfl, ?_⟩) | (apply gcallpp rfl (by first | assumption | with_reducible rfl) monoR rfl (by rfl) k57; rintro _ _ ⟨⟨_, rfl⟩, rfl⟩; refine ⟨rfl, rfl, ?_⟩) | (refine gcallS1 rfl monoR rfl (by rfl) k57 (fun _ => ?_) (fun _ => ?_); rintro _ _ ⟨⟨_, rfl⟩, rfl⟩; refine ⟨rfl, rfl, ?_⟩) | (refine gcallS0 rfl monoR rfl (by rfl) k57 (fun _ => ?_) (fun _ => ?_); rintro _ _ ⟨⟨_, rfl⟩, rfl⟩; refine ⟨rfl, rfl, ?_⟩) | (apply aeqs rfl (by rfl) (by rfl); intro be hbe) | (apply gaeqs rfl (by first | assumption | with_reducible rfl) rfl (by rfl) (by rfl); intro be hbe) | refine gpassS1 rfl rfl rfl rfl rfl (fun _ => ?_) (fun _ => ?_) | refine gpassS0 rfl rfl rfl rfl rfl (fun _ => ?_) (fun _ => ?_) | refine psplitA rfl (fun _ => ?_) (fun _ => ?_) | refine acond rfl (fun _ => ?_) (fun _ => ?_))
  apply qf rfl (by rfl) aheap_le
  exact ⟨⟨_, rfl⟩, rfl⟩
theorem c75 {h : AHeap} {ps : List Pick} {t : Tag} {f : Nat} {cap : List AV} (hl : ps.length ≤ 1000) (hcap : cap.all AV.plain = true) (hf : ∀ p : Pick, ACalls PR f ([.agg p.enc] ++ cap) h (SomeB h)) :
    ACalls PR 75 [.sl 9 (ps.map Pick.enc) t, .fn f [] cap] h (SomeI h) := by
  refine fn_sound at75 ok75 (Nat.le_of_ble_eq_true rfl) (afn ?_)
  show AW _ C75 _ _
  unfold C75
  refine nav ?_
  rw [List.length_map]
  refine aloop (fun q s => ∃ k : Nat, q + k = ps.length ∧ s = ⟨Env.of [(0, some (.sl 9 (ps.map Pick.enc) t)), (1, some (.fn f [] cap)), (7, some (.int .i64 ps.length)), (8, some (.int .i64 k))], Loc.of [], h⟩) ps.length ⟨0, by omega, rfl⟩ ?_
  rintro q s' ⟨k, hq, rfl⟩
  refine nav ?_
  refine acond rfl (fun hc => ?_) (fun hc => ?_)
  · have hlt : k < ps.length := by have := of_decide_eq_true hc; omega
    obtain ⟨b, hb, he⟩ := pick_get hlt
    have hfb := hf b
    unfold Pick.enc at he
    refine nav ?_
    apply acallv monoR rfl (by rfl) hfb
    rintro _ _ ⟨⟨b, rfl⟩, rfl⟩
    refine ⟨rfl, ?_⟩
    repeat' (first | refine nat1 ?_ | (apply aeqs rfl (by rfl) (by rfl); intro be hbe) | (apply gaeqs rfl (by first | assumption | with_reducible rfl) rfl (by rfl) (by rfl); intro be hbe) | refine gpassS1 rfl rfl rfl rfl rfl (fun _ => ?_) (fun _ => ?_) | refine gpassS0 rfl rfl rfl rfl rfl (fun _ => ?_) (fun _ => ?_) | refine psplitA rfl (fun _ => ?_) (fun _ => ?_) | refine acond rfl (fun _ => ?_) (fun _ => ?_))
    all_goals first
      | exact ql_n (q - 1) (by omega) ⟨k + 1, by omega, rfl⟩
      | (apply qf rfl (by rfl) aheap_le; exact ⟨⟨_, rfl⟩, rfl⟩)
  · refine nav ?_
    apply qf rfl (by rfl) aheap_le
    exact ⟨⟨_, rfl⟩, rfl⟩
theorem c55 {h : AHeap} {ps : List Pick} {t : Tag} {f : Nat} {cap : List AV} (hl : ps.length ≤ 1000) (hcap : cap.all AV.plain = true) (hf : ∀ p : Pick, ACalls PR f ([.agg p.enc] ++ cap) h (SomeB h)) :
    ACalls PR 55 [.sl 9 (ps.map Pick.enc) t, .fn f [] cap] h (SomeB h) := by
  refine fn_sound at55 ok55 (Nat.le_of_ble_eq_true rfl) (afn ?_)
  show AW _ C55 _ _
  unfold C55
  have k75 := c75 (t := t) hl hcap hf
  refine nav ?_
  apply acallpp monoR rfl (by rfl) k75
  rintro _ _ ⟨⟨b, rfl⟩, rfl⟩
  refine ⟨rfl, rfl, ?_⟩
  repeat' (first | refine nat1 ?_ | (apply aeqs rfl (by rfl) (by rfl); intro be hbe) | (apply gaeqs rfl (by first | assumption | with_reducible rfl) rfl (by rfl) (by rfl); intro be hbe) | refine gpassS1 rfl rfl rfl rfl rfl (fun _ => ?_) (fun _ => ?_) | refine gpassS0 rfl rfl rfl rfl rfl (fun _ => ?_) (fun _ => ?_) | refine psplitA rfl (fun _ => ?_) (fun _ => ?_) | refine acond rfl (fun _ => ?_) (fun _ => ?_))
  apply qf rfl (by rfl) aheap_le
  exact ⟨⟨_, rfl⟩, rfl⟩
theorem c33 {h : AHeap} {v w : Event} {t t' : Tag} (hv : v.picks.length ≤ 1000) (hw : w.picks.length ≤ 1000) : ACalls PR 33 [.agg (evc v t), .agg (evc w t')] h (SomeB h) := by
  refine fn_sound at33 ok33 (Nat.le_of_ble_eq_true rfl) (afn ?_)
  show AW _ C33 _ _
  unfold C33
  unfold evc
  refine nav ?_
  apply aboxh rfl (by rfl)
  intro l0 hl0
  have ho : (h.set l0 (some (.arr 25 [evc w t']))).os l0 = some (.arr 25 [evc w t']) := AHeap.os_set _ _ _
  have k55 := c55 (h := h.set l0 (some (.arr 25 [evc w t']))) (ps := v.picks) (t := t) (f := 56) (cap := [.hp l0 0 0]) hv (by rfl) fun p => c56 ho hw
  refine nav ?_
  apply acallpp monoR rfl (by rfl) k55
  rintro _ _ ⟨⟨b, rfl⟩, rfl⟩
  refine ⟨rfl, rfl, ?_⟩
  repeat' (first | refine nat1 ?_ | (apply aeqs rfl (by rfl) (by rfl); intro be hbe) | (apply gaeqs rfl (by first | assumption | with_reducible rfl) rfl (by rfl) (by rfl); intro be hbe) | refine gpassS1 rfl rfl rfl rfl rfl (fun _ => ?_) (fun _ => ?_) | refine gpassS0 rfl rfl rfl rfl rfl (fun _ => ?_) (fun _ => ?_) | refine psplitA rfl (fun _ => ?_) (fun _ => ?_) | refine acond rfl (fun _ => ?_) (fun _ => ?_))
  apply qf (h' := h) rfl (by rfl) ?_
  · exact ⟨⟨_, rfl⟩, rfl⟩
  · refine ⟨fun j o hj => ?_, List.Sublist.refl _⟩
    have hne : j ≠ l0 := fun e => by rw [e, hl0] at hj; cases hj
    rw [os_ne _ _ hne]; exact hj
end Go.Proofs.Ytkdphdcpofcnjaa
