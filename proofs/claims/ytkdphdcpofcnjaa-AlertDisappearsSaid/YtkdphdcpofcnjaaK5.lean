/- Part of the proofs of the statements on alerts: texts that the last text is built on. -/
import Derived.Test.YtkdphdcpofcnjaaK4
import Derived.Test.YtkdphdcpofcnjaaRows
import Derived.ProofKit
import Derived.Carry
import Derived.ChangeSame
/- K40: seat 36: from a contract to a row. -/
namespace Go.Proofs.Ytkdphdcpofcnjaa
open Go Abs Go.ChangeShapes Go.WideShapes Go.ChangeAt Go.RowKit
set_option linter.unusedSimpArgs false
set_option linter.unusedVariables false

theorem law_own : ownKnob Try.prog.godebug = none := by kernel_rfl
theorem law_laidOut : laidOutB Try.prog = true := by kernel_rfl
theorem law_cells3 : Try.prog.cellsOf 3 = 1 := by kernel_rfl

/-- All that lies in a world is known, and nothing of it is the call's own. -/
def memAll (w : World) : Mem := ⟨fun b o => cellH w.heap b o, fun _ => none, fun _ => none, 0⟩
theorem wrel_all (w : World) : WRel (memAll w) (fun _ => none) AHeap.bare w.heap :=
  ⟨fun b o v h => h, fun b o l h => by simp at h, fun b o d h => by simp at h, fun b o t i h => by simp at h, fun b x h => by simp at h, fun l o h => by simp [AHeap.bare] at h, fun t h => by simp [AHeap.bare] at h, by simp [AHeap.bare], fun l h => ⟨rfl, rfl⟩, fun b t h => by simp at h⟩

theorem law_run {f : Nat} {args : List AV} {cargs : Array Value} {W : World} (hc : ACalls PR f args AHeap.bare fun u _ => u = .bool true) (ha : VRels (memAll W) args cargs) :
    Calls PR f cargs W fun e W' => e = .returned (.bool true) ∧ Kept W.heap.size W W' := by
  refine (acalls_at hc (wrel_all W) (Kept.refl _ W) ha).mono ?_
  rintro e W' ⟨u, cv, m', h', he, rfl, hv, hk⟩
  cases hv
  exact ⟨he, hk⟩

theorem kept_frame {W W' : World} (h : Kept W.heap.size W W') (may : MemPlace → Prop) : W.keptBut W' may := by
  refine ⟨h.outs.1, h.outs.2, fun i hi => ?_⟩
  rw [h.block i hi]
  split <;> simp_all
theorem kept_same {W W' : World} (h : Kept W.heap.size W W') {p : MemPlace} (hp : p.block < W.heap.size) : W.sameAt W' p := by
  cases p with
  | cell b o => exact World.cell?_of_block (w := W) (h.block b hp)
  | map b =>
    have := h.block b hp
    simp_all [World.sameAt]

section
variable {H : Type} {enc : TypeId × Value → H} {P : Program}
theorem post_of_kept {f : Func} {s : ChangeSpec} {apart fresh handsOn again : Bool} {W W' : World} {args : Array Value} {v : Value} {ds gs : List (DataW H)} {before pa pv : List MemPlace}
    (hW : DataW.Whole enc P f.params.toList s.vars apart W args.toList ds gs before)
    (hres : ∀ (b : Nat) (sp : Nat → Bool) (hd : Bool), DataW.TrodAll enc P W' b sp hd f.resultTypes.toList (v.resultList f.resultTypes.size) (s.fn H (ds ++ gs)).results [])
    (hargs : ∀ sp : Nat → Bool, (∀ p ∈ before, sp p.block = true) → DataW.TrodAll enc P W' 0 sp true f.params.toList args.toList (s.fn H (ds ++ gs)).args pa)
    (hvars : ∀ sp : Nat → Bool, (∀ p ∈ before, sp p.block = true) → DataW.TrodVars enc P W' sp s.vars (s.fn H (ds ++ gs)).vars pv)
    (hps : before = pa ++ pv) (hb : Kept W.heap.size W W')
    (hok : ∀ (j : Nat) (t : TypeId) (r : Value), f.resultTypes[j]? = some t → (v.resultList f.resultTypes.size)[j]? = some r → Value.okWide P W' .any 0 t r) :
    s.post enc P f apart fresh handsOn again W args v W' := by
  have hlt : ∀ p ∈ before, p.block < W.heap.size := fun p hp => hW.lt p hp
  have hold : ∀ p ∈ before, (fun b => decide (b < W.heap.size)) p.block = true := fun p hp => by simpa using hlt p hp
  refine ⟨ds, gs, before, [], pa, pv, hW, hres _ _ _, hargs _ hold, hvars _ hold, World.keptBut_mono (fun p hp => ⟨hp, ?_⟩) (kept_frame hb (· ∈ before)), fun _ => ?_⟩
  · rw [hps, List.mem_append] at hp
    exact Or.inr hp
  · obtain ⟨_, _, _, _, _, hz, hn⟩ := hW
    refine ⟨hok, _, _, ([] ++ pa) ++ pv, ⟨[] ++ pa, pv, trodAll_append (hargs _ (fun _ _ => rfl)) (hres _ _ _), hvars _ (fun _ _ => rfl), rfl, ?_, ?_⟩, ?_⟩
    · intro b off hp
      have hin : MemPlace.cell b off ∈ before := by rw [hps]; simpa using hp
      rw [World.frozen?_of_block (w := W) (hb.block b (hlt _ hin))]
      exact hz b off hin
    · intro ha
      have := hn ha
      rw [hps] at this
      simpa using this
    · intro p hp _
      rw [hps]
      simpa using hp
end

set_option maxRecDepth 100000 in
/-- A list of numbers as it comes in. -/
theorem ints_arg {H : Type} {enc : TypeId × Value → H} {W : World} {v : Value} {d : DataW H} {p : List MemPlace} (hok : Value.okWide Try.prog W .any 0 22 v) (h : DataW.Trod enc Try.prog W 0 (fun _ => true) true 22 v d p) :
    ∃ rv xs, IsInts rv xs ∧ VRel (memAll W) rv v := by
  obtain ⟨a0, len, cap, rfl⟩ := okWide_slice Try.underlying22 hok
  obtain ⟨fuel, hf⟩ := h
  rcases open_ints Try.underlying22 Try.underlying3 law_cells3 hf with ⟨hcs, _⟩ | ⟨a, len', cap', zs, hcs, _, hl, hm, hz, _, hcell, _⟩
  · simp [Value.cells] at hcs
    obtain ⟨rfl, rfl, rfl⟩ := hcs
    exact ⟨.nils, [], .inl ⟨rfl, rfl⟩, .nils⟩
  · simp [Value.cells] at hcs
    obtain ⟨rfl, rfl, rfl⟩ := hcs
    simp only [if_true] at hz
    unfold maxLen at hm
    rcases Nat.eq_zero_or_pos cap with h0 | h0
    · subst h0
      obtain rfl : len = 0 := by omega
      exact ⟨.sl 1 (ints []) .no, [], .inr ⟨_, rfl⟩, .sl0 a (.inr rfl)⟩
    · obtain ⟨b, off, spot⟩ := a
      have hspot : spot = none := by simpa [Addr.add] using World.cell?_spot (hcell 0 (by omega))
      subst hspot
      have hlen : (zs.take len).length = len := by rw [List.length_take]; omega
      refine ⟨.sl 1 (ints (zs.take len)) .no, zs.take len, .inr ⟨_, rfl⟩, ?_⟩
      have hli : (ints (zs.take len)).length = len := by rw [ints_len, hlen]
      have hget : ∀ (i : Nat) (e : List AV) (j : Nat) (c : AV), (ints (zs.take len))[i]? = some e → e[j]? = some c → j = 0 ∧ i < len ∧ c = .int .i64 (zs.getD i 0) := fun i e j c h1 h2 => by
        have hi : i < len := by have := (List.getElem?_eq_some_iff.1 h1).1; omega
        rw [ints_get (by omega)] at h1
        have h1 := Option.some.inj h1
        subst h1
        cases j with
        | zero =>
          simp at h2
          subst h2
          refine ⟨rfl, hi, ?_⟩
          simp [List.getD, List.getElem?_eq_getElem (show i < zs.length by omega)]
        | succ j => simp at h2
      have := VRel.sl (m := memAll W) (s := 1) (xs := ints (zs.take len)) (t := .no) (b := b) (o := off) (cap := cap) (fun k => .int .i64 (zs.getD k 0)) (fun e he => ?_) (by omega) (fun i e j c h1 h2 => ?_) (fun i e j c h1 h2 => ?_) trivial
      · rw [hli] at this
        exact this
      · obtain ⟨x, _, rfl⟩ := List.mem_map.1 he
        rfl
      · obtain ⟨rfl, hi, rfl⟩ := hget i e j c h1 h2
        refine ⟨?_, rfl⟩
        show cellH W.heap b (off + (i * 1 + 0)) = _
        rw [← cell_eq, Nat.mul_one, Nat.add_zero]
        have := hcell i (by omega)
        rw [add_plain] at this
        exact this
      · obtain ⟨rfl, hi, rfl⟩ := hget i e j c h1 h2
        rw [Nat.mul_one, Nat.add_zero]
        exact .int _ _

theorem vrels_one {m : Mem} {v : AV} {cv : Value} (h : VRel m v cv) : VRels m [v] #[cv] := ⟨rfl, fun i c x h1 h2 => by
  cases i with
  | zero => simp at h1 h2; subst h1 h2; exact h
  | succ i => simp at h1⟩
end Go.Proofs.Ytkdphdcpofcnjaa
