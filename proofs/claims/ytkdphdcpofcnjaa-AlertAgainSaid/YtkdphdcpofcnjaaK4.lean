/- Part of the proofs of the statements on alerts: texts that the last text is built on. -/
import Derived.Test.YtkdphdcpofcnjaaK3
/- K32: seat 36: the program's Follow, its plain facts. -/
namespace Go.Proofs.Ytkdphdcpofcnjaa
open Go Abs
set_option linter.unusedSimpArgs false
set_option linter.unusedVariables false
set_option maxHeartbeats 2000000

open Classical in
/-- The first event of a name. -/
noncomputable def evIdx (es : List Event) (p : Pick) : Option Nat := fidx (fun e => decide (e.name = p)) es
def idxFrom : Nat → List Event → List (List AV × AV)
  | _, [] => []
  | n, e :: r => (e.name.enc, .int .i64 n) :: idxFrom (n + 1) r
theorem idxFrom_snoc : ∀ {n : Nat} {es : List Event} {e : Event}, idxFrom n (es ++ [e]) = idxFrom n es ++ [(e.name.enc, .int .i64 ((n + es.length : Nat) : Int))]
  | n, [], e => by simp [idxFrom]
  | n, x :: r, e => by
    have := idxFrom_snoc (n := n + 1) (es := r) (e := e)
    simp only [List.cons_append, idxFrom, this, List.length_cons]
    rw [show n + 1 + r.length = n + (r.length + 1) by omega]
theorem idxFrom_keys : ∀ {n : Nat} {es : List Event}, (idxFrom n es).map Prod.fst = es.map fun e => e.name.enc
  | n, [] => rfl
  | n, x :: r => by simp [idxFrom, idxFrom_keys]
open Classical in
theorem find_idxFrom {p : Pick} : ∀ {n : Nat} {es : List Event}, findE (idxFrom n es) p.enc = (evIdx es p).map fun i => AV.int .i64 ((n + i : Nat) : Int)
  | n, [] => rfl
  | n, x :: r => by
    have ih := find_idxFrom (p := p) (n := n + 1) (es := r)
    unfold evIdx at ih ⊢
    simp only [idxFrom, findE, fidx]
    by_cases h : x.name = p
    · subst h; simp
    · rw [if_neg (fun e => h (Pick.enc_inj e)), ih, if_neg (by simpa using h)]
      simp only [Option.map_map]
      congr 1
      funext i
      simp only [Function.comp]
      rw [show n + 1 + i = n + (i + 1) by omega]
open Classical in
theorem evIdx_some {es : List Event} {p : Pick} {k : Nat} (h : evIdx es p = some k) : ∃ e, es[k]? = some e ∧ e.name = p := by
  unfold evIdx at h
  induction es generalizing k with
  | nil => simp [fidx] at h
  | cons x r ih =>
    simp only [fidx] at h
    by_cases hx : x.name = p
    · rw [if_pos (by simpa using hx)] at h
      simp at h
      subst h
      exact ⟨x, rfl, hx⟩
    · rw [if_neg (by simpa using hx)] at h
      obtain ⟨j, hj, rfl⟩ := Option.map_eq_some_iff.1 h
      obtain ⟨e, he, hn⟩ := ih hj
      exact ⟨e, by simpa using he, hn⟩
open Classical in
theorem evIdx_none {es : List Event} {p : Pick} (h : evIdx es p = none) : ∀ e ∈ es, e.name ≠ p := by
  unfold evIdx at h
  induction es with
  | nil => simp
  | cons x r ih =>
    simp only [fidx] at h
    by_cases hx : x.name = p
    · rw [if_pos (by simpa using hx)] at h; simp at h
    · rw [if_neg (by simpa using hx)] at h
      simp only [Option.map_eq_none_iff] at h
      intro e he
      rcases List.mem_cons.1 he with rfl | he
      · exact hx
      · exact ih h e he
theorem evIdx_at {es : List Event} (hne : es.Pairwise fun a b => a.name ≠ b.name) {k : Nat} {e : Event} (he : es[k]? = some e) : evIdx es e.name = some k := by
  cases h : evIdx es e.name with
  | none => exact absurd rfl (evIdx_none h e (List.mem_of_getElem? he))
  | some j =>
    obtain ⟨e', he', hn⟩ := evIdx_some h
    obtain ⟨hk, rfl⟩ := List.getElem?_eq_some_iff.1 he
    obtain ⟨hj, rfl⟩ := List.getElem?_eq_some_iff.1 he'
    rcases Nat.lt_trichotomy j k with hlt | rfl | hlt
    · exact absurd hn (List.pairwise_iff_getElem.1 hne j k hj hk hlt)
    · rfl
    · exact absurd hn.symm (List.pairwise_iff_getElem.1 hne k j hk hj hlt)

/-- What is known in the first loop over the alerts. -/
structure FA (l : List Alert) (es : List Event) (ks : List Int) : Prop where
  val : ∀ (i : Nat) (a : Alert) (k : Int), l[i]? = some a → ks[i]? = some k → (a.wd = true ∧ k = -1) ∨ (a.wd = false ∧ ((evIdx es a.name = none ∧ k = -1) ∨ ∃ j : Nat, evIdx es a.name = some j ∧ k = j))
theorem FA.nil {l : List Alert} {es : List Event} : FA l es [] := ⟨fun i a k _ h => by simp at h⟩
theorem FA.snoc {l : List Alert} {es : List Event} {ks : List Int} (f : FA l es ks) {a : Alert} {k : Int} (ha : l[ks.length]? = some a) (h : (a.wd = true ∧ k = -1) ∨ (a.wd = false ∧ ((evIdx es a.name = none ∧ k = -1) ∨ ∃ j : Nat, evIdx es a.name = some j ∧ k = j))) : FA l es (ks ++ [k]) := by
  refine ⟨fun i b k' hb hk => ?_⟩
  rcases Nat.lt_trichotomy i ks.length with hi | hi | hi
  · rw [List.getElem?_append_left hi] at hk
    exact f.val i b k' hb hk
  · subst hi
    rw [List.getElem?_append_right (Nat.le_refl _)] at hk
    simp at hk
    subst hk
    rw [ha] at hb
    cases hb
    exact h
  · rw [List.getElem?_eq_none (by simp; omega)] at hk; cases hk
/-- Names are followed. -/
def Named (l : List Alert) (es : List Event) (ks : List Int) : Prop := ∀ (i : Nat) (a : Alert) (j : Nat), l[i]? = some a → a.wd = false → evIdx es a.name = some j → ks[i]? = some (j : Int)
theorem FA.fol {l : List Alert} {es : List Event} {ks : List Int} (f : FA l es ks) (hl : ks.length ≤ l.length) (hn : l.Pairwise fun a b => a.wd = false → b.wd = false → a.name ≠ b.name) : FolOk l es.length ks := by
  have hla : ∀ (i : Nat) (k : Int), ks[i]? = some k → ∃ a, l[i]? = some a := fun i k hk => by
    have := (List.getElem?_eq_some_iff.1 hk).1
    exact ⟨_, List.getElem?_eq_getElem (by omega)⟩
  have hlt : ∀ (p : Pick) (j : Nat), evIdx es p = some j → j < es.length := fun p j h => by
    obtain ⟨e, he, _⟩ := evIdx_some h
    exact (List.getElem?_eq_some_iff.1 he).1
  refine ⟨fun k hk => ?_, fun i k a hk ha h0 => ?_, fun i j k hi hj h0 => ?_⟩
  · obtain ⟨i, hi⟩ := List.getElem?_of_mem hk
    obtain ⟨a, ha⟩ := hla i k hi
    rcases f.val i a k ha hi with ⟨_, rfl⟩ | ⟨_, ⟨_, rfl⟩ | ⟨j, hj, rfl⟩⟩
    · omega
    · omega
    · have := hlt _ _ hj; omega
  · rcases f.val i a k ha hk with ⟨_, rfl⟩ | ⟨h, _⟩
    · omega
    · exact h
  · obtain ⟨a, ha⟩ := hla i k hi
    obtain ⟨b, hb⟩ := hla j k hj
    rcases f.val i a k ha hi with ⟨_, rfl⟩ | ⟨hwa, ⟨_, rfl⟩ | ⟨x, hx, rfl⟩⟩
    · omega
    · omega
    rcases f.val j b _ hb hj with ⟨_, e⟩ | ⟨hwb, ⟨_, e⟩ | ⟨y, hy, e⟩⟩
    · omega
    · omega
    have hxy : x = y := by omega
    subst hxy
    obtain ⟨e1, he1, hn1⟩ := evIdx_some hx
    obtain ⟨e2, he2, hn2⟩ := evIdx_some hy
    rw [he1] at he2
    cases he2
    have hab : a.name = b.name := by rw [← hn1, ← hn2]
    obtain ⟨h1, rfl⟩ := List.getElem?_eq_some_iff.1 ha
    obtain ⟨h2, rfl⟩ := List.getElem?_eq_some_iff.1 hb
    rcases Nat.lt_trichotomy i j with hlt | rfl | hlt
    · exact absurd hab (List.pairwise_iff_getElem.1 hn i j h1 h2 hlt hwa hwb)
    · rfl
    · exact absurd hab.symm (List.pairwise_iff_getElem.1 hn j i h2 h1 hlt hwb hwa)
theorem FA.named {l : List Alert} {es : List Event} {ks : List Int} (f : FA l es ks) (hl : ks.length = l.length) : Named l es ks := fun i a j ha hw he => by
  have hi := (List.getElem?_eq_some_iff.1 ha).1
  have hk := List.getElem?_eq_getElem (l := ks) (i := i) (by omega)
  rcases f.val i a _ ha hk with ⟨h, _⟩ | ⟨_, ⟨h, _⟩ | ⟨x, hx, h⟩⟩
  · rw [hw] at h; cases h
  · rw [he] at h; cases h
  · rw [he] at hx
    cases hx
    rw [hk, h]
theorem Named.set {l : List Alert} {es : List Event} {ks : List Int} (n : Named l es ks) {i : Nat} {k k0 : Int} (hi : ks[i]? = some k0) (h0 : k0 < 0) : Named l es (ks.set i k) := fun j a x ha hw he => by
  have := n j a x ha hw he
  by_cases e : j = i
  · subst e
    rw [hi] at this
    cases this
    omega
  · rw [List.getElem?_set_ne (by omega)]; exact this
end Go.Proofs.Ytkdphdcpofcnjaa

/- K33: contracts of seat 36: the program's Follow, walked. -/
namespace Go.Proofs.Ytkdphdcpofcnjaa
open Go Abs
set_option linter.unusedSimpArgs false
set_option linter.unusedVariables false
set_option maxHeartbeats 2000000
attribute [local irreducible] Go.IntKind.wrap

section
variable {C : Con} {K : ASt → Prop} {env : Abs.Env} {loc : Abs.Loc} {h : AHeap} {i : Nat} {dst : Option Nat} {args : List Opd} {r : List AIns}
/-- Mutable local arrays. -/
theorem amkl {d mx n : Nat} {zs : List AV} {z : Int} {kd : IntKind} (ha : ASt.args ⟨env, loc, h⟩ (.mkl d zs mx) args = some [.int kd z]) (hz : z = (n : Nat)) (hd : loc d = none) (hn : n ≤ mx)
    (hh : AO C r ⟨env.put dst (some (.lm d zs.length 0 n)), loc.set d (some (.arr zs.length (List.replicate n zs))), h⟩ K) : AO C (⟨i, none, dst, .mkl d zs mx, args, []⟩ :: r) ⟨env, loc, h⟩ K := by
  subst hz
  exact apass rfl ha (by simp [pval, hd]; omega) hh
theorem aixl {sz k d off n : Nat} {z : Int} {kd : IntKind} (ha : ASt.args ⟨env, loc, h⟩ (.ix sz) args = some [.lm d sz off n, .int kd z]) (hz : z = (k : Nat)) (hk : k < n)
    (hh : AO C r ⟨env.put dst (some (.lp d (off + k) 0)), loc, h⟩ K) : AO C (⟨i, none, dst, .ix sz, args, []⟩ :: r) ⟨env, loc, h⟩ K := by
  subst hz
  exact apass rfl ha (by simp [pval, ixV, hk]) hh
theorem gaixl {g : Nat} {b w : Bool} {sz k d off n : Nat} {z : Int} {kd : IntKind} (hg : env g = some (.bool b)) (hb : b = w) (ha : ASt.args ⟨env, loc, h⟩ (.ix sz) args = some [.lm d sz off n, .int kd z]) (hz : z = (k : Nat)) (hk : k < n)
    (hh : AO C r ⟨env.put dst (some (.lp d (off + k) 0)), loc, h⟩ K) : AO C (⟨i, some (g, w), dst, .ix sz, args, []⟩ :: r) ⟨env, loc, h⟩ K := by
  subst hz
  exact gpass1 hg hb rfl ha (by simp [pval, ixV, hk]) hh
theorem aldl {n d a b sz : Nat} {ag : Bool} {v : AV} {xs : List (List AV)} {e : List AV} (ha : ASt.args ⟨env, loc, h⟩ (.ld n ag) args = some [.lp d a b]) (hl : loc d = some (.arr sz xs)) (he : xs[a]? = some e) (hv : Abs.valOf ag n (e.drop b) = some v)
    (hh : AO C r ⟨env.put dst (some v), loc, h⟩ K) : AO C (⟨i, none, dst, .ld n ag, args, []⟩ :: r) ⟨env, loc, h⟩ K :=
  apass rfl ha (by simp [pval, ldV, objCells, hl, he, hv]) hh
theorem galdl {g : Nat} {b' w : Bool} {n d a b sz : Nat} {ag : Bool} {v : AV} {xs : List (List AV)} {e : List AV} (hg : env g = some (.bool b')) (hb : b' = w) (ha : ASt.args ⟨env, loc, h⟩ (.ld n ag) args = some [.lp d a b]) (hl : loc d = some (.arr sz xs)) (he : xs[a]? = some e) (hv : Abs.valOf ag n (e.drop b) = some v)
    (hh : AO C r ⟨env.put dst (some v), loc, h⟩ K) : AO C (⟨i, some (g, w), dst, .ld n ag, args, []⟩ :: r) ⟨env, loc, h⟩ K :=
  gpass1 hg hb rfl ha (by simp [pval, ldV, objCells, hl, he, hv]) hh
theorem astE {n d a b sz : Nat} {x : AV} {xs : List (List AV)} {e : List AV} (ha : ASt.args ⟨env, loc, h⟩ (.st n) args = some [.lp d a b, x]) (hf : x.fit = true) (hn : x.cells.length = n) (hl : loc d = some (.arr sz xs)) (he : xs[a]? = some e) (hb : b + n ≤ e.length)
    (hh : AO C r ⟨env.put dst (some (.tup [])), loc.set d (some (.arr sz (xs.set a (e.take b ++ x.cells ++ e.drop (b + x.cells.length))))), h⟩ K) : AO C (⟨i, none, dst, .st n, args, []⟩ :: r) ⟨env, loc, h⟩ K :=
  ast ha hf hn (by simp only [wrObj, hl, wrElem, he, hn, if_pos hb, Option.map_some]) hh
theorem alklO {d : Nat} {ag : Bool} {ks : List Nat} {es : List (List AV × AV)} {key z : AV} {o : Option AV} (ha : ASt.args ⟨env, loc, h⟩ (.lkl ag ks z true) args = some [.lmap d, key]) (hl : loc d = some (.map ag ks es)) (h1 : key.isAgg = ag) (h2 : key.cells.map AV.kindNo = ks) (hf : findE es key.cells = o)
    (hh : AO C r ⟨env.put dst (some (.tup [o.getD z, .bool o.isSome])), loc, h⟩ K) : AO C (⟨i, none, dst, .lkl ag ks z true, args, []⟩ :: r) ⟨env, loc, h⟩ K :=
  alkl ha hl h1 h2 (by simp only [hf, if_true]; exact hh)
end
def bls (tk : List Bool) : List (List AV) := tk.map fun b => [.bool b]
theorem bls_get {tk : List Bool} {k : Nat} (h : k < tk.length) : (bls tk)[k]? = some [.bool tk[k]] := by simp [bls, List.getElem?_map, List.getElem?_eq_getElem h]
theorem bls_set {tk : List Bool} {k : Nat} {b : Bool} : (bls tk).set k [.bool b] = bls (tk.set k b) := by simp [bls, List.map_set]
theorem ints_set {ks : List Int} {k : Nat} {x : Int} : (ints ks).set k [.int .i64 x] = ints (ks.set k x) := by simp [ints, List.map_set]

/-- Which events are taken. -/
structure Tk (es : List Event) (ks : List Int) (tk : List Bool) : Prop where
  len : tk.length = es.length
  iff_ : ∀ j : Nat, tk[j]? = some true ↔ (j < es.length ∧ (j : Int) ∈ ks)

theorem mem_set_neg {ks : List Int} {i : Nat} {j k0 x : Int} (hi : ks[i]? = some k0) (h0 : k0 < 0) (hx : 0 ≤ x) (hne : x ≠ j) : x ∈ ks.set i j ↔ x ∈ ks := by
  constructor
  · intro h
    rcases List.mem_or_eq_of_mem_set h with h | h
    · exact h
    · exact absurd h hne
  · intro h
    obtain ⟨y, hy⟩ := List.getElem?_of_mem h
    have hyi : i ≠ y := by
      rintro rfl
      rw [hi] at hy
      cases hy
      omega
    exact List.mem_of_getElem? (i := y) (by rw [List.getElem?_set_ne hyi]; exact hy)
theorem c15 {h : AHeap} {v w : AV} {l : List Alert} {es : List Event} (hv : IsSl 38 IsAl v l) (hw : IsSl 25 IsEv w es) (hl : l.length ≤ 1000) (hes : es.length ≤ 1000) (hs : ∀ a ∈ l, a.small) (hse : ∀ e ∈ es, e.small)
    (hn : l.Pairwise fun a b => a.wd = false → b.wd = false → a.name ≠ b.name) (hne : es.Pairwise fun a b => a.name ≠ b.name) :
    ACalls PR 15 [v, w] h fun u h' => (∃ ks, IsSl 1 intc u ks ∧ FolOk l es.length ks ∧ ks.length = l.length ∧ Named l es ks) ∧ h = h' := by
  refine fn_sound at15 ok15 (Nat.le_of_ble_eq_true rfl) (afn ?_)
  show AW _ C15 _ _
  unfold C15
  have hN : v.names = none ∧ w.names = none := ⟨hv.names, hw.names⟩
  refine nav ?_
  apply alenS rfl hw
  refine nav ?_
  refine aloop (fun q s => ∃ k : Nat, q + k = es.length ∧ s = ⟨Env.of [(0, some v), (1, some w), (5, some (.lmap 20)), (21, some w), (22, some (.int .i64 es.length)), (23, some (.int .i64 k))], Loc.of [(20, some (.map true [1, 1, 1, 1, 6, 6, 6, 6, 6] (idxFrom 0 (es.take k))))], h⟩) es.length ⟨0, by omega, rfl⟩ ?_
  rintro q s' ⟨k, hq, rfl⟩
  refine nav ?_
  refine acond rfl (fun hc => ?_) (fun hc => ?_)
  · have hlt : k < es.length := by have := of_decide_eq_true hc; omega
    have hek := List.getElem?_eq_getElem hlt
    have htake : es.take (k + 1) = es.take k ++ [es[k]] := by rw [List.take_add_one, hek]; rfl
    have hnot : (es[k]).name.enc ∉ (idxFrom 0 (es.take k)).map Prod.fst := by
      rw [idxFrom_keys]
      intro hm
      obtain ⟨x, hx, e⟩ := List.mem_map.1 hm
      obtain ⟨j, hj⟩ := List.getElem?_of_mem hx
      obtain ⟨hj1, hj2⟩ := List.getElem?_eq_some_iff.1 hj
      rw [List.length_take] at hj1
      rw [List.getElem_take] at hj2
      exact List.pairwise_iff_getElem.1 hne j k (by omega) hlt (by omega) (by rw [hj2]; exact Pick.enc_inj e)
    obtain ⟨cs, t, c, rfl, hx, te, hc2⟩ := hw.at hek
    have hxe : cs[k]? = some (evc es[k] te) := by rw [hx, hc2]; rfl
    generalize es[k] = e at *
    have hfind := findE_none hnot
    have hset := setE_new (v := .int .i64 k) hnot
    have hnf : (!false) = true := rfl
    unfold evc at hxe
    refine nav ?_
    apply alklN rfl rfl (by rfl) (by rfl) (by exact hfind)
    repeat' (first | refine nat1 ?_ | (apply aeqs rfl (by rfl) (by rfl); intro be hbe) | (apply gaeqs rfl (by first | assumption | with_reducible rfl) rfl (by rfl) (by rfl); intro be hbe) | refine gpassS1 rfl rfl rfl rfl rfl (fun _ => ?_) (fun _ => ?_) | refine gpassS0 rfl rfl rfl rfl rfl (fun _ => ?_) (fun _ => ?_) | refine psplitA rfl (fun _ => ?_) (fun _ => ?_) | refine acond rfl (fun _ => ?_) (fun _ => ?_))
    apply aupl rfl rfl (by rfl) (by rfl) (by rfl)
    refine naw ?_
    refine ql_n (q - 1) (by omega) ⟨k + 1, by omega, ?_⟩
    rw [htake, idxFrom_snoc, show 0 + (es.take k).length = k by rw [List.length_take]; omega, ← hset]
    rfl
  · have hke : es.length ≤ k := by have := of_decide_eq_false hc; omega
    rw [List.take_of_length_le hke]
    refine nav ?_
    apply alenS rfl hv
    apply amkl rfl rfl rfl (by omega)
    refine nav ?_
    apply alenS rfl hw
    apply amkl rfl rfl rfl (by omega)
    refine nav ?_
    apply alenS rfl hv
    refine nav ?_
    refine aloop (fun q s => ∃ (ks : List Int) (tk : List Bool), q + ks.length = l.length ∧ FA l es ks ∧ Tk es ks tk ∧
        s = ⟨Env.of [(0, some v), (1, some w), (5, some (.lmap 20)), (10, some (.lm 44 1 0 l.length)), (11, some (.lm 47 1 0 es.length)), (48, some v), (49, some (.int .i64 l.length)), (50, some (.int .i64 ks.length))],
          Loc.of [(20, some (.map true [1, 1, 1, 1, 6, 6, 6, 6, 6] (idxFrom 0 es))), (44, some (.arr 1 (ints ks ++ List.replicate (l.length - ks.length) [.int .i64 0]))), (47, some (.arr 1 (bls tk)))], h⟩) l.length
      ⟨[], List.replicate es.length false, by simp, FA.nil, ⟨by simp, fun j => by simp [List.getElem?_replicate]⟩, by simp [ints, bls]⟩ ?_
    rintro q2 s2 ⟨ks, tk, hq2, hF, hT, rfl⟩
    refine nav ?_
    refine acond rfl (fun hc2 => ?_) (fun hc2 => ?_)
    · have hlt : ks.length < l.length := by have := of_decide_eq_true hc2; omega
      have hla := List.getElem?_eq_getElem hlt
      obtain ⟨cs, t, c, rfl, hx, ta, hx2⟩ := hv.at hla
      have hxx : cs[ks.length]? = some (alc l[ks.length] ta) := by rw [hx, hx2]
      generalize l[ks.length] = a at *
      have hgetI : (ints ks ++ List.replicate (l.length - ks.length) [AV.int .i64 0])[0 + ks.length]? = some [.int .i64 0] := by
        rw [Nat.zero_add, List.getElem?_append_right (by rw [ints_len]; exact Nat.le_refl _), ints_len, Nat.sub_self, List.getElem?_replicate, if_pos (by omega)]
      have hsetI : ∀ x : Int, (ints ks ++ List.replicate (l.length - ks.length) [AV.int .i64 0]).set (0 + ks.length) [.int .i64 x] = ints (ks ++ [x]) ++ List.replicate (l.length - (ks ++ [x]).length) [.int .i64 0] := fun x => by
        rw [Nat.zero_add, List.set_append_right _ _ (by rw [ints_len]; exact Nat.le_refl _), ints_len, Nat.sub_self]
        obtain ⟨m, hm⟩ : ∃ m, l.length - ks.length = m + 1 := ⟨l.length - ks.length - 1, by omega⟩
        rw [hm, List.replicate_succ, List.set_cons_zero]
        have : l.length - (ks ++ [x]).length = m := by simp; omega
        rw [this]
        simp [ints]
      have hf := find_idxFrom (p := a.name) (n := 0) (es := es)
      have hnf : (!false) = true := rfl
      have hnt : (!true) = false := rfl
      unfold alc at hxx
      have skipK : ∀ tk, Tk es ks tk → Tk es (ks ++ [-1]) tk := fun tk hT => ⟨hT.len, fun j => by rw [hT.iff_ j, List.mem_append]; simp <;> omega⟩
      cases hev : evIdx es a.name with
      | none =>
        rw [hev] at hf
        refine nav ?_
        apply alklO rfl rfl (by rfl) (by rfl) (by exact hf)
        repeat' (first | refine nat1 ?_ | (apply aeqs rfl (by rfl) (by rfl); intro be hbe) | (apply gaeqs rfl (by first | assumption | with_reducible rfl) rfl (by rfl) (by rfl); intro be hbe) | refine gpassS1 rfl rfl rfl rfl rfl (fun _ => ?_) (fun _ => ?_) | refine gpassS0 rfl rfl rfl rfl rfl (fun _ => ?_) (fun _ => ?_) | refine psplitA rfl (fun _ => ?_) (fun _ => ?_) | refine acond rfl (fun _ => ?_) (fun _ => ?_))
        all_goals try (exfalso; simp_all; done)
        all_goals (
          apply aixl rfl rfl hlt
          repeat' (first | refine nat1 ?_ | (apply aeqs rfl (by rfl) (by rfl); intro be hbe) | (apply gaeqs rfl (by first | assumption | with_reducible rfl) rfl (by rfl) (by rfl); intro be hbe) | refine gpassS1 rfl rfl rfl rfl rfl (fun _ => ?_) (fun _ => ?_) | refine gpassS0 rfl rfl rfl rfl rfl (fun _ => ?_) (fun _ => ?_) | refine psplitA rfl (fun _ => ?_) (fun _ => ?_) | refine acond rfl (fun _ => ?_) (fun _ => ?_))
          apply astE rfl (by rfl) (by rfl) rfl hgetI (by simp)
          refine naw ?_
          refine ql_n (q2 - 1) (by omega) ⟨ks ++ [-1], tk, by simp; omega, hF.snoc hla ?_, skipK tk hT, ?_⟩
          · cases hwd : a.wd
            · exact .inr ⟨rfl, .inl ⟨hev, rfl⟩⟩
            · exact .inl ⟨rfl, rfl⟩
          · rw [← hsetI]; simp; rfl)
      | some j =>
        rw [hev] at hf
        simp only [Option.map_some, Nat.zero_add] at hf
        obtain ⟨e, he, hen⟩ := evIdx_some hev
        have hj := (List.getElem?_eq_some_iff.1 he).1
        have hjt : j < tk.length := by rw [hT.len]; exact hj
        have hbj : (bls tk)[0 + j]? = some [.bool tk[j]] := by rw [Nat.zero_add]; exact bls_get hjt
        refine nav ?_
        apply alklO rfl rfl (by rfl) (by rfl) (by exact hf)
        repeat' (first | refine nat1 ?_ | (apply aeqs rfl (by rfl) (by rfl); intro be hbe) | (apply gaeqs rfl (by first | assumption | with_reducible rfl) rfl (by rfl) (by rfl); intro be hbe) | refine gpassS1 rfl rfl rfl rfl rfl (fun _ => ?_) (fun _ => ?_) | refine gpassS0 rfl rfl rfl rfl rfl (fun _ => ?_) (fun _ => ?_) | refine psplitA rfl (fun _ => ?_) (fun _ => ?_) | refine acond rfl (fun _ => ?_) (fun _ => ?_))
        all_goals try (exfalso; simp_all; done)
        · have hwd : a.wd = false := by assumption
          apply aixl rfl rfl hlt
          refine nav ?_
          apply astE rfl (by rfl) (by rfl) rfl hgetI (by simp)
          refine nav ?_
          apply aixl rfl rfl hj
          refine nav ?_
          apply astE rfl (by rfl) (by rfl) rfl hbj (by simp)
          refine naw ?_
          refine ql_n (q2 - 1) (by omega) ⟨ks ++ [(j : Int)], tk.set j true, by simp; omega, hF.snoc hla (.inr ⟨hwd, .inr ⟨j, hev, rfl⟩⟩), ⟨by rw [List.length_set]; exact hT.len, fun x => ?_⟩, ?_⟩
          · by_cases hx : x = j
            · subst hx
              rw [List.getElem?_set_self hjt]
              simp [hj]
            · rw [List.getElem?_set_ne (by omega), hT.iff_ x, List.mem_append]
              simp; omega
          · rw [← hsetI, ← bls_set]; simp; rfl
        · have hwd : a.wd = true := by assumption
          apply aixl rfl rfl hlt
          repeat' (first | refine nat1 ?_ | (apply aeqs rfl (by rfl) (by rfl); intro be hbe) | (apply gaeqs rfl (by first | assumption | with_reducible rfl) rfl (by rfl) (by rfl); intro be hbe) | refine gpassS1 rfl rfl rfl rfl rfl (fun _ => ?_) (fun _ => ?_) | refine gpassS0 rfl rfl rfl rfl rfl (fun _ => ?_) (fun _ => ?_) | refine psplitA rfl (fun _ => ?_) (fun _ => ?_) | refine acond rfl (fun _ => ?_) (fun _ => ?_))
          apply astE rfl (by rfl) (by rfl) rfl hgetI (by simp)
          refine naw ?_
          refine ql_n (q2 - 1) (by omega) ⟨ks ++ [-1], tk, by simp; omega, hF.snoc hla (.inl ⟨hwd, rfl⟩), skipK tk hT, ?_⟩
          rw [← hsetI]; simp; rfl
    · have hkl : ks.length = l.length := by have := of_decide_eq_false hc2; have := hq2; omega
      have hFo := hF.fol (by omega) hn
      have hNa := hF.named hkl
      rw [show l.length - ks.length = 0 by omega, List.replicate_zero, List.append_nil]
      refine nav ?_
      apply alenS rfl hv
      refine nav ?_
      refine aloop (fun q s => ∃ (i : Nat) (ks : List Int) (tk : List Bool), q + i = l.length ∧ ks.length = l.length ∧ FolOk l es.length ks ∧ Named l es ks ∧ Tk es ks tk ∧
          s = ⟨Env.of [(1, some w), (10, some (.lm 44 1 0 l.length)), (11, some (.lm 47 1 0 es.length)), (79, some v), (80, some (.int .i64 l.length)), (81, some (.int .i64 i))],
            Loc.of [(44, some (.arr 1 (ints ks))), (47, some (.arr 1 (bls tk)))], h⟩) l.length
        ⟨0, ks, tk, by omega, hkl, hFo, hNa, hT, rfl⟩ ?_
      clear hF hT hFo hNa hkl hq2 hc2
      rintro q3 s3 ⟨i, ks, tk, hq3, hkl, hF, hNa, hT, rfl⟩
      refine nav ?_
      refine acond rfl (fun hc3 => ?_) (fun hc3 => ?_)
      · have hlt : i < l.length := by have := of_decide_eq_true hc3; omega
        have hla := List.getElem?_eq_getElem hlt
        have hsa := hs _ (List.getElem_mem hlt)
        have hik : i < ks.length := by omega
        have hki := List.getElem?_eq_getElem hik
        obtain ⟨cs, t, c, rfl, hx, ta, hx2⟩ := hv.at hla
        have hxx : cs[i]? = some (alc l[i] ta) := by rw [hx, hx2]
        have hgi : (ints ks)[0 + i]? = some [.int .i64 ks[i]] := by rw [Nat.zero_add]; exact ints_get hik
        generalize l[i] = a at *
        generalize hk0 : ks[i] = k0 at *
        unfold alc at hxx
        cases hwd : a.wd
        · rw [hwd] at hxx
          have hff : (false : Bool) = false := rfl
          repeat' (first | refine nat1 ?_ | (apply aeqs rfl (by rfl) (by rfl); intro be hbe) | (apply gaeqs rfl (by first | assumption | with_reducible rfl) rfl (by rfl) (by rfl); intro be hbe) | refine gpassS1 rfl rfl rfl rfl rfl (fun _ => ?_) (fun _ => ?_) | refine gpassS0 rfl rfl rfl rfl rfl (fun _ => ?_) (fun _ => ?_) | refine psplitA rfl (fun _ => ?_) (fun _ => ?_) | refine acond rfl (fun _ => ?_) (fun _ => ?_))
          apply gaixl rfl hff rfl rfl hlt
          repeat' (first | refine nat1 ?_ | (apply aeqs rfl (by rfl) (by rfl); intro be hbe) | (apply gaeqs rfl (by first | assumption | with_reducible rfl) rfl (by rfl) (by rfl); intro be hbe) | refine gpassS1 rfl rfl rfl rfl rfl (fun _ => ?_) (fun _ => ?_) | refine gpassS0 rfl rfl rfl rfl rfl (fun _ => ?_) (fun _ => ?_) | refine psplitA rfl (fun _ => ?_) (fun _ => ?_) | refine acond rfl (fun _ => ?_) (fun _ => ?_))
          apply galdl rfl hff rfl rfl hgi rfl
          by_cases hneg : 0 ≤ k0
          · have hdk : decide (k0 ≥ 0) = true := decide_eq_true hneg
            repeat' (first | refine nat1 ?_ | (apply aeqs rfl (by rfl) (by rfl); intro be hbe) | (apply gaeqs rfl (by first | assumption | with_reducible rfl) rfl (by rfl) (by rfl); intro be hbe) | refine gpassS1 rfl rfl rfl rfl rfl (fun _ => ?_) (fun _ => ?_) | refine gpassS0 rfl rfl rfl rfl rfl (fun _ => ?_) (fun _ => ?_) | refine psplitA rfl (fun _ => ?_) (fun _ => ?_) | refine acond rfl (fun _ => ?_) (fun _ => ?_))
            exact ql_n (q3 - 1) (by omega) ⟨i + 1, ks, tk, by omega, hkl, hF, hNa, hT, rfl⟩
          · have hdk : decide (k0 ≥ 0) = false := decide_eq_false hneg
            repeat' (first | refine nat1 ?_ | (apply aeqs rfl (by rfl) (by rfl); intro be hbe) | (apply gaeqs rfl (by first | assumption | with_reducible rfl) rfl (by rfl) (by rfl); intro be hbe) | refine gpassS1 rfl rfl rfl rfl rfl (fun _ => ?_) (fun _ => ?_) | refine gpassS0 rfl rfl rfl rfl rfl (fun _ => ?_) (fun _ => ?_) | refine psplitA rfl (fun _ => ?_) (fun _ => ?_) | refine acond rfl (fun _ => ?_) (fun _ => ?_))
            apply alenS rfl hw
            repeat' (first | refine nat1 ?_ | (apply aeqs rfl (by rfl) (by rfl); intro be hbe) | (apply gaeqs rfl (by first | assumption | with_reducible rfl) rfl (by rfl) (by rfl); intro be hbe) | refine gpassS1 rfl rfl rfl rfl rfl (fun _ => ?_) (fun _ => ?_) | refine gpassS0 rfl rfl rfl rfl rfl (fun _ => ?_) (fun _ => ?_) | refine psplitA rfl (fun _ => ?_) (fun _ => ?_) | refine acond rfl (fun _ => ?_) (fun _ => ?_))
            refine aloopE (fun q4 s => ∃ j : Nat, q4 + j = es.length ∧ s = ⟨Env.of [(1, some w), (10, some (.lm 44 1 0 l.length)), (11, some (.lm 47 1 0 es.length)), (16, some (.int .i64 i)), (17, some (.lp 17 0 0)), (79, some (.sl 38 cs t)), (80, some (.int .i64 l.length)), (81, some (.int .i64 i)), (95, some w), (96, some (.int .i64 es.length)), (97, some (.int .i64 j))], Loc.of [(17, some (.arr 38 [alc a ta])), (44, some (.arr 1 (ints ks))), (47, some (.arr 1 (bls tk)))], h⟩) es.length
              (fun s => (∃ (j : Nat) (x : Option AV), s = ⟨Env.of [(1, some w), (10, some (.lm 44 1 0 l.length)), (11, some (.lm 47 1 0 es.length)), (16, some (.int .i64 i)), (17, some (.lp 17 0 0)), (79, some (.sl 38 cs t)), (80, some (.int .i64 l.length)), (81, some (.int .i64 i)), (95, some w), (96, some (.int .i64 es.length)), (97, some (.int .i64 j)), (98, x)], Loc.of [(17, some (.arr 38 [alc a ta])), (44, some (.arr 1 (ints ks))), (47, some (.arr 1 (bls tk)))], h⟩) ∨
                ∃ j : Nat, j < es.length ∧ (j : Int) ∉ ks ∧ s = ⟨Env.of [(1, some w), (10, some (.lm 44 1 0 l.length)), (11, some (.lm 47 1 0 es.length)), (79, some (.sl 38 cs t)), (80, some (.int .i64 l.length)), (81, some (.int .i64 i))], Loc.of [(44, some (.arr 1 (ints (ks.set i j)))), (47, some (.arr 1 (bls (tk.set j true))))], h⟩) 6
              ⟨0, by omega, by unfold alc; rw [hwd]; rfl⟩ (fun Q' hE hO => ?_) ?_
            · rintro q4 s4 ⟨j, hq4, rfl⟩
              unfold alc
              refine nav ?_
              refine acond rfl (fun hc4 => ?_) (fun hc4 => ?_)
              · have hj : j < es.length := by have := of_decide_eq_true hc4; omega
                have hej := List.getElem?_eq_getElem hj
                have hsej := hse _ (List.getElem_mem hj)
                have hjt : j < tk.length := by rw [hT.len]; exact hj
                have hbj : (bls tk)[0 + j]? = some [.bool tk[j]] := by rw [Nat.zero_add]; exact bls_get hjt
                have htk := hT.iff_ j
                obtain ⟨cs2, t2, c2, rfl, hx3, te, hc5⟩ := hw.at hej
                have hxe : cs2[j]? = some (evc es[j] te) := by rw [hx3, hc5]; rfl
                generalize es[j] = e at *
                have k33 := c33 (h := h) (v := a.ev) (w := e) (t := ta) (t' := te) hsa hsej.2
                unfold evc at hxe
                have hnf : (!false) = true := rfl
                have hnt : (!true) = false := rfl
                refine nav ?_
                apply aixl rfl rfl hj
                refine nav ?_
                apply aldl rfl rfl hbj rfl
                cases htj : tk[j]
                · have hnk : (j : Int) ∉ ks := fun hm => by
                    have := htk.2 ⟨hj, hm⟩
                    rw [List.getElem?_eq_getElem hjt, htj] at this
                    cases this
                  repeat' (first | refine nat1 ?_ | (apply acallpp monoR rfl (by rfl) k33; rintro _ _ ⟨⟨_, rfl⟩, rfl⟩; refine ⟨rfl, rfl, ?_⟩) | (apply gcallpp rfl (by first | assumption | with_reducible rfl) monoR rfl (by rfl) k33; rintro _ _ ⟨⟨_, rfl⟩, rfl⟩; refine ⟨rfl, rfl, ?_⟩) | (refine gcallS1 rfl monoR rfl (by rfl) k33 (fun _ => ?_) (fun _ => ?_); rintro _ _ ⟨⟨_, rfl⟩, rfl⟩; refine ⟨rfl, rfl, ?_⟩) | (refine gcallS0 rfl monoR rfl (by rfl) k33 (fun _ => ?_) (fun _ => ?_); rintro _ _ ⟨⟨_, rfl⟩, rfl⟩; refine ⟨rfl, rfl, ?_⟩) | (apply aeqs rfl (by rfl) (by rfl); intro be hbe) | (apply gaeqs rfl (by first | assumption | with_reducible rfl) rfl (by rfl) (by rfl); intro be hbe) | refine gpassS1 rfl rfl rfl rfl rfl (fun _ => ?_) (fun _ => ?_) | refine gpassS0 rfl rfl rfl rfl rfl (fun _ => ?_) (fun _ => ?_) | refine psplitA rfl (fun _ => ?_) (fun _ => ?_) | refine acond rfl (fun _ => ?_) (fun _ => ?_))
                  · apply aixl rfl rfl hlt
                    refine nav ?_
                    apply astE rfl (by rfl) (by rfl) rfl hgi (by simp)
                    refine nav ?_
                    apply aixl rfl rfl hj
                    refine nav ?_
                    apply astE rfl (by rfl) (by rfl) rfl hbj (by simp)
                    refine naw ?_
                    refine hE _ (.inr ⟨j, hj, hnk, ?_⟩)
                    rw [← ints_set, ← bls_set]
                    simp only [Nat.zero_add]
                    rfl
                  · exact ql_n (q4 - 1) (by omega) ⟨j + 1, by omega, rfl⟩
                · repeat' (first | refine nat1 ?_ | (apply aeqs rfl (by rfl) (by rfl); intro be hbe) | (apply gaeqs rfl (by first | assumption | with_reducible rfl) rfl (by rfl) (by rfl); intro be hbe) | refine gpassS1 rfl rfl rfl rfl rfl (fun _ => ?_) (fun _ => ?_) | refine gpassS0 rfl rfl rfl rfl rfl (fun _ => ?_) (fun _ => ?_) | refine psplitA rfl (fun _ => ?_) (fun _ => ?_) | refine acond rfl (fun _ => ?_) (fun _ => ?_))
                  all_goals first
                    | exact ql_n (q4 - 1) (by omega) ⟨j + 1, by omega, rfl⟩
                    | (exfalso; simp_all; done)
              · refine nav ?_
                exact hE _ (.inl ⟨j, _, rfl⟩)
            · rintro s5 (⟨j, x, rfl⟩ | ⟨j, hj, hjk, rfl⟩)
              · refine naw ?_
                exact ql_n (q3 - 1) (by omega) ⟨i + 1, ks, tk, by omega, hkl, hF, hNa, hT, rfl⟩
              · refine naw ?_
                have hjt : j < tk.length := by rw [hT.len]; exact hj
                refine ql_n (q3 - 1) (by omega) ⟨i + 1, ks.set i j, tk.set j true, by omega, by rw [List.length_set]; exact hkl, hF.set hik hla ⟨by omega, by omega⟩ hwd hjk, hNa.set hki (by omega), ⟨by rw [List.length_set]; exact hT.len, fun x => ?_⟩, rfl⟩
                by_cases hx : x = j
                · subst hx
                  rw [List.getElem?_set_self hjt]
                  simp only [true_iff]
                  exact ⟨hj, List.mem_of_getElem? (i := i) (by rw [List.getElem?_set_self hik])⟩
                · rw [List.getElem?_set_ne (by omega), hT.iff_ x, mem_set_neg hki (by omega) (by omega) (by omega)]
        · rw [hwd] at hxx
          repeat' (first | refine nat1 ?_ | (apply aeqs rfl (by rfl) (by rfl); intro be hbe) | (apply gaeqs rfl (by first | assumption | with_reducible rfl) rfl (by rfl) (by rfl); intro be hbe) | refine gpassS1 rfl rfl rfl rfl rfl (fun _ => ?_) (fun _ => ?_) | refine gpassS0 rfl rfl rfl rfl rfl (fun _ => ?_) (fun _ => ?_) | refine psplitA rfl (fun _ => ?_) (fun _ => ?_) | refine acond rfl (fun _ => ?_) (fun _ => ?_))
          exact ql_n (q3 - 1) (by omega) ⟨i + 1, ks, tk, by omega, hkl, hF, hNa, hT, rfl⟩
      · refine nav ?_
        apply afrzl rfl rfl (by rw [ints_len]; omega)
        refine nav ?_
        apply qf rfl (by rfl) aheap_le
        refine ⟨⟨ks, .inr ⟨_, _, rfl, ?_⟩, hF, hkl, hNa⟩, rfl⟩
        rw [List.drop_zero, List.take_of_length_le (by rw [ints_len]; omega)]
        exact All2.ofMap _ fun _ _ => rfl
end Go.Proofs.Ytkdphdcpofcnjaa

/- K34: contracts of seat 36: publish. -/
namespace Go.Proofs.Ytkdphdcpofcnjaa
open Go Abs
set_option linter.unusedSimpArgs false
set_option linter.unusedVariables false
set_option maxHeartbeats 2000000
attribute [local irreducible] Go.IntKind.wrap

theorem qfn {s : ASt} {F : AFn} {R : AV → AHeap → Prop} {vs : List AV} {h' : AHeap} (h1 : s.ress F.res = some vs) (h2 : vs.all AV.plain = true) (h3 : h'.le s.h) (h4 : R (resV vs) h') : QF F R .normal s := by
  unfold QF
  exact ⟨vs, h', h1, h2, h3, h4⟩

/-- The variables that publish shares with Step. -/
structure Box where
  f : Nat
  n : Nat
  b : Nat
  w : Nat
structure Box.ok (B : Box) : Prop where
  fn : B.f ≠ B.n
  fb : B.f ≠ B.b
  fw : B.f ≠ B.w
  nb : B.n ≠ B.b
  nw : B.n ≠ B.w
  bw : B.b ≠ B.w
structure BoxH (B : Box) (number now : Int) (bv : AV) (H : AHeap) : Prop where
  f : H.os B.f = some (.arr 1 [[.bool false]])
  n : H.os B.n = some (.arr 1 [[.int .i64 number]])
  b : H.os B.b = some (.arr 1 [[bv]])
  w : H.os B.w = some (.arr 1 [[.int .i64 now]])

theorem c25 {H h0 : AHeap} {B : Box} {number now kind : Int} {bv : AV} {bs : List Bulletin} {a : Alert} {ta : Tag} (hB : B.ok) (hH : BoxH B number now bv H) (hg : Grow 30 IsBu h0 bv bs H.al) (hn : 0 ≤ number ∧ number < 1000) (hbs : bs.length ≤ 1000) (ha : a.ev.good) :
    ACalls PR 25 [.int .i64 kind, .agg (alc a ta), .hp B.f 0 0, .hp B.n 0 0, .hp B.b 0 0, .hp B.w 0 0] H fun u H' => u.plain = true ∧ ∃ bv', Grow 30 IsBu h0 bv' (bs ++ [⟨number, kind, a.id, now, a.level, a.ev⟩]) H'.al ∧ BoxH B (number + 1) now bv' H' ∧ ∀ j, j ≠ B.f → j ≠ B.n → j ≠ B.b → H'.os j = H.os j := by
  refine fn_sound at25 ok25 (Nat.le_of_ble_eq_true rfl) (afn ?_)
  show AW _ C25 _ _
  unfold C25
  have hf := hH.f
  have hnum := hH.n
  have hb := hH.b
  have hw := hH.w
  have hd : decide (number ≥ 1000) = false := decide_eq_false (by omega)
  have hN : bv.names = none := hg.names
  unfold alc
  repeat' (first | refine nat1 ?_ | (apply aeqs rfl (by rfl) (by rfl); intro be hbe) | (apply gaeqs rfl (by first | assumption | with_reducible rfl) rfl (by rfl) (by rfl); intro be hbe) | refine gpassS1 rfl rfl rfl rfl rfl (fun _ => ?_) (fun _ => ?_) | refine gpassS0 rfl rfl rfl rfl rfl (fun _ => ?_) (fun _ => ?_) | refine psplitA rfl (fun _ => ?_) (fun _ => ?_) | refine acond rfl (fun _ => ?_) (fun _ => ?_))
  all_goals try (exfalso; simp_all; done)
  apply asth (o := .arr 1 [[.bool (decide (number ≥ 1000))]]) rfl (by rfl) (by rfl) (by simp only [hf]; rfl)
  have hsame : ∀ o, o = AObj.arr 1 [[AV.bool false]] → H.set B.f (some o) = H := fun o ho => by
    subst ho
    unfold AHeap.set
    have : (fun j => if j = B.f then some (AObj.arr 1 [[AV.bool false]]) else H.os j) = H.os := by
      funext j
      by_cases e : j = B.f
      · subst e; rw [if_pos rfl, hf]
      · rw [if_neg e]
    rw [this]
  rw [hsame (.arr 1 [[.bool (decide (number ≥ 1000))]]) (by rw [hd])]
  refine nav ?_
  apply acallpp monoR rfl (by rfl) (c26 (v := a.ev) (t := ta) ha)
  rintro _ _ ⟨⟨tg, rfl⟩, rfl⟩
  refine ⟨rfl, rfl, ?_⟩
  unfold evc
  refine nav ?_
  apply aappG (y := ⟨number, kind, a.id, now, a.level, a.ev⟩) rfl hg ⟨tg, rfl⟩ (by omega)
  intro bv' al' hg'
  have hfit : bv'.fit = true ∧ bv'.cells = [bv'] := by rcases hg' with ⟨rfl, _⟩ | ⟨cs, t, rfl, _⟩ <;> exact ⟨rfl, rfl⟩
  have hN : bv'.names = none := hg'.names
  have hb1 : (H.tok al').os B.b = some (.arr 1 [[bv]]) := hb
  apply asth (o := .arr 1 [[bv']]) rfl hfit.1 (by rw [hfit.2]; rfl) (by rw [hfit.2]; simp only [hb1]; rfl)
  have hnum1 : ((H.tok al').set B.b (some (.arr 1 [[bv']]))).os B.n = some (.arr 1 [[.int .i64 number]]) := by rw [os_ne _ _ hB.nb]; exact hnum
  refine naw ?_
  apply asth (o := .arr 1 [[.int .i64 (number + 1)]]) rfl (by rfl) (by rfl) (by simp only [hnum1]; rfl)
  refine naw ?_
  apply qfn rfl (by rfl) aheap_le
  refine ⟨rfl, bv', hg', ⟨?_, ?_, ?_, ?_⟩, fun j h1 h2 h3 => ?_⟩
  · rw [os_ne _ _ hB.fn, os_ne _ _ hB.fb]; exact hf
  · exact AHeap.os_set _ _ _
  · rw [os_ne _ _ (Ne.symm hB.nb)]; exact AHeap.os_set _ _ _
  · rw [os_ne _ _ (Ne.symm hB.nw), os_ne _ _ (Ne.symm hB.bw)]; exact hw
  · rw [os_ne _ _ h2, os_ne _ _ h3]; rfl
end Go.Proofs.Ytkdphdcpofcnjaa

/- K35: seat 36: what the program's Step computes. -/
namespace Go.Proofs.Ytkdphdcpofcnjaa
open Go Abs
set_option linter.unusedSimpArgs false
set_option linter.unusedVariables false
set_option maxHeartbeats 2000000

/-- What a step does to an alert that follows the event of this number; the kind of the bulletin, if there is one. -/
def stepA (p : Policy) (es : List Event) (now : Int) (a : Alert) (k : Int) : Alert × Option Int :=
  if a.wd then (a, none) else
  match (if 0 ≤ k then es[k.toNat]? else none) with
  | none => (⟨a.id, true, a.name, a.level, a.ev, now⟩, some 3)
  | some e =>
    if lev p e = 0 then (⟨a.id, true, e.name, a.level, a.ev, now⟩, some 3)
    else if now - a.tm ≥ p.every ∧ mv p a.ev e = true then (⟨a.id, false, e.name, lev p e, e, now⟩, some 2)
    else (⟨a.id, false, e.name, a.level, a.ev, a.tm⟩, none)

structure St where
  out : List Alert
  bs : List Bulletin
def f1 (p : Policy) (es : List Event) (now n0 : Int) (s : St) (x : Alert × Int) : St :=
  ⟨s.out ++ [(stepA p es now x.1 x.2).1], match (stepA p es now x.1 x.2).2 with
    | none => s.bs
    | some kd => s.bs ++ [⟨n0 + s.bs.length, kd, (stepA p es now x.1 x.2).1.id, now, (stepA p es now x.1 x.2).1.level, (stepA p es now x.1 x.2).1.ev⟩]⟩
def f2 (p : Policy) (ks : List Int) (now n0 : Int) (s : St) (x : Event × Nat) : St :=
  if (x.2 : Int) ∈ ks ∨ tly p x.1 now = false then s
  else ⟨s.out ++ [⟨n0 + s.bs.length, false, x.1.name, lev p x.1, x.1, now⟩], s.bs ++ [⟨n0 + s.bs.length, 1, n0 + s.bs.length, now, lev p x.1, x.1⟩]⟩
def S1 (p : Policy) (es : List Event) (now n0 : Int) (l : List Alert) (ks : List Int) (i : Nat) : St := ((l.zip ks).take i).foldl (f1 p es now n0) ⟨[], []⟩
def S2 (p : Policy) (es : List Event) (now n0 : Int) (l : List Alert) (ks : List Int) (k : Nat) : St := ((es.zipIdx).take k).foldl (f2 p ks now n0) (S1 p es now n0 l ks l.length)

theorem S1_succ {p : Policy} {es : List Event} {now n0 : Int} {l : List Alert} {ks : List Int} {i : Nat} {a : Alert} {k : Int} (ha : l[i]? = some a) (hk : ks[i]? = some k) : S1 p es now n0 l ks (i + 1) = f1 p es now n0 (S1 p es now n0 l ks i) (a, k) := by
  unfold S1
  have : (l.zip ks)[i]? = some (a, k) := by rw [List.getElem?_zip_eq_some]; exact ⟨ha, hk⟩
  rw [List.take_add_one, this, List.foldl_append]
  rfl
theorem S2_succ {p : Policy} {es : List Event} {now n0 : Int} {l : List Alert} {ks : List Int} {k : Nat} {e : Event} (he : es[k]? = some e) : S2 p es now n0 l ks (k + 1) = f2 p ks now n0 (S2 p es now n0 l ks k) (e, k) := by
  unfold S2
  have : (es.zipIdx)[k]? = some (e, k) := by rw [List.getElem?_zipIdx, he]; simp
  rw [List.take_add_one, this, List.foldl_append]
  rfl
theorem S1_len {p : Policy} {es : List Event} {now n0 : Int} {l : List Alert} {ks : List Int} (hl : ks.length = l.length) : ∀ {i : Nat}, i ≤ l.length → (S1 p es now n0 l ks i).out.length = i ∧ (S1 p es now n0 l ks i).bs.length ≤ i
  | 0, _ => ⟨rfl, Nat.le_refl _⟩
  | i + 1, h => by
    obtain ⟨h1, h2⟩ := S1_len (p := p) (es := es) (now := now) (n0 := n0) hl (i := i) (by omega)
    rw [S1_succ (List.getElem?_eq_getElem (by omega)) (List.getElem?_eq_getElem (by omega))]
    unfold f1
    refine ⟨by simp [h1], ?_⟩
    simp only
    split
    · omega
    · simp; omega
theorem S1_out {p : Policy} {es : List Event} {now n0 : Int} {l : List Alert} {ks : List Int} (hl : ks.length = l.length) : ∀ {i : Nat}, i ≤ l.length → ∀ (j : Nat) (a : Alert) (k : Int), j < i → l[j]? = some a → ks[j]? = some k → (S1 p es now n0 l ks i).out[j]? = some (stepA p es now a k).1
  | 0, _, j, a, k, hj, _, _ => absurd hj (by omega)
  | i + 1, h, j, a, k, hj, ha, hk => by
    have hlen := (S1_len (p := p) (es := es) (now := now) (n0 := n0) hl (i := i) (by omega)).1
    rw [S1_succ (List.getElem?_eq_getElem (by omega)) (List.getElem?_eq_getElem (by omega))]
    unfold f1
    simp only
    by_cases hji : j = i
    · subst hji
      rw [List.getElem?_append_right (by omega), hlen, Nat.sub_self]
      have e1 : l[j]'(by omega) = a := by rw [List.getElem?_eq_getElem (by omega)] at ha; exact Option.some.inj ha
      have e2 : ks[j]'(by omega) = k := by rw [List.getElem?_eq_getElem (by omega)] at hk; exact Option.some.inj hk
      simp [e1, e2]
    · rw [List.getElem?_append_left (by omega)]
      exact S1_out hl (by omega) j a k (by omega) ha hk
theorem S2_len {p : Policy} {es : List Event} {now n0 : Int} {l : List Alert} {ks : List Int} (hl : ks.length = l.length) : ∀ {k : Nat}, k ≤ es.length → (S2 p es now n0 l ks k).out.length ≤ l.length + k ∧ (S2 p es now n0 l ks k).bs.length ≤ l.length + k
  | 0, _ => by
    have := S1_len (p := p) (es := es) (now := now) (n0 := n0) hl (i := l.length) (Nat.le_refl _)
    exact ⟨by show (S1 p es now n0 l ks l.length).out.length ≤ _; omega, by show (S1 p es now n0 l ks l.length).bs.length ≤ _; omega⟩
  | k + 1, h => by
    obtain ⟨h1, h2⟩ := S2_len (p := p) (es := es) (now := now) (n0 := n0) hl (k := k) (by omega)
    rw [S2_succ (List.getElem?_eq_getElem (by omega))]
    unfold f2
    split
    · exact ⟨by omega, by omega⟩
    · exact ⟨by simp; omega, by simp; omega⟩
end Go.Proofs.Ytkdphdcpofcnjaa

/- K36: contracts of seat 36: the program's Step, walked. -/
namespace Go.Proofs.Ytkdphdcpofcnjaa
open Go Abs
set_option linter.unusedSimpArgs false
set_option linter.unusedVariables false
set_option maxHeartbeats 2000000
attribute [local irreducible] Go.IntKind.wrap

/-- A variable on the heap, empty. -/
theorem anewh {C : Con} {K : ASt → Prop} {env : Abs.Env} {loc : Abs.Loc} {h : AHeap} {i : Nat} {dst : Option Nat} {r : List AIns} {zs : List AV} (hh : ∀ l, h.os l = none → AO C r ⟨env.put dst (some (.hp l 0 0)), loc, h.set l (some (.arr zs.length [zs]))⟩ K) :
    AO C (⟨i, none, dst, .newh zs, [], []⟩ :: r) ⟨env, loc, h⟩ K :=
  aact rfl rfl (fun l hl => ⟨by simp, hh l hl⟩)

def Box.out (B : Box) (j : Nat) : Prop := j ≠ B.f ∧ j ≠ B.n ∧ j ≠ B.b ∧ j ≠ B.w
/-- The heap under way: the shared variables, the alerts (ov), nothing else. -/
structure LH (h : AHeap) (B : Box) (number now : Int) (bs : List Bulletin) (bv : AV) (L : List Alert) (ov : AV) (H : AHeap) : Prop where
  box : BoxH B number now bv H
  grow : Grow 30 IsBu h bv bs H.al
  arr : (L = [] ∧ (ov = .nils ∨ ov = .sl 38 [] .full) ∧ ∀ j, B.out j → H.os j = h.os j) ∨
    ∃ (l2 c : Nat) (cs rest : List (List AV)), ov = .hm l2 38 0 L.length c ∧ L ≠ [] ∧ c = cs.length + rest.length ∧ All2 IsAl cs L ∧ h.os l2 = none ∧ B.out l2 ∧ H.os l2 = some (.arr 38 (cs ++ rest)) ∧ ∀ j, B.out j → j ≠ l2 → H.os j = h.os j
theorem LH.names {h : AHeap} {B : Box} {number now : Int} {bs : List Bulletin} {bv : AV} {L : List Alert} {ov : AV} {H : AHeap} (a : LH h B number now bs bv L ov H) : ov.names = none := by
  rcases a.arr with ⟨_, rfl | rfl, _⟩ | ⟨l2, c, cs, rest, rfl, _⟩ <;> rfl
theorem LH.init {h H2 H3 : AHeap} {B : Box} {number now : Int} {l : List Alert} {ov : AV} (hH : BoxH B number now .nils H2) (hk : ∀ j, B.out j → H2.os j = h.os j) (hal : H2.al = h.al) (hA : ArrA H2 l ov H3) : LH h B number now [] .nils l ov H3 := by
  rcases hA with ⟨rfl, hu, hh⟩ | ⟨l2, c, cs, rest, rfl, hne, hc, hcs, hl2, rfl⟩
  · subst hh
    exact ⟨hH, .inl ⟨rfl, rfl, hal⟩, .inl ⟨rfl, hu, hk⟩⟩
  · have hf : B.f ≠ l2 := fun e => by have := hH.f; rw [e, hl2] at this; cases this
    have hn : B.n ≠ l2 := fun e => by have := hH.n; rw [e, hl2] at this; cases this
    have hb : B.b ≠ l2 := fun e => by have := hH.b; rw [e, hl2] at this; cases this
    have hw : B.w ≠ l2 := fun e => by have := hH.w; rw [e, hl2] at this; cases this
    have hout : B.out l2 := ⟨Ne.symm hf, Ne.symm hn, Ne.symm hb, Ne.symm hw⟩
    refine ⟨⟨by rw [os_ne _ _ hf]; exact hH.f, by rw [os_ne _ _ hn]; exact hH.n, by rw [os_ne _ _ hb]; exact hH.b, by rw [os_ne _ _ hw]; exact hH.w⟩, .inl ⟨rfl, rfl, hal⟩,
      .inr ⟨l2, c, cs, rest, rfl, hne, hc, hcs, by rw [← hk l2 hout]; exact hl2, hout, AHeap.os_set _ _ _, fun j hj hne => by rw [os_ne _ _ hne]; exact hk j hj⟩⟩

theorem asthEk {C : Con} {K : ASt → Prop} {env : Abs.Env} {loc : Abs.Loc} {h : AHeap} {i : Nat} {dst : Option Nat} {args : List Opd} {r : List AIns} {n l a b sz : Nat} {x : AV} {xs : List (List AV)} {e : List AV} {y : Opd × Nat × Bool} (ha : ASt.args ⟨env, loc, h⟩ (.sth n) args = some [.hp l a b, x]) (hf : x.fit = true) (hn : x.cells.length = n) (ho : h.os l = some (.arr sz xs)) (he : xs[a]? = some e) (hb : b + n ≤ e.length)
    (hk : ∀ h' : AHeap, (∀ j, j ≠ l → h'.os j = h.os j) → ASt.ldA ⟨env.put dst (some (.tup [])), loc, h'⟩ y = ASt.ldA ⟨env, loc, h⟩ y)
    (hh : AO C r ⟨env.put dst (some (.tup [])), loc, h.set l (some (.arr sz (xs.set a (e.take b ++ x.cells ++ e.drop (b + x.cells.length)))))⟩ K) : AO C (⟨i, none, dst, .sth n, args, [y]⟩ :: r) ⟨env, loc, h⟩ K :=
  aact rfl ha ⟨hf, hn, _, (by simp only [wrObj, ho, wrElem, he, hn, if_pos hb, Option.map_some]), fun z hz => (by simp only [List.mem_singleton] at hz; subst hz; exact hk _ fun j hj => by rw [os_ne _ _ hj]), hh⟩
theorem LH.upd {h : AHeap} {B : Box} {number now : Int} {bs : List Bulletin} {bv : AV} {L L' : List Alert} {l2 n c : Nat} {H : AHeap} (hL : LH h B number now bs bv L (.hm l2 38 0 n c) H) {cs cs' rest : List (List AV)} (ho : H.os l2 = some (.arr 38 (cs ++ rest))) (hcs : All2 IsAl cs' L') (hlen : cs'.length = cs.length) (hL' : L'.length = L.length) :
    LH h B number now bs bv L' (.hm l2 38 0 n c) (H.set l2 (some (.arr 38 (cs' ++ rest)))) := by
  rcases hL.arr with ⟨_, hu, _⟩ | ⟨l3, c3, cs0, rest0, e, hne, hc, hcs0, hl2, hout, hos, hk⟩
  · rcases hu with hu | hu <;> cases hu
  · cases e
    rw [ho] at hos
    simp only [Option.some.injEq, AObj.arr.injEq, true_and] at hos
    have hll : cs.length + rest.length = cs0.length + rest0.length := by rw [← List.length_append, hos, List.length_append]
    refine ⟨⟨by rw [os_ne _ _ (Ne.symm hout.1)]; exact hL.box.f, by rw [os_ne _ _ (Ne.symm hout.2.1)]; exact hL.box.n, by rw [os_ne _ _ (Ne.symm hout.2.2.1)]; exact hL.box.b, by rw [os_ne _ _ (Ne.symm hout.2.2.2)]; exact hL.box.w⟩, hL.grow,
      .inr ⟨l2, c, cs', rest, by rw [hL'], fun e => hne (List.length_eq_zero_iff.1 (by rw [← hL', e]; rfl)), by omega, hcs, hl2, hout, AHeap.os_set _ _ _, fun j hj hne => by rw [os_ne _ _ hne]; exact hk j hj hne⟩⟩
theorem LH.pub {h : AHeap} {B : Box} {number now : Int} {bs : List Bulletin} {b : Bulletin} {bv bv' : AV} {L : List Alert} {ov : AV} {H H' : AHeap} (hL : LH h B number now bs bv L ov H) (hg : Grow 30 IsBu h bv' (bs ++ [b]) H'.al) (hB : BoxH B (number + 1) now bv' H') (hk : ∀ j, j ≠ B.f → j ≠ B.n → j ≠ B.b → H'.os j = H.os j) :
    LH h B (number + 1) now (bs ++ [b]) bv' L ov H' := by
  refine ⟨hB, hg, ?_⟩
  rcases hL.arr with ⟨h1, hu, h2⟩ | ⟨l3, c3, cs0, rest0, e, hne, hc, hcs0, hl2, hout, hos, hk2⟩
  · exact .inl ⟨h1, hu, fun j hj => by rw [hk j hj.1 hj.2.1 hj.2.2.1]; exact h2 j hj⟩
  · exact .inr ⟨l3, c3, cs0, rest0, e, hne, hc, hcs0, hl2, hout, by rw [hk l3 hout.1 hout.2.1 hout.2.2.1]; exact hos, fun j hj hne => by rw [hk j hj.1 hj.2.1 hj.2.2.1]; exact hk2 j hj hne⟩

theorem LH.app0 {h : AHeap} {B : Box} {number now : Int} {bs : List Bulletin} {bv : AV} {ov : AV} {H : AHeap} (hL : LH h B number now bs bv [] ov H) {l3 c3 : Nat} {x : List AV} {z : Alert} {rest : List (List AV)} (hl3 : H.os l3 = none) (hx : IsAl x z) (hc : c3 = 1 + rest.length) :
    LH h B number now bs bv [z] (.hm l3 38 0 1 c3) (H.set l3 (some (.arr 38 ([x] ++ rest)))) := by
  have hf : B.f ≠ l3 := fun e => by have := hL.box.f; rw [e, hl3] at this; cases this
  have hn : B.n ≠ l3 := fun e => by have := hL.box.n; rw [e, hl3] at this; cases this
  have hb : B.b ≠ l3 := fun e => by have := hL.box.b; rw [e, hl3] at this; cases this
  have hw : B.w ≠ l3 := fun e => by have := hL.box.w; rw [e, hl3] at this; cases this
  have hout : B.out l3 := ⟨Ne.symm hf, Ne.symm hn, Ne.symm hb, Ne.symm hw⟩
  rcases hL.arr with ⟨_, _, hk⟩ | ⟨l2, c, cs, rest, _, hne, _⟩
  · exact ⟨⟨by rw [os_ne _ _ hf]; exact hL.box.f, by rw [os_ne _ _ hn]; exact hL.box.n, by rw [os_ne _ _ hb]; exact hL.box.b, by rw [os_ne _ _ hw]; exact hL.box.w⟩, hL.grow,
      .inr ⟨l3, c3, [x], rest, rfl, by simp, by simpa using hc, .cons hx .nil, by rw [← hk l3 hout]; exact hl3, hout, AHeap.os_set _ _ _, fun j hj hne => by rw [os_ne _ _ hne]; exact hk j hj⟩⟩
  · exact absurd rfl hne
theorem LH.app1 {h : AHeap} {B : Box} {number now : Int} {bs : List Bulletin} {bv : AV} {L : List Alert} {l2 n c : Nat} {H : AHeap} (hL : LH h B number now bs bv L (.hm l2 38 0 n c) H) {cs rest : List (List AV)} {x : List AV} {z : Alert} (hcs : All2 IsAl cs L) (hx : IsAl x z) (hc : c = cs.length + rest.length) (hr : 1 ≤ rest.length) :
    LH h B number now bs bv (L ++ [z]) (.hm l2 38 0 (n + 1) c) (H.set l2 (some (.arr 38 (cs ++ [x] ++ rest.drop 1)))) := by
  rcases hL.arr with ⟨_, hu, _⟩ | ⟨l3, c3, cs0, rest0, e, hne, hc0, hcs0, hl2, hout, hos, hk⟩
  · rcases hu with hu | hu <;> cases hu
  · cases e
    exact ⟨⟨by rw [os_ne _ _ (Ne.symm hout.1)]; exact hL.box.f, by rw [os_ne _ _ (Ne.symm hout.2.1)]; exact hL.box.n, by rw [os_ne _ _ (Ne.symm hout.2.2.1)]; exact hL.box.b, by rw [os_ne _ _ (Ne.symm hout.2.2.2)]; exact hL.box.w⟩, hL.grow,
      .inr ⟨l2, c, cs ++ [x], rest.drop 1, by simp, by simp, by simp; omega, hcs.snoc hx, hl2, hout, AHeap.os_set _ _ _, fun j hj hne => by rw [os_ne _ _ hne]; exact hk j hj hne⟩⟩
theorem LH.app2 {h : AHeap} {B : Box} {number now : Int} {bs : List Bulletin} {bv : AV} {L : List Alert} {l2 n c : Nat} {H : AHeap} (hL : LH h B number now bs bv L (.hm l2 38 0 n c) H) {l3 c3 : Nat} {cs rest : List (List AV)} {x : List AV} {z : Alert} (hcs : All2 IsAl cs L) (hl3 : H.os l3 = none) (hx : IsAl x z) (hc : c3 = cs.length + 1 + rest.length) :
    LH h B number now bs bv (L ++ [z]) (.hm l3 38 0 (n + 1) c3) ((H.set l2 none).set l3 (some (.arr 38 (cs ++ [x] ++ rest)))) := by
  have hf : B.f ≠ l3 := fun e => by have := hL.box.f; rw [e, hl3] at this; cases this
  have hn : B.n ≠ l3 := fun e => by have := hL.box.n; rw [e, hl3] at this; cases this
  have hb : B.b ≠ l3 := fun e => by have := hL.box.b; rw [e, hl3] at this; cases this
  have hw : B.w ≠ l3 := fun e => by have := hL.box.w; rw [e, hl3] at this; cases this
  have ho3 : B.out l3 := ⟨Ne.symm hf, Ne.symm hn, Ne.symm hb, Ne.symm hw⟩
  rcases hL.arr with ⟨_, hu, _⟩ | ⟨l4, c4, cs0, rest0, e, hne, hc0, hcs0, hl2, hout, hos, hk⟩
  · rcases hu with hu | hu <;> cases hu
  · cases e
    have h32 : l3 ≠ l2 := fun e => by rw [e, hos] at hl3; cases hl3
    refine ⟨⟨by rw [os_ne _ _ hf, os_ne _ _ (Ne.symm hout.1)]; exact hL.box.f, by rw [os_ne _ _ hn, os_ne _ _ (Ne.symm hout.2.1)]; exact hL.box.n, by rw [os_ne _ _ hb, os_ne _ _ (Ne.symm hout.2.2.1)]; exact hL.box.b, by rw [os_ne _ _ hw, os_ne _ _ (Ne.symm hout.2.2.2)]; exact hL.box.w⟩, hL.grow,
      .inr ⟨l3, c3, cs ++ [x], rest, by simp, by simp, by simp; omega, hcs.snoc hx, by rw [← hk l3 ho3 h32]; exact hl3, ho3, AHeap.os_set _ _ _, fun j hj hne => ?_⟩⟩
    rw [os_ne _ _ hne]
    by_cases hj2 : j = l2
    · subst hj2; rw [AHeap.os_set, hl2]
    · rw [os_ne _ _ hj2]; exact hk j hj hj2

theorem LH.len_eq {h : AHeap} {B : Box} {number now : Int} {bs : List Bulletin} {bv : AV} {L : List Alert} {ov : AV} {H : AHeap} (a : LH h B number now bs bv L ov H) : lenV ov = some (.int .i64 L.length) := by
  rcases a.arr with ⟨rfl, rfl | rfl, _⟩ | ⟨l2, c, cs, rest, rfl, _⟩ <;> rfl
section
variable {C : Con} {K : ASt → Prop} {env : Abs.Env} {loc : Abs.Loc} {i : Nat} {dst : Option Nat} {args : List Opd} {r : List AIns}
theorem alenL {h H : AHeap} {B : Box} {number now : Int} {bs : List Bulletin} {bv : AV} {L : List Alert} {ov : AV} (ha : ASt.args ⟨env, loc, H⟩ .len args = some [ov]) (a : LH h B number now bs bv L ov H)
    (hh : AO C r ⟨env.put dst (some (.int .i64 L.length)), loc, H⟩ K) : AO C (⟨i, none, dst, .len, args, []⟩ :: r) ⟨env, loc, H⟩ K :=
  apass rfl ha (by simp [pval, a.len_eq]) hh
/-- An append to the alerts under way. -/
theorem aappA {h H : AHeap} {B : Box} {number now : Int} {bs : List Bulletin} {bv : AV} {L : List Alert} {ov : AV} {mx : Nat} {zs x : List AV} {z : Alert} {tg' : Tag} (ha : ASt.args ⟨env, loc, H⟩ (.appm zs mx) args = some [ov, .sl zs.length [x] tg']) (hL : LH h B number now bs bv L ov H) (hzs : zs.length = 38) (hx : IsAl x z) (hmx : L.length + 1 ≤ mx)
    (hh : ∀ ov' H', LH h B number now bs bv (L ++ [z]) ov' H' → AO C r ⟨env.put dst (some ov'), loc, H'⟩ K) : AO C (⟨i, none, dst, .appm zs mx, args, []⟩ :: r) ⟨env, loc, H⟩ K := by
  rcases hL.arr with ⟨rfl, hu, hk⟩ | ⟨l2, c, cs, rest, rfl, hne, hc, hcs, hl2, hout, hos, hk⟩
  · refine aappm0 ha (by rw [hzs]; exact hu) (by simp) (by simpa using hmx) fun l3 c3 hl3 hc3 => ?_
    refine hh _ _ ?_
    rw [hzs]
    exact hL.app0 (rest := List.replicate (c3 - 1) zs) hl3 hx (by simp at hc3 ⊢; omega)
  · have hcl := hcs.len
    have e1 : (cs ++ rest).take L.length = cs := by rw [← hcl]; exact List.take_left' rfl
    have e2 : (cs ++ rest).drop (L.length + [x].length) = rest.drop 1 := by rw [← hcl, List.length_singleton, ← List.drop_drop, List.drop_left' rfl]
    refine aappm1 (l := l2) (n := L.length) (c := c) (xs := cs ++ rest) (by rw [ha, hzs]) (by rw [hzs]; exact hos) (by omega) (by simp; omega) (by simp) (by simpa using hmx) (fun h1 => ?_) (fun h2 l3 c3 hl3 hc3 => ?_)
    · refine hh _ _ ?_
      rw [hzs, e1, e2]
      exact hL.app1 hcs hx hc (by simp at h1; omega)
    · refine hh _ _ ?_
      rw [hzs, e1]
      exact hL.app2 (rest := List.replicate (c3 - (L.length + [x].length)) zs) hcs hl3 hx (by simp at h2 hc3 ⊢; omega)
end

theorem c11 {h : AHeap} {p : Policy} {t : Tag} {v w : AV} {l : List Alert} {es : List Event} {number now : Int} (hp : p.good) (hv : IsSl 38 IsAl v l) (hw : IsSl 25 IsEv w es) (hli : LInv l number now) (hl : l.length ≤ 100) (hes : es.length ≤ 20) (hev : EvV es)
    (hge : ∀ e ∈ es, e.good) (hne : es.Pairwise fun a b => a.name ≠ b.name) (hn : 0 ≤ number ∧ number ≤ 500) (hnow : 0 ≤ now ∧ now ≤ 1000000) :
    ACalls PR 11 [.agg (polc p t), v, .int .i64 number, w, .int .i64 now] h fun u h' => (∃ ov bv ks, u = .tup [ov, bv, .int .i64 0] ∧ IsSl 38 IsAl ov (S2 p es now number l ks es.length).out ∧ IsSl 30 IsBu bv (S2 p es now number l ks es.length).bs ∧ FolOk l es.length ks ∧ ks.length = l.length ∧ Named l es ks) ∧ h = h' := by
  refine fn_sound at11 ok11 (Nat.le_of_ble_eq_true rfl) (afn ?_)
  show AW _ C11 _ _
  unfold C11
  unfold polc
  have hN : v.names = none ∧ w.names = none := ⟨hv.names, hw.names⟩
  have hse : ∀ e ∈ es, e.small := fun e he => (hge e he).small
  have hsa : ∀ a ∈ l, a.small := fun a ha => (hli.good a ha).small.2
  refine nav ?_
  apply aboxh rfl (by rfl)
  intro ln hln
  apply aboxh rfl (by rfl)
  intro lw hlw
  have hwn : lw ≠ ln := by rintro rfl; rw [AHeap.os_set] at hlw; cases hlw
  have hlw0 : h.os lw = none := by rw [os_ne _ _ hwn] at hlw; exact hlw
  have ho1 : ((h.set ln (some (.arr 1 [[.int .i64 number]]))).set lw (some (.arr 1 [[.int .i64 now]]))).os ln = some (.arr 1 [[.int .i64 number]]) := by rw [os_ne _ _ (Ne.symm hwn)]; exact AHeap.os_set _ _ _
  have ho2 : ((h.set ln (some (.arr 1 [[.int .i64 number]]))).set lw (some (.arr 1 [[.int .i64 now]]))).os lw = some (.arr 1 [[.int .i64 now]]) := AHeap.os_set _ _ _
  have hkeep : ∀ j, j ≠ ln → j ≠ lw → ((h.set ln (some (.arr 1 [[.int .i64 number]]))).set lw (some (.arr 1 [[.int .i64 now]]))).os j = h.os j := fun j h1 h2 => by rw [os_ne _ _ h2, os_ne _ _ h1]
  have hal : ((h.set ln (some (.arr 1 [[.int .i64 number]]))).set lw (some (.arr 1 [[.int .i64 now]]))).al = h.al := rfl
  show AO _ _ ⟨_, _, (h.set ln (some (.arr 1 [[.int .i64 number]]))).set lw (some (.arr 1 [[.int .i64 now]]))⟩ _
  generalize (h.set ln (some (.arr 1 [[.int .i64 number]]))).set lw (some (.arr 1 [[.int .i64 now]])) = H at *
  refine nav ?_
  apply acallpp monoR rfl (by simp only [List.all_cons, List.all_nil, AV.plain, hN]; rfl) (c24 (p := p) (t := t) hp hv hw hli (by omega) hev (by omega) hnow)
  rintro _ _ ⟨rfl, rfl⟩
  refine ⟨rfl, rfl, ?_⟩
  have hz : (!decide ((0 : Int) = 0)) = false := rfl
  refine nav ?_
  apply anewh
  intro lb hlb
  refine nav ?_
  apply anewh
  intro lf hlf
  refine nav ?_
  have hbn : lb ≠ ln := by rintro rfl; rw [ho1] at hlb; cases hlb
  have hbw : lb ≠ lw := by rintro rfl; rw [ho2] at hlb; cases hlb
  have hfb : lf ≠ lb := by rintro rfl; rw [AHeap.os_set] at hlf; cases hlf
  have hlf0 : H.os lf = none := by rw [os_ne _ _ hfb] at hlf; exact hlf
  have hfn : lf ≠ ln := by rintro rfl; rw [ho1] at hlf0; cases hlf0
  have hfw : lf ≠ lw := by rintro rfl; rw [ho2] at hlf0; cases hlf0
  have hlb0 : h.os lb = none := by rw [hkeep lb hbn hbw] at hlb; exact hlb
  have hlf00 : h.os lf = none := by rw [hkeep lf hfn hfw] at hlf0; exact hlf0
  apply asth (o := .arr 1 [[.bool false]]) rfl (by rfl) (by rfl) (by rw [AHeap.os_set]; rfl)
  rw [set_set]
  have hB : Box.ok ⟨lf, ln, lb, lw⟩ := ⟨hfn, hfb, hfw, Ne.symm hbn, Ne.symm hwn, hbw⟩
  have hH : BoxH ⟨lf, ln, lb, lw⟩ number now .nils ((H.set lb (some (.arr 1 [[.nils]]))).set lf (some (.arr 1 [[.bool false]]))) :=
    ⟨AHeap.os_set _ _ _, by show AHeap.os _ ln = _; rw [os_ne _ _ (Ne.symm hfn), os_ne _ _ (Ne.symm hbn)]; exact ho1, by show AHeap.os _ lb = _; rw [os_ne _ _ (Ne.symm hfb)]; exact AHeap.os_set _ _ _,
      by show AHeap.os _ lw = _; rw [os_ne _ _ (Ne.symm hfw), os_ne _ _ (Ne.symm hbw)]; exact ho2⟩
  have hkeep2 : ∀ j, j ≠ lf → j ≠ ln → j ≠ lb → j ≠ lw → ((H.set lb (some (.arr 1 [[.nils]]))).set lf (some (.arr 1 [[.bool false]]))).os j = h.os j := fun j h1 h2 h3 h4 => by rw [os_ne _ _ h1, os_ne _ _ h3]; exact hkeep j h2 h4
  have hal2 : ((H.set lb (some (.arr 1 [[.nils]]))).set lf (some (.arr 1 [[.bool false]]))).al = h.al := hal
  show AO _ _ ⟨_, _, (H.set lb (some (.arr 1 [[.nils]]))).set lf (some (.arr 1 [[.bool false]]))⟩ _
  generalize (H.set lb (some (.arr 1 [[.nils]]))).set lf (some (.arr 1 [[.bool false]])) = H2 at *
  clear hkeep hal ho1 ho2 hlf hlf0 hlb hlw
  refine nav ?_
  apply acall monoR rfl (by simp only [List.all_cons, List.all_nil, AV.plain, hN]; rfl) (c27 hv (by omega) fun a ha => hli.good a ha)
  rintro ov H3 hA
  refine ⟨by simp only [AV.plain, hA.names]; rfl, ?_⟩
  have hN : v.names = none ∧ w.names = none ∧ ov.names = none := ⟨hv.names, hw.names, hA.names⟩
  refine nav ?_
  apply alenS rfl hw
  apply amkl rfl rfl rfl (by omega)
  refine nav ?_
  apply acallpp monoR rfl (by simp only [List.all_cons, List.all_nil, AV.plain, hN]; rfl) (c15 hv hw (by omega) (by omega) hsa hse hli.nms hne)
  rintro fv _ ⟨⟨ks, hks, hF, hkl, hNm⟩, rfl⟩
  refine ⟨rfl, by simp only [AV.plain, hks.names]; rfl, ?_⟩
  have hN : v.names = none ∧ w.names = none ∧ ov.names = none ∧ fv.names = none := ⟨hv.names, hw.names, hA.names, hks.names⟩
  refine nav ?_
  apply alenS rfl hks
  refine nav ?_
  rw [hkl]
  have hL0 : LH h ⟨lf, ln, lb, lw⟩ number now [] .nils l ov H3 := LH.init hH (fun j hj => hkeep2 j hj.1 hj.2.1 hj.2.2.1 hj.2.2.2) hal2 hA
  clear hA hH hkeep2 hal2
  refine aloop (fun q s => ∃ (i : Nat) (bv : AV) (tk : List Bool) (H : AHeap), q + i = l.length ∧ LH h ⟨lf, ln, lb, lw⟩ (number + (S1 p es now number l ks i).bs.length) now (S1 p es now number l ks i).bs bv ((S1 p es now number l ks i).out ++ l.drop i) ov H ∧
      (tk.length = es.length ∧ ∀ j : Nat, tk[j]? = some true ↔ (j < es.length ∧ (j : Int) ∈ ks.take i)) ∧
      s = ⟨Env.of [(3, some w), (5, some (.lp 5 0 0)), (7, some (.hp ln 0 0)), (9, some (.hp lw 0 0)), (14, some (.hp lb 0 0)), (15, some (.hp lf 0 0)), (16, some (.fn 25 [] [.hp lf 0 0, .hp ln 0 0, .hp lb 0 0, .hp lw 0 0])), (17, some ov), (18, some (.lm 40 1 0 es.length)),
          (43, some fv), (44, some (.int .i64 l.length)), (45, some (.int .i64 i))], Loc.of [(5, some (.arr 3 [polc p t])), (40, some (.arr 1 (bls tk)))], H⟩) l.length
    ⟨0, .nils, List.replicate es.length false, H3, by omega, by simpa [S1] using hL0, ⟨by simp, fun j => by simp [List.getElem?_replicate]⟩, by simp [bls, polc, AV.cells]⟩ ?_
  clear hL0
  rintro q s' ⟨i, bv, tk, H, hq, hL, hT, rfl⟩
  have hN : w.names = none ∧ ov.names = none ∧ fv.names = none := ⟨hw.names, hL.names, hks.names⟩
  unfold polc
  refine nav ?_
  refine acond rfl (fun hc => ?_) (fun hc => ?_)
  · have hlt : i < l.length := by have := of_decide_eq_true hc; omega
    have hla := List.getElem?_eq_getElem hlt
    have hki : ks[i]? = some ks[i] := List.getElem?_eq_getElem (by omega)
    have hkr := hF.rng _ (List.mem_of_getElem? hki)
    have hag := hli.good _ (List.getElem_mem hlt)
    have hat := hli.tms _ (List.getElem_mem hlt)
    obtain ⟨hs1, hs2⟩ := S1_len (p := p) (es := es) (now := now) (n0 := number) hkl (i := i) (by omega)
    have hst := S1_succ (p := p) (es := es) (now := now) (n0 := number) hla hki
    have hwdk := hF.wd i _ _ hki hla
    have hLi : ((S1 p es now number l ks i).out ++ l.drop i)[i]? = some l[i] := by rw [List.getElem?_append_right (by omega), hs1, Nat.sub_self, List.getElem?_drop]; exact hla
    have hLl : ((S1 p es now number l ks i).out ++ l.drop i).length = l.length := by simp [hs1]; omega
    have hdrop : l.drop i = l[i] :: l.drop (i + 1) := List.drop_eq_getElem_cons hlt
    generalize l[i] = a at *
    generalize ks[i] = k at *
    rcases hL.arr with ⟨hnil, _⟩ | ⟨l2, c, cs, rest, rfl, hne', hc2, hcs, hl20, hlo, hHo, hkeep⟩
    · rw [hnil] at hLl; simp at hLl; omega
    obtain ⟨x, hx, ta, hxa⟩ := hcs.get i hLi
    have hcl := hcs.len
    rw [hLl] at hcl
    have hx' : (cs ++ rest)[0 + i]? = some (alc a ta) := by rw [Nat.zero_add, List.getElem?_append_left (by omega), hx, hxa]
    rw [hLl] at hL ⊢
    unfold alc at hx'
    refine nav ?_
    apply aixS rfl rfl hks hki
    rintro _ rfl
    refine nav ?_
    refine acond rfl (fun hwd => ?_) (fun hwd => ?_)
    · have hsA : stepA p es now a k = (a, none) := by unfold stepA; rw [if_pos hwd]
      have hf1 : S1 p es now number l ks (i + 1) = ⟨(S1 p es now number l ks i).out ++ [a], (S1 p es now number l ks i).bs⟩ := by rw [hst]; simp only [f1, hsA]
      have hkneg : ¬ 0 ≤ k := fun h0 => by rw [hwdk h0] at hwd; cases hwd
      refine naw ?_
      refine ql_n (q - 1) (by omega) ⟨i + 1, bv, tk, H, by omega, ?_, ⟨hT.1, fun j => ?_⟩, rfl⟩
      · rw [hf1]
        simp only [List.append_assoc, List.singleton_append]
        rw [← hdrop]
        exact hL
      · rw [hT.2 j, List.take_add_one, hki]
        simp
        omega
    · apply askip
      apply qs_n
      apply aseq
      refine ajoin (fun s => s = ⟨Env.of [(3, some w), (5, some (.lp 5 0 0)), (7, some (.hp ln 0 0)), (9, some (.hp lw 0 0)), (14, some (.hp lb 0 0)), (15, some (.hp lf 0 0)), (16, some (.fn 25 [] [.hp lf 0 0, .hp ln 0 0, .hp lb 0 0, .hp lw 0 0])), (17, some (.hm l2 38 0 l.length c)), (18, some (.lm 40 1 0 es.length)), (20, some (.int .i64 k)), (21, some (.hp l2 (0 + i) 0)), (22, some (.int .i64 0)), (43, some fv), (44, some (.int .i64 l.length)), (45, some (.int .i64 i))], Loc.of [(5, some (.arr 3 [polc p t])), (40, some (.arr 1 (bls tk)))], H⟩) (fun Q' hE hO => ?_) ?_
      · refine nav ?_
        exact hE _ rfl
      rintro _ rfl
      apply qs_n
      apply aseq
      have hlenx : 0 + i < (cs ++ rest).length := by simp; omega
      refine ajoin (fun s => ∃ (nm : Pick) (lv : Nat) (tk' : List Bool) (H' : AHeap) (y : Nat) (x : Option AV), ((k < 0 ∧ nm = a.name ∧ lv = 0 ∧ tk' = tk ∧ H' = H) ∨ (∃ (kn : Nat) (e : Event), k = kn ∧ es[kn]? = some e ∧ nm = e.name ∧ lv = lev p e ∧ tk' = tk.set kn true ∧
          H' = H.set l2 (some (.arr 38 ((cs ++ rest).set (0 + i) (alc ⟨a.id, a.wd, e.name, a.level, a.ev, a.tm⟩ ta)))))) ∧
          s = ⟨Env.of [(3, some w), (5, some (.lp 5 0 0)), (7, some (.hp ln 0 0)), (9, some (.hp lw 0 0)), (14, some (.hp lb 0 0)), (15, some (.hp lf 0 0)), (16, some (.fn 25 [] [.hp lf 0 0, .hp ln 0 0, .hp lb 0 0, .hp lw 0 0])), (17, some (.hm l2 38 0 l.length c)), (18, some (.lm 40 1 0 es.length)), (20, some (.int .i64 k)), (21, some (.hp l2 (0 + i) 0)), (22, some (.int .i64 lv)), (43, some fv), (44, some (.int .i64 l.length)), (45, some (.int .i64 i)), (y, x)], Loc.of [(5, some (.arr 3 [polc p t])), (40, some (.arr 1 (bls tk')))], H'⟩) (fun Q' hE hO => ?_) ?_
      · unfold polc
        refine nav ?_
        refine acond rfl (fun hk0 => ?_) (fun hk0 => ?_)
        · have hk0' : 0 ≤ k := of_decide_eq_true hk0
          obtain ⟨kn, rfl⟩ : ∃ kn : Nat, k = kn := ⟨k.toNat, by omega⟩
          have hkn : kn < es.length := by omega
          have hek := List.getElem?_eq_getElem hkn
          have hkt : kn < tk.length := by rw [hT.1]; exact hkn
          have hbk : (bls tk)[0 + kn]? = some [.bool tk[kn]] := by rw [Nat.zero_add]; exact bls_get hkt
          obtain ⟨cs2, t2, c2', rfl, hx3, te, hc5⟩ := hw.at hek
          have hxe : cs2[kn]? = some (evc es[kn] te) := by rw [hx3, hc5]; rfl
          generalize es[kn] = e at *
          have k28 := c28 (h := H.set l2 (some (.arr 38 ((cs ++ rest).set (0 + i) (alc ⟨a.id, a.wd, e.name, a.level, a.ev, a.tm⟩ ta))))) (p := p) (t := t) (v := e) (te := te) hp
          unfold evc at hxe
          refine nav ?_
          apply aixl rfl rfl hkn
          refine nav ?_
          apply astE rfl (by rfl) (by rfl) rfl hbk (by simp)
          refine nav ?_
          apply asthE rfl (by rfl) (by rfl) hHo hx' (by simp)
          refine nav ?_
          apply acallpp monoR rfl (by rfl) k28
          rintro _ _ ⟨rfl, rfl⟩
          refine ⟨rfl, rfl, ?_⟩
          refine nav ?_
          refine hE _ ⟨e.name, lev p e, tk.set kn true, _, 0, none, .inr ⟨kn, e, rfl, hek, rfl, rfl, rfl, rfl⟩, ?_⟩
          rw [← bls_set]
          simp only [Env.of, env_nil_none, Nat.zero_add]
          rfl
        · refine nav ?_
          exact hE _ ⟨a.name, 0, tk, H, 58, _, .inl ⟨by have := of_decide_eq_false hk0; omega, rfl, rfl, rfl, rfl⟩, rfl⟩
      rintro s2 ⟨nm, lv, tk', H', y, x', hcase, rfl⟩
      apply qs_n
      obtain ⟨cs', hL', hHo', hcs', hcl', ta', hx2⟩ : ∃ cs', LH h ⟨lf, ln, lb, lw⟩ (number + (S1 p es now number l ks i).bs.length) now (S1 p es now number l ks i).bs bv ((S1 p es now number l ks i).out ++ ⟨a.id, a.wd, nm, a.level, a.ev, a.tm⟩ :: l.drop (i + 1)) (.hm l2 38 0 l.length c) H' ∧
          H'.os l2 = some (.arr 38 (cs' ++ rest)) ∧ All2 IsAl cs' ((S1 p es now number l ks i).out ++ ⟨a.id, a.wd, nm, a.level, a.ev, a.tm⟩ :: l.drop (i + 1)) ∧ cs'.length = cs.length ∧ ∃ ta', (cs' ++ rest)[0 + i]? = some (alc ⟨a.id, a.wd, nm, a.level, a.ev, a.tm⟩ ta') := by
        rcases hcase with ⟨_, rfl, _, _, rfl⟩ | ⟨kn, e, rfl, hek, rfl, _, _, rfl⟩
        · rw [hdrop] at hL hcs
          exact ⟨cs, hL, hHo, hcs, rfl, ta, by unfold alc; exact hx'⟩
        · have hset : (cs ++ rest).set (0 + i) (alc ⟨a.id, a.wd, e.name, a.level, a.ev, a.tm⟩ ta) = cs.set i (alc ⟨a.id, a.wd, e.name, a.level, a.ev, a.tm⟩ ta) ++ rest := by rw [Nat.zero_add, List.set_append_left _ _ (by omega)]
          have hall : All2 IsAl (cs.set i (alc ⟨a.id, a.wd, e.name, a.level, a.ev, a.tm⟩ ta)) ((S1 p es now number l ks i).out ++ ⟨a.id, a.wd, e.name, a.level, a.ev, a.tm⟩ :: l.drop (i + 1)) := by
            have := hcs.set i (x := alc ⟨a.id, a.wd, e.name, a.level, a.ev, a.tm⟩ ta) (y := ⟨a.id, a.wd, e.name, a.level, a.ev, a.tm⟩) ⟨ta, rfl⟩
            rw [hdrop, List.set_append_right _ _ (by omega), hs1, Nat.sub_self, List.set_cons_zero] at this
            exact this
          rw [hset]
          refine ⟨_, hL.upd hHo hall (by rw [List.length_set]) (by rw [hdrop]; simp), AHeap.os_set _ _ _, hall, by rw [List.length_set], ta, ?_⟩
          rw [Nat.zero_add, List.getElem?_append_left (by rw [List.length_set]; omega), List.getElem?_set_self (by omega)]
      have hlenx' : 0 + i < (cs' ++ rest).length := by simp; omega
      have hsetr : ∀ x, (cs' ++ rest).set (0 + i) x = cs'.set i x ++ rest := fun x => by rw [Nat.zero_add, List.set_append_left _ _ (by omega)]
      have hallr : ∀ (z : Alert) tg, All2 IsAl (cs'.set i (alc z tg)) ((S1 p es now number l ks i).out ++ z :: l.drop (i + 1)) := fun z tg => by
        have := hcs'.set i (x := alc z tg) (y := z) ⟨tg, rfl⟩
        rw [List.set_append_right _ _ (by omega), hs1, Nat.sub_self, List.set_cons_zero] at this
        exact this
      have hupd : ∀ (z : Alert) tg, LH h ⟨lf, ln, lb, lw⟩ (number + (S1 p es now number l ks i).bs.length) now (S1 p es now number l ks i).bs bv ((S1 p es now number l ks i).out ++ z :: l.drop (i + 1)) (.hm l2 38 0 l.length c) (H'.set l2 (some (.arr 38 ((cs' ++ rest).set (0 + i) (alc z tg))))) := fun z tg => by
        rw [hsetr]
        exact hL'.upd hHo' (hallr z tg) (by rw [List.length_set]) (by simp)
      have hnow' := hL'.box.w
      have hlow := hlo.2.2.2
      have hTk : tk'.length = es.length ∧ ∀ j : Nat, tk'[j]? = some true ↔ (j < es.length ∧ (j : Int) ∈ ks.take (i + 1)) := by
        rw [List.take_add_one, hki]
        rcases hcase with ⟨hk0, _, _, rfl, _⟩ | ⟨kn, e, rfl, hek, _, _, rfl, _⟩
        · exact ⟨hT.1, fun j => by rw [hT.2 j]; simp; omega⟩
        · have hkn := (List.getElem?_eq_some_iff.1 hek).1
          refine ⟨by rw [List.length_set]; exact hT.1, fun j => ?_⟩
          by_cases hj : j = kn
          · subst hj
            rw [List.getElem?_set_self (by rw [hT.1]; exact hkn)]
            simp [hkn]
          · rw [List.getElem?_set_ne (by omega), hT.2 j]
            simp; omega
      unfold alc at hx2
      dsimp only at hx2
      by_cases hlv : lv = 0
      · have hsA : stepA p es now a k = (⟨a.id, true, nm, a.level, a.ev, now⟩, some 3) := by
          unfold stepA
          rw [if_neg (by simp [hwd])]
          rcases hcase with ⟨hk0, rfl, _, _, _⟩ | ⟨kn, e, rfl, hek, rfl, hle, _, _⟩
          · rw [if_neg (by omega)]
          · rw [if_pos (by omega), Int.toNat_natCast, hek]
            simp only
            rw [if_pos (by omega)]
        subst hlv
        have hdz : decide (((0 : Nat) : Int) = 0) = true := rfl
        have hgs : ∀ z, ((cs' ++ rest).set (0 + i) z)[0 + i]? = some z := fun z => List.getElem?_set_self hlenx'
        repeat' (first | refine nat1 ?_ | (apply aeqs rfl (by rfl) (by rfl); intro be hbe) | (apply gaeqs rfl (by first | assumption | with_reducible rfl) rfl (by rfl) (by rfl); intro be hbe) | refine gpassS1 rfl rfl rfl rfl rfl (fun _ => ?_) (fun _ => ?_) | refine gpassS0 rfl rfl rfl rfl rfl (fun _ => ?_) (fun _ => ?_) | refine psplitA rfl (fun _ => ?_) (fun _ => ?_) | refine acond rfl (fun _ => ?_) (fun _ => ?_))
        apply asthEk rfl (by rfl) (by rfl) hHo' hx2 (by simp) (fun h' hh => by
          show Option.bind (objCells (h'.os lw) 0 0) (Abs.valOf false 1) = Option.bind (objCells (H'.os lw) 0 0) (Abs.valOf false 1)
          rw [hh lw (Ne.symm hlow)])
        refine nav ?_
        apply asthE rfl (by rfl) (by rfl) (AHeap.os_set _ _ _) (hgs _) (by simp [AV.cells])
        rw [set_set, List.set_set]
        refine nav ?_
        apply aldh rfl (AHeap.os_set _ _ _) (hgs _) rfl
        refine nav ?_
        have hU := hupd ⟨a.id, true, nm, a.level, a.ev, now⟩ ta'
        apply acallv monoR rfl (by rfl) (c25 (a := ⟨a.id, true, nm, a.level, a.ev, now⟩) (ta := ta') (kind := 3) hB hU.box hU.grow (by omega) (by omega) hag)
        rintro u H4 ⟨hup, bv', hg4, hB4, hk4⟩
        refine ⟨hup, ?_⟩
        have hP := hU.pub hg4 hB4 hk4
        refine naw ?_
        refine ql_n (q - 1) (by omega) ⟨i + 1, bv', tk', H4, by omega, ?_, hTk, rfl⟩
        rw [hst]
        simp only [f1, hsA]
        rw [List.length_append, List.length_singleton, Int.natCast_add, ← Int.add_assoc, List.append_assoc]
        exact hP
      · obtain ⟨kn, e, rfl, hek, rfl, rfl⟩ : ∃ (kn : Nat) (e : Event), k = kn ∧ es[kn]? = some e ∧ nm = e.name ∧ lv = lev p e := by
          rcases hcase with ⟨_, _, h0, _⟩ | ⟨kn, e, h1, h2, h3, h4, _⟩
          · exact absurd h0 hlv
          · exact ⟨kn, e, h1, h2, h3, h4⟩
        have hgs : ∀ z, ((cs' ++ rest).set (0 + i) z)[0 + i]? = some z := fun z => List.getElem?_set_self hlenx'
        have hdz : decide ((lev p e : Int) = 0) = false := decide_eq_false (by omega)
        have heg := hge e (List.mem_of_getElem? hek)
        obtain ⟨cs2, t2, c2', rfl, hx3, te, hc5⟩ := hw.at hek
        have hxe : cs2[kn]? = some (evc e te) := by rw [hx3, hc5]; rfl
        have k29 := c29 (h := H') (p := p) (t := t) (v := a.ev) (te := ta') (w := e) (te' := te) hp hag heg
        have hpe := hp.2.2.2
        have hstep : stepA p es now a (kn : Int) = if now - a.tm ≥ p.every ∧ mv p a.ev e = true then (⟨a.id, false, e.name, lev p e, e, now⟩, some 2) else (⟨a.id, false, e.name, a.level, a.ev, a.tm⟩, none) := by
          unfold stepA
          rw [if_neg (by simp [hwd]), if_pos (by omega), Int.toNat_natCast, hek]
          simp only
          rw [if_neg hlv]
        unfold evc at hxe
        -- nothing changes
        have hkeepK : ¬ (now - a.tm ≥ p.every ∧ mv p a.ev e = true) → LH h ⟨lf, ln, lb, lw⟩ (number + (S1 p es now number l ks (i + 1)).bs.length) now (S1 p es now number l ks (i + 1)).bs bv ((S1 p es now number l ks (i + 1)).out ++ l.drop (i + 1)) (.hm l2 38 0 l.length c) H' := fun hno => by
          rw [hst]
          simp only [f1, hstep, if_neg hno]
          rw [List.append_assoc, ← hwd]
          exact hL'
        by_cases hge1 : now - a.tm ≥ p.every
        · have hd1 : decide (now - a.tm ≥ p.every) = true := decide_eq_true hge1
          repeat' (first | refine nat1 ?_ | (apply acallpp monoR rfl (by rfl) k29; rintro _ _ ⟨rfl, rfl⟩; refine ⟨rfl, rfl, ?_⟩) | (apply gcallpp rfl (by first | assumption | with_reducible rfl) monoR rfl (by rfl) k29; rintro _ _ ⟨rfl, rfl⟩; refine ⟨rfl, rfl, ?_⟩) | (refine gcallS1 rfl monoR rfl (by rfl) k29 (fun _ => ?_) (fun _ => ?_); rintro _ _ ⟨rfl, rfl⟩; refine ⟨rfl, rfl, ?_⟩) | (refine gcallS0 rfl monoR rfl (by rfl) k29 (fun _ => ?_) (fun _ => ?_); rintro _ _ ⟨rfl, rfl⟩; refine ⟨rfl, rfl, ?_⟩) | (apply aeqs rfl (by rfl) (by rfl); intro be hbe) | (apply gaeqs rfl (by first | assumption | with_reducible rfl) rfl (by rfl) (by rfl); intro be hbe) | refine gpassS1 rfl rfl rfl rfl rfl (fun _ => ?_) (fun _ => ?_) | refine gpassS0 rfl rfl rfl rfl rfl (fun _ => ?_) (fun _ => ?_) | refine psplitA rfl (fun _ => ?_) (fun _ => ?_) | refine acond rfl (fun _ => ?_) (fun _ => ?_))
          · have hmv : mv p a.ev e = true := by assumption
            have hsA : stepA p es now a (kn : Int) = (⟨a.id, false, e.name, lev p e, e, now⟩, some 2) := by rw [hstep, if_pos ⟨hge1, hmv⟩]
            apply acallpp monoR rfl (by rfl) (c26 (v := e) (t := te) heg)
            rintro _ _ ⟨⟨tg, rfl⟩, rfl⟩
            refine ⟨rfl, rfl, ?_⟩
            unfold evc
            refine nav ?_
            apply asthEk rfl (by rfl) (by rfl) hHo' hx2 (by simp) (fun h' hh => by
              show Option.bind (objCells (h'.os lw) 0 0) (Abs.valOf false 1) = Option.bind (objCells (H'.os lw) 0 0) (Abs.valOf false 1)
              rw [hh lw (Ne.symm hlow)])
            refine nav ?_
            apply asthEk rfl (by rfl) (by rfl) (AHeap.os_set _ _ _) (hgs _) (by simp [AV.cells]) (fun h' hh => by
              show Option.bind (objCells (h'.os lw) 0 0) (Abs.valOf false 1) = Option.bind (objCells _ 0 0) (Abs.valOf false 1)
              rw [hh lw (Ne.symm hlow)])
            rw [set_set, List.set_set]
            refine nav ?_
            apply asthE rfl (by rfl) (by rfl) (AHeap.os_set _ _ _) (hgs _) (by simp [AV.cells])
            rw [set_set, List.set_set]
            refine nav ?_
            apply aldh rfl (AHeap.os_set _ _ _) (hgs _) rfl
            refine nav ?_
            have hU := hupd ⟨a.id, false, e.name, lev p e, e, now⟩ tg
            rw [hwd]
            apply acallv monoR rfl (by rfl) (c25 (a := ⟨a.id, false, e.name, lev p e, e, now⟩) (ta := tg) (kind := 2) hB hU.box hU.grow (by omega) (by omega) heg)
            rintro u H4 ⟨hup, bv', hg4, hB4, hk4⟩
            refine ⟨hup, ?_⟩
            have hP := hU.pub hg4 hB4 hk4
            refine naw ?_
            refine ql_n (q - 1) (by omega) ⟨i + 1, bv', tk', H4, by omega, ?_, hTk, rfl⟩
            rw [hst]
            simp only [f1, hsA]
            rw [List.length_append, List.length_singleton, Int.natCast_add, ← Int.add_assoc, List.append_assoc]
            exact hP
          · have hmv : mv p a.ev e = false := by assumption
            exact ql_n (q - 1) (by omega) ⟨i + 1, bv, tk', H', by omega, hkeepK (fun h => by rw [hmv] at h; exact absurd h.2 (by simp)), hTk, rfl⟩
        · have hd1 : decide (now - a.tm ≥ p.every) = false := decide_eq_false hge1
          repeat' (first | refine nat1 ?_ | (apply aeqs rfl (by rfl) (by rfl); intro be hbe) | (apply gaeqs rfl (by first | assumption | with_reducible rfl) rfl (by rfl) (by rfl); intro be hbe) | refine gpassS1 rfl rfl rfl rfl rfl (fun _ => ?_) (fun _ => ?_) | refine gpassS0 rfl rfl rfl rfl rfl (fun _ => ?_) (fun _ => ?_) | refine psplitA rfl (fun _ => ?_) (fun _ => ?_) | refine acond rfl (fun _ => ?_) (fun _ => ?_))
          exact ql_n (q - 1) (by omega) ⟨i + 1, bv, tk', H', by omega, hkeepK (fun h => hge1 h.1), hTk, rfl⟩
  · have hil : i = l.length := by have := of_decide_eq_false hc; omega
    subst hil
    rw [List.drop_of_length_le (Nat.le_refl _), List.append_nil] at hL
    rw [List.take_of_length_le (by omega)] at hT
    refine nav ?_
    apply alenS rfl hw
    refine nav ?_
    refine aloop (fun q s => ∃ (k : Nat) (ov bv : AV) (H : AHeap), q + k = es.length ∧ LH h ⟨lf, ln, lb, lw⟩ (number + (S2 p es now number l ks k).bs.length) now (S2 p es now number l ks k).bs bv (S2 p es now number l ks k).out ov H ∧
        s = ⟨Env.of [(5, some (.lp 5 0 0)), (7, some (.hp ln 0 0)), (9, some (.hp lw 0 0)), (14, some (.hp lb 0 0)), (15, some (.hp lf 0 0)), (16, some (.fn 25 [] [.hp lf 0 0, .hp ln 0 0, .hp lb 0 0, .hp lw 0 0])), (17, some ov), (18, some (.lm 40 1 0 es.length)),
          (135, some w), (136, some (.int .i64 es.length)), (137, some (.int .i64 k))], Loc.of [(5, some (.arr 3 [polc p t])), (40, some (.arr 1 (bls tk)))], H⟩) es.length
      ⟨0, ov, bv, H, by omega, hL, rfl⟩ ?_
    clear hL hN
    rintro q2 s2 ⟨k, ov, bv, H, hq2, hL, rfl⟩
    have hN : w.names = none ∧ ov.names = none := ⟨hw.names, hL.names⟩
    unfold polc
    refine nav ?_
    refine acond rfl (fun hc2 => ?_) (fun hc2 => ?_)
    · have hlt2 : k < es.length := by have := of_decide_eq_true hc2; omega
      have hek := List.getElem?_eq_getElem hlt2
      have heg := hge _ (List.getElem_mem hlt2)
      have hkt : k < tk.length := by rw [hT.1]; exact hlt2
      have hbk : (bls tk)[0 + k]? = some [.bool tk[k]] := by rw [Nat.zero_add]; exact bls_get hkt
      have hTk := hT.2 k
      have hst := S2_succ (p := p) (now := now) (n0 := number) (l := l) (ks := ks) hek
      obtain ⟨hs1, hs2⟩ := S2_len (p := p) (es := es) (now := now) (n0 := number) hkl (k := k) (by omega)
      obtain ⟨cs2, t2, c2', rfl, hx3, te, hc5⟩ := hw.at hek
      have hxe : cs2[k]? = some (evc es[k] te) := by rw [hx3, hc5]; rfl
      generalize es[k] = e at *
      have k30 := c30 (h := H) (p := p) (t := t) (v := e) (te := te) (now := now) hp heg hnow
      have k28 := c28 (h := H) (p := p) (t := t) (v := e) (te := te) hp
      have hnow' := hL.box.w
      have hnum' := hL.box.n
      unfold evc at hxe
      have hnf : (!false) = true := rfl
      have hnt : (!true) = false := rfl
      refine nav ?_
      apply aixl rfl rfl hlt2
      refine nav ?_
      apply aldl rfl rfl hbk rfl
      have hskip : ((k : Int) ∈ ks ∨ tly p e now = false) → LH h ⟨lf, ln, lb, lw⟩ (number + (S2 p es now number l ks (k + 1)).bs.length) now (S2 p es now number l ks (k + 1)).bs bv (S2 p es now number l ks (k + 1)).out ov H := fun hno => by
        rw [hst]
        simp only [f2]
        rw [if_pos hno]
        exact hL
      cases htj : tk[k]
      · have hnk : (k : Int) ∉ ks := fun hm => by
          have := hTk.2 ⟨hlt2, hm⟩
          rw [List.getElem?_eq_getElem hkt, htj] at this
          cases this
        repeat' (first | refine nat1 ?_ | (apply acallpp monoR rfl (by rfl) k30; rintro _ _ ⟨rfl, rfl⟩; refine ⟨rfl, rfl, ?_⟩) | (apply gcallpp rfl (by first | assumption | with_reducible rfl) monoR rfl (by rfl) k30; rintro _ _ ⟨rfl, rfl⟩; refine ⟨rfl, rfl, ?_⟩) | (refine gcallS1 rfl monoR rfl (by rfl) k30 (fun _ => ?_) (fun _ => ?_); rintro _ _ ⟨rfl, rfl⟩; refine ⟨rfl, rfl, ?_⟩) | (refine gcallS0 rfl monoR rfl (by rfl) k30 (fun _ => ?_) (fun _ => ?_); rintro _ _ ⟨rfl, rfl⟩; refine ⟨rfl, rfl, ?_⟩) | (apply acallpp monoR rfl (by rfl) k28; rintro _ _ ⟨rfl, rfl⟩; refine ⟨rfl, rfl, ?_⟩) | (apply gcallpp rfl (by first | assumption | with_reducible rfl) monoR rfl (by rfl) k28; rintro _ _ ⟨rfl, rfl⟩; refine ⟨rfl, rfl, ?_⟩) | (refine gcallS1 rfl monoR rfl (by rfl) k28 (fun _ => ?_) (fun _ => ?_); rintro _ _ ⟨rfl, rfl⟩; refine ⟨rfl, rfl, ?_⟩) | (refine gcallS0 rfl monoR rfl (by rfl) k28 (fun _ => ?_) (fun _ => ?_); rintro _ _ ⟨rfl, rfl⟩; refine ⟨rfl, rfl, ?_⟩) | (apply aeqs rfl (by rfl) (by rfl); intro be hbe) | (apply gaeqs rfl (by first | assumption | with_reducible rfl) rfl (by rfl) (by rfl); intro be hbe) | refine gpassS1 rfl rfl rfl rfl rfl (fun _ => ?_) (fun _ => ?_) | refine gpassS0 rfl rfl rfl rfl rfl (fun _ => ?_) (fun _ => ?_) | refine psplitA rfl (fun _ => ?_) (fun _ => ?_) | refine acond rfl (fun _ => ?_) (fun _ => ?_))
        · have htl : tly p e now = true := by assumption
          apply acallpp monoR rfl (by rfl) (c26 (v := e) (t := te) heg)
          rintro _ _ ⟨⟨tg, rfl⟩, rfl⟩
          refine ⟨rfl, rfl, ?_⟩
          unfold evc
          refine nav ?_
          refine aappA (z := ⟨number + (S2 p es now number l ks k).bs.length, false, e.name, lev p e, e, now⟩) rfl hL rfl ⟨tg, rfl⟩ (by omega) ?_
          intro ov' H' hU
          have hN : ov'.names = none := hU.names
          refine nav ?_
          apply acallv monoR rfl (by rfl) (c25 (a := ⟨number + (S2 p es now number l ks k).bs.length, false, e.name, lev p e, e, now⟩) (ta := tg) (kind := 1) hB hU.box hU.grow (by omega) (by omega) heg)
          rintro u H4 ⟨hup, bv', hg4, hB4, hk4⟩
          refine ⟨hup, ?_⟩
          have hP := hU.pub hg4 hB4 hk4
          refine naw ?_
          refine ql_n (q2 - 1) (by omega) ⟨k + 1, ov', bv', H4, by omega, ?_, rfl⟩
          rw [hst]
          simp only [f2]
          rw [if_neg (by rintro (h | h); exact hnk h; rw [htl] at h; cases h)]
          simp only
          rw [List.length_append, List.length_singleton, Int.natCast_add, ← Int.add_assoc]
          exact hP
        · have htl : tly p e now = false := by assumption
          refine ql_n (q2 - 1) (by omega) ⟨k + 1, ov, bv, H, by omega, hskip (.inr htl), rfl⟩
      · repeat' (first | refine nat1 ?_ | (apply aeqs rfl (by rfl) (by rfl); intro be hbe) | (apply gaeqs rfl (by first | assumption | with_reducible rfl) rfl (by rfl) (by rfl); intro be hbe) | refine gpassS1 rfl rfl rfl rfl rfl (fun _ => ?_) (fun _ => ?_) | refine gpassS0 rfl rfl rfl rfl rfl (fun _ => ?_) (fun _ => ?_) | refine psplitA rfl (fun _ => ?_) (fun _ => ?_) | refine acond rfl (fun _ => ?_) (fun _ => ?_))
        have hkk : (k : Int) ∈ ks := (hTk.1 (by rw [List.getElem?_eq_getElem hkt, htj])).2
        refine ql_n (q2 - 1) (by omega) ⟨k + 1, ov, bv, H, by omega, hskip (.inl hkk), rfl⟩
    · have hke : k = es.length := by have := of_decide_eq_false hc2; omega
      subst hke
      have hbf := hL.box.f
      have hbb := hL.box.b
      have hN : ov.names = none ∧ bv.names = none := ⟨hL.names, hL.grow.names⟩
      have hpl : ov.plain = true ∧ bv.plain = true := ⟨by simp only [AV.plain, hN]; rfl, by simp only [AV.plain, hN]; rfl⟩
      obtain ⟨hs1, hs2⟩ := S2_len (p := p) (es := es) (now := now) (n0 := number) hkl (k := es.length) (Nat.le_refl _)
      have hd : decide (((S2 p es now number l ks es.length).out.length : Int) > 200) = false := decide_eq_false (by omega)
      refine nav ?_
      apply alenL rfl hL
      repeat' (first | refine nat1 ?_ | (apply aeqs rfl (by rfl) (by rfl); intro be hbe) | (apply gaeqs rfl (by first | assumption | with_reducible rfl) rfl (by rfl) (by rfl); intro be hbe) | refine gpassS1 rfl rfl rfl rfl rfl (fun _ => ?_) (fun _ => ?_) | refine gpassS0 rfl rfl rfl rfl rfl (fun _ => ?_) (fun _ => ?_) | refine psplitA rfl (fun _ => ?_) (fun _ => ?_) | refine acond rfl (fun _ => ?_) (fun _ => ?_))
      have hfree : ∀ j o, h.os j = some o → Box.out ⟨lf, ln, lb, lw⟩ j := fun j o hj => by
        refine ⟨?_, ?_, ?_, ?_⟩ <;> (intro e; simp only at e; subst e)
        · rw [hlf00] at hj; cases hj
        · rw [hln] at hj; cases hj
        · rw [hlb0] at hj; cases hj
        · rw [hlw0] at hj; cases hj
      have hsub : h.al.Sublist H.al := hL.grow.le.2
      rcases hL.arr with ⟨hnil, hu, hk⟩ | ⟨l2, c, cs, rest, rfl, hne', hc2', hcs, hl20, hlo, hHo, hk⟩
      · have hle : AHeap.le h H := ⟨fun j o hj => by rw [hk j (hfree j o hj)]; exact hj, hsub⟩
        have hov : IsSl 38 IsAl ov (S2 p es now number l ks es.length).out := by
          rw [hnil]
          rcases hu with rfl | rfl
          · exact .inl ⟨rfl, rfl⟩
          · exact .inr ⟨[], _, rfl, .nil⟩
        rcases hu with rfl | rfl
        · apply afrz0 rfl rfl
          refine nav ?_
          refine qf (h' := h) rfl (by simp only [List.all_cons, List.all_nil, hpl]; rfl) hle ⟨⟨_, _, ks, rfl, hov, hL.grow.sl, hF, hkl, hNm⟩, rfl⟩
        · apply afrz0 rfl rfl
          refine nav ?_
          refine qf (h' := h) rfl (by simp only [List.all_cons, List.all_nil, hpl]; rfl) hle ⟨⟨_, _, ks, rfl, hov, hL.grow.sl, hF, hkl, hNm⟩, rfl⟩
      · have hcl := hcs.len
        apply afrzh rfl hHo (by simp; omega)
        refine nav ?_
        refine qf (h' := h) rfl (by simp only [List.all_cons, List.all_nil, hpl]; rfl) ⟨fun j o hj => ?_, hsub⟩ ⟨⟨_, _, ks, rfl, ?_, hL.grow.sl, hF, hkl, hNm⟩, rfl⟩
        · have hj2 : j ≠ l2 := fun e => by rw [e, hl20] at hj; cases hj
          rw [os_ne _ _ hj2, hk j (hfree j o hj) hj2]
          exact hj
        · rw [List.drop_zero, ← hcl, List.take_left' rfl]
          exact .inr ⟨cs, _, rfl, hcs⟩
end Go.Proofs.Ytkdphdcpofcnjaa

/- K37: seat 36: a step's result keeps the rules; the same step again changes nothing (plain). -/
namespace Go.Proofs.Ytkdphdcpofcnjaa
open Go Abs
set_option linter.unusedSimpArgs false
set_option linter.unusedVariables false
set_option maxHeartbeats 2000000

theorem stepA_cases {p : Policy} {es : List Event} {now : Int} {a : Alert} {k : Int} :
    (a.wd = true ∧ stepA p es now a k = (a, none)) ∨
    (a.wd = false ∧ ∃ nm, stepA p es now a k = (⟨a.id, true, nm, a.level, a.ev, now⟩, some 3) ∧ ∀ (kn : Nat) (e : Event), k = kn → es[kn]? = some e → lev p e = 0) ∨
    (a.wd = false ∧ ∃ (kn : Nat) (e : Event), k = kn ∧ es[kn]? = some e ∧ lev p e ≠ 0 ∧
      ((now - a.tm ≥ p.every ∧ mv p a.ev e = true ∧ stepA p es now a k = (⟨a.id, false, e.name, lev p e, e, now⟩, some 2)) ∨
       (¬ (now - a.tm ≥ p.every ∧ mv p a.ev e = true) ∧ stepA p es now a k = (⟨a.id, false, e.name, a.level, a.ev, a.tm⟩, none)))) := by
  cases hw : a.wd
  · right
    have h1 : ¬ (a.wd = true) := by simp [hw]
    by_cases hk : 0 ≤ k
    · obtain ⟨kn, rfl⟩ : ∃ kn : Nat, k = kn := ⟨k.toNat, by omega⟩
      cases he : es[kn]? with
      | none =>
        left
        refine ⟨rfl, a.name, ?_, fun kn' e h1 h2 => ?_⟩
        · unfold stepA; rw [if_neg h1, if_pos hk, Int.toNat_natCast, he]
        · have : kn' = kn := by omega
          subst this; rw [he] at h2; cases h2
      | some e =>
        by_cases hl : lev p e = 0
        · left
          refine ⟨rfl, e.name, ?_, fun kn' e' h1 h2 => ?_⟩
          · unfold stepA; rw [if_neg h1, if_pos hk, Int.toNat_natCast, he]; simp only; rw [if_pos hl]
          · have : kn' = kn := by omega
            subst this; rw [he] at h2; cases h2; exact hl
        · right
          refine ⟨rfl, kn, e, rfl, he, hl, ?_⟩
          by_cases hm : now - a.tm ≥ p.every ∧ mv p a.ev e = true
          · left
            refine ⟨hm.1, hm.2, ?_⟩
            unfold stepA; rw [if_neg h1, if_pos hk, Int.toNat_natCast, he]; simp only; rw [if_neg hl, if_pos hm]
          · right
            refine ⟨hm, ?_⟩
            unfold stepA; rw [if_neg h1, if_pos hk, Int.toNat_natCast, he]; simp only; rw [if_neg hl, if_neg hm]
    · left
      refine ⟨rfl, a.name, ?_, fun kn' e h1 h2 => by omega⟩
      unfold stepA; rw [if_neg h1, if_neg hk]
  · left
    refine ⟨rfl, ?_⟩
    unfold stepA; rw [if_pos hw]

section
variable {p : Policy} {es : List Event} {now n0 : Int} {l : List Alert} {ks : List Int}
theorem S1_O1 (hl : ks.length = l.length) (hli : LInv l n0 now) (hge : ∀ e ∈ es, e.good) (hnow : 0 ≤ now) : ∀ {i : Nat}, i ≤ l.length → O1 l es ks now i (S1 p es now n0 l ks i).out
  | 0, _ => ⟨rfl, fun j a h => by simp [S1] at h⟩
  | i + 1, h => by
    have ih := S1_O1 hl hli hge hnow (i := i) (by omega)
    have ha : l[i]? = some l[i] := List.getElem?_eq_getElem (by omega)
    have hk : ks[i]? = some ks[i] := List.getElem?_eq_getElem (by omega)
    rw [S1_succ ha hk]
    have hm := List.getElem_mem (l := l) (n := i) (by omega)
    have htm := hli.tms _ hm
    have hgd := hli.good _ hm
    generalize l[i] = a at *
    generalize ks[i] = k at *
    show O1 l es ks now (i + 1) (_ ++ [(stepA p es now a k).1])
    rcases stepA_cases (p := p) (es := es) (now := now) (a := a) (k := k) with ⟨hw, e⟩ | ⟨hw, nm, e, _⟩ | ⟨hw, kn, ev, rfl, hev, hlv, ⟨_, _, e⟩ | ⟨_, e⟩⟩
    · rw [e]
      exact ih.snoc ha rfl htm hgd fun h => by simp only at h; rw [hw] at h; cases h
    · rw [e]
      exact ih.snoc ha rfl ⟨hnow, Int.le_refl _⟩ hgd fun h => by simp at h
    · rw [e]
      exact ih.snoc ha rfl ⟨hnow, Int.le_refl _⟩ (hge _ (List.mem_of_getElem? hev)) fun _ => ⟨kn, ev, hk, hev, rfl⟩
    · rw [e]
      exact ih.snoc ha rfl htm hgd fun _ => ⟨kn, ev, hk, hev, rfl⟩

theorem S2_O2 (hl : ks.length = l.length) (hli : LInv l n0 now) (hge : ∀ e ∈ es, e.good) (hnow : 0 ≤ now) (h0 : 0 ≤ n0) (hF : FolOk l es.length ks) (hne : es.Pairwise fun a b => a.name ≠ b.name) : ∀ {k : Nat}, k ≤ es.length →
    O2 es ks (n0 + (S2 p es now n0 l ks k).bs.length) now k (S2 p es now n0 l ks k).out
  | 0, _ => (S1_O1 hl hli hge hnow (Nat.le_refl _)).fin hli hF hne
  | k + 1, h => by
    have ih := S2_O2 hl hli hge hnow h0 hF hne (k := k) (by omega)
    have he : es[k]? = some es[k] := List.getElem?_eq_getElem (by omega)
    rw [S2_succ he]
    have hg := hge _ (List.getElem_mem (l := es) (n := k) (by omega))
    generalize es[k] = e at *
    unfold f2
    split
    · exact ih.skip
    · rename_i hno
      have := ih.snoc hne he (fun hk => hno (.inl hk)) hg (lv := lev p e) (by omega) hnow
      simpa [Int.add_assoc] using this

theorem S2_inv (hl : ks.length = l.length) (hli : LInv l n0 now) (hge : ∀ e ∈ es, e.good) (hnow : 0 ≤ now) (h0 : 0 ≤ n0) (hF : FolOk l es.length ks) (hne : es.Pairwise fun a b => a.name ≠ b.name) :
    LInv (S2 p es now n0 l ks es.length).out (n0 + (S2 p es now n0 l ks es.length).bs.length) now := (S2_O2 hl hli hge hnow h0 hF hne (Nat.le_refl _)).toLInv

/-- The alerts that a step returns: those before, each stepped; behind them the new ones. -/
structure Out (p : Policy) (es : List Event) (now : Int) (l : List Alert) (ks : List Int) (k : Nat) (out : List Alert) : Prop where
  len : l.length ≤ out.length
  old : ∀ (i : Nat) (a : Alert) (j : Int), l[i]? = some a → ks[i]? = some j → out[i]? = some (stepA p es now a j).1
  new : ∀ (i : Nat) (b : Alert), l.length ≤ i → out[i]? = some b → ∃ (j : Nat) (e : Event), es[j]? = some e ∧ (j : Int) ∉ ks ∧ tly p e now = true ∧ b.wd = false ∧ b.name = e.name ∧ b.ev = e ∧ b.tm = now ∧ b.level = lev p e
  all : ∀ (j : Nat) (e : Event), j < k → es[j]? = some e → (j : Int) ∉ ks → tly p e now = true → ∃ (i : Nat) (b : Alert), out[i]? = some b ∧ b.wd = false ∧ b.name = e.name
theorem S2_Out (hl : ks.length = l.length) : ∀ {k : Nat}, k ≤ es.length → Out p es now l ks k (S2 p es now n0 l ks k).out
  | 0, _ => by
    have hlen := (S1_len (p := p) (es := es) (now := now) (n0 := n0) hl (i := l.length) (Nat.le_refl _)).1
    refine ⟨by show l.length ≤ (S1 p es now n0 l ks l.length).out.length; omega, fun i a j ha hj => S1_out hl (Nat.le_refl _) i a j (List.getElem?_eq_some_iff.1 ha).1 ha hj, fun i b hi hb => ?_, fun j e hj => by omega⟩
    have := (List.getElem?_eq_some_iff.1 hb).1
    have h2 : (S2 p es now n0 l ks 0).out.length = l.length := hlen
    omega
  | k + 1, h => by
    have ih := S2_Out hl (k := k) (by omega)
    have he : es[k]? = some es[k] := List.getElem?_eq_getElem (by omega)
    rw [S2_succ he]
    generalize es[k] = e at *
    unfold f2
    split
    · rename_i hyes
      refine ⟨ih.len, ih.old, ih.new, fun j e' hj he' hn ht => ?_⟩
      by_cases hjk : j = k
      · subst hjk
        rw [he] at he'
        cases he'
        rcases hyes with h | h
        · exact absurd h hn
        · rw [h] at ht; cases ht
      · exact ih.all j e' (by omega) he' hn ht
    · rename_i hno
      have hnk : (k : Int) ∉ ks := fun h => hno (.inl h)
      have htl : tly p e now = true := by
        cases ht : tly p e now
        · exact absurd (.inr ht) hno
        · rfl
      refine ⟨by simp only [List.length_append]; have := ih.len; omega, fun i a j ha hj => ?_, fun i b hi hb => ?_, fun j e' hj he' hn ht => ?_⟩
      · have hi := (List.getElem?_eq_some_iff.1 ha).1
        have := ih.len
        simp only
        rw [List.getElem?_append_left (by omega)]
        exact ih.old i a j ha hj
      · simp only at hb
        rcases Nat.lt_or_ge i (S2 p es now n0 l ks k).out.length with hlt | hge
        · rw [List.getElem?_append_left hlt] at hb
          exact ih.new i b hi hb
        · rw [List.getElem?_append_right hge] at hb
          have : i - (S2 p es now n0 l ks k).out.length = 0 := by
            have := (List.getElem?_eq_some_iff.1 hb).1
            simp at this
            omega
          rw [this] at hb
          simp at hb
          subst hb
          exact ⟨k, e, he, hnk, htl, rfl, rfl, rfl, rfl, rfl⟩
      · by_cases hjk : j = k
        · subst hjk
          rw [he] at he'
          cases he'
          exact ⟨(S2 p es now n0 l ks j).out.length, _, by simp only; rw [List.getElem?_append_right (Nat.le_refl _), Nat.sub_self]; rfl, rfl, rfl⟩
        · obtain ⟨i, b, h1, h2, h3⟩ := ih.all j e' (by omega) he' hn ht
          exact ⟨i, b, by simp only; rw [List.getElem?_append_left (List.getElem?_eq_some_iff.1 h1).1]; exact h1, h2, h3⟩

theorem tly_lev {e : Event} (h : tly p e now = true) : lev p e ≠ 0 := by
  unfold tly at h
  simp only [Bool.and_eq_true, decide_eq_true_eq] at h
  exact h.1

/-- The same events at the same time again. -/
theorem again {B : List Alert} {ks' : List Int} {n1 : Int} (hp : p.good) (hge : ∀ e ∈ es, e.good) (hne : es.Pairwise fun a b => a.name ≠ b.name) (hl : ks.length = l.length) (hF : FolOk l es.length ks) (hO : Out p es now l ks es.length B)
    (hl' : ks'.length = B.length) (hN : Named B es ks') : S2 p es now n1 B ks' es.length = ⟨B, []⟩ := by
  have hst : ∀ (i : Nat) (b : Alert) (k : Int), B[i]? = some b → ks'[i]? = some k → stepA p es now b k = (b, none) := fun i b k hb hk => by
    rcases Nat.lt_or_ge i l.length with hi | hi
    · have ha : l[i]? = some l[i] := List.getElem?_eq_getElem hi
      have hj : ks[i]? = some ks[i] := List.getElem?_eq_getElem (by omega)
      generalize l[i] = a at ha
      generalize ks[i] = j at hj
      have hb2 := hO.old i a j ha hj
      rw [hb] at hb2
      have hb2 := Option.some.inj hb2
      rcases stepA_cases (p := p) (es := es) (now := now) (a := a) (k := j) with ⟨hw, e⟩ | ⟨hw, nm, e, _⟩ | ⟨hw, kn, ev, rfl, hev, hlv, ⟨h1, h2, e⟩ | ⟨h1, e⟩⟩
      · rw [e] at hb2
        subst hb2
        unfold stepA; rw [if_pos hw]
      · rw [e] at hb2
        subst hb2
        unfold stepA; rw [if_pos rfl]
      · rw [e] at hb2
        have hx := hN i b kn hb (by rw [hb2]) (by rw [hb2]; exact evIdx_at hne hev)
        rw [hk] at hx
        cases hx
        subst hb2
        unfold stepA
        rw [if_neg (by simp), if_pos (by omega), Int.toNat_natCast, hev]
        simp only
        rw [if_neg hlv, if_neg (by rw [mv_self hp (hge _ (List.mem_of_getElem? hev))]; simp)]
      · rw [e] at hb2
        have hx := hN i b kn hb (by rw [hb2]) (by rw [hb2]; exact evIdx_at hne hev)
        rw [hk] at hx
        cases hx
        subst hb2
        unfold stepA
        rw [if_neg (by simp), if_pos (by omega), Int.toNat_natCast, hev]
        simp only
        rw [if_neg hlv, if_neg h1]
    · obtain ⟨j, e, he, hjk, htl, h1, h2, h3, h4, h5⟩ := hO.new i b hi hb
      have hx := hN i b j hb h1 (by rw [h2]; exact evIdx_at hne he)
      rw [hk] at hx
      cases hx
      obtain ⟨bid, bwd, bname, blevel, bev, btm⟩ := b
      simp only at h1 h2 h3 h4 h5
      subst h1 h2 h3 h4 h5
      unfold stepA
      rw [if_neg (by simp), if_pos (by omega), Int.toNat_natCast, he]
      simp only
      rw [if_neg (tly_lev htl), if_neg (by rw [mv_self hp (hge _ (List.mem_of_getElem? he))]; simp)]
  have h1 : ∀ i, i ≤ B.length → S1 p es now n1 B ks' i = ⟨B.take i, []⟩ := by
    intro i
    induction i with
    | zero => intro _; rfl
    | succ i ih =>
      intro h
      have hb : B[i]? = some B[i] := List.getElem?_eq_getElem (by omega)
      have hk : ks'[i]? = some ks'[i] := List.getElem?_eq_getElem (by omega)
      rw [S1_succ hb hk, ih (by omega)]
      unfold f1
      rw [hst i _ _ hb hk, List.take_add_one, hb]
      rfl
  have h2 : ∀ (k : Nat) (e : Event), es[k]? = some e → (k : Int) ∈ ks' ∨ tly p e now = false := fun k e he => by
    cases ht : tly p e now
    · exact .inr rfl
    left
    have hfin : ∀ (i : Nat) (b : Alert), B[i]? = some b → b.wd = false → b.name = e.name → (k : Int) ∈ ks' := fun i b hb hw hn => List.mem_of_getElem? (hN i b k hb hw (by rw [hn]; exact evIdx_at hne he))
    by_cases hk : (k : Int) ∈ ks
    · obtain ⟨i, hi⟩ := List.getElem?_of_mem hk
      have hlt : i < l.length := by have := (List.getElem?_eq_some_iff.1 hi).1; omega
      have ha : l[i]? = some l[i] := List.getElem?_eq_getElem hlt
      generalize l[i] = a at ha
      have hb := hO.old i a k ha hi
      have hw := hF.wd i k a hi ha (by omega)
      rcases stepA_cases (p := p) (es := es) (now := now) (a := a) (k := (k : Int)) with ⟨hw', _⟩ | ⟨_, nm, e1, h0⟩ | ⟨_, kn, ev, hkk, hev, hlv, ⟨_, _, e1⟩ | ⟨_, e1⟩⟩
      · rw [hw] at hw'; cases hw'
      · exact absurd (h0 k e rfl he) (tly_lev ht)
      · have : kn = k := by omega
        subst this
        rw [he] at hev
        cases hev
        rw [e1] at hb
        exact hfin i _ hb rfl rfl
      · have : kn = k := by omega
        subst this
        rw [he] at hev
        cases hev
        rw [e1] at hb
        exact hfin i _ hb rfl rfl
    · obtain ⟨i, b, hb, hw, hn⟩ := hO.all k e (List.getElem?_eq_some_iff.1 he).1 he hk ht
      exact hfin i b hb hw hn
  have h3 : ∀ k, k ≤ es.length → S2 p es now n1 B ks' k = ⟨B, []⟩ := by
    intro k
    induction k with
    | zero =>
      intro _
      show S1 p es now n1 B ks' B.length = _
      rw [h1 _ (Nat.le_refl _), List.take_length]
    | succ k ih =>
      intro h
      have he : es[k]? = some es[k] := List.getElem?_eq_getElem (by omega)
      rw [S2_succ he, ih (by omega)]
      unfold f2
      rw [if_pos (h2 k _ he)]
  exact h3 _ (Nat.le_refl _)
end
end Go.Proofs.Ytkdphdcpofcnjaa

/- K38: seat 36: the sanity check (awake). -/
namespace Go.Proofs.Ytkdphdcpofcnjaa
open Go Abs
set_option linter.unusedSimpArgs false
set_option linter.unusedVariables false
set_option maxHeartbeats 2000000
attribute [local irreducible] Go.IntKind.wrap

def sampleP : Policy := ⟨[⟨-1000, 1, 10000, 100000⟩], 0, 0⟩
def anm : Pick := pickAt 0 1000 0 0 0
def aev : Event := ⟨anm, [anm], ⟨0, 0, 0, 900, 0, 0, 0, 1⟩⟩
def aal (wd : Bool) (t : Int) : Alert := ⟨4, wd, anm, 1, aev, t⟩

theorem sample_good : sampleP.good := by
  refine ⟨⟨by decide, by decide⟩, fun r hr => ?_, by decide, by decide⟩
  simp [sampleP] at hr
  subst hr
  exact ⟨by decide, by decide, by decide, by decide⟩
theorem aev_good : aev.good := ⟨by simp [aev], by simp [aev], by unfold EvN.good aev; decide⟩
theorem lev_aev : lev sampleP aev = 1 := by rfl
theorem tly_aev : tly sampleP aev 1200 = true := by rfl
theorem aev_evv : EvV [aev] := by
  refine ⟨fun e he => ?_, fun k a b ha hb => ?_, by simp [aev], by simp⟩
  · simp at he
    subst he
    exact ⟨⟨by simp [aev], by simp [aev], by simp [aev], by simp [aev]⟩, rfl⟩
  · cases k with
    | zero => simp at hb
    | succ k => simp at ha

theorem awake1 {ks : List Int} (h : ks.length = ([] : List Alert).length) : S2 sampleP [aev] 1200 4 [] ks 1 = ⟨[aal false 1200], [⟨4, 1, 4, 1200, 1, aev⟩]⟩ := by
  have : ks = [] := List.length_eq_zero_iff.1 h
  subst this
  rw [S2_succ (e := aev) rfl]
  show f2 sampleP [] 1200 4 ⟨[], []⟩ (aev, 0) = _
  unfold f2
  rw [if_neg (by simp [tly_aev])]
  rfl
theorem awake2 {ks : List Int} (hl : ks.length = [aal false 1200].length) (hF : FolOk [aal false 1200] ([] : List Event).length ks) : S2 sampleP [] 1300 5 [aal false 1200] ks ([] : List Event).length = ⟨[aal true 1300], [⟨5, 3, 4, 1300, 1, aev⟩]⟩ := by
  match ks, hl with
  | [k], _ =>
    have hk := hF.rng k (by simp)
    have hk1 : k = -1 := by simp at hk; omega
    subst hk1
    rfl

theorem _root_.Go.Proofs.Ytkdphdcpofcnjaa.IsSl.one {α : Type} {s : Nat} {P : List AV → α → Prop} {v : AV} {x : α} (h : IsSl s P v [x]) : ∃ c t, v = .sl s [c] t ∧ P c x := by
  rcases h with ⟨_, h⟩ | ⟨cs, t, rfl, h⟩
  · cases h
  · cases h with
    | cons h1 h2 => cases h2; exact ⟨_, t, rfl, h1⟩

theorem c32 {h : AHeap} : ACalls PR 32 [] h fun u h' => (∃ t, u = .agg (polc sampleP t)) ∧ h = h' := by
  refine fn_sound at32 ok32 (Nat.le_of_ble_eq_true rfl) (afn ?_)
  show AW _ C32 _ _
  unfold C32
  refine nav ?_
  apply qf rfl (by rfl) aheap_le
  exact ⟨⟨_, rfl⟩, rfl⟩

theorem aal_inv : LInv [aal false 1200] 5 1300 :=
  ⟨by simp, by simp [aal], by simp [aal], by simp [aal, aev_good], by simp⟩

theorem c13 {h : AHeap} : ACalls PR 13 [] h fun u h' => u = .bool true ∧ h = h' := by
  refine fn_sound at13 ok13 (Nat.le_of_ble_eq_true rfl) (afn ?_)
  show AW _ C13 _ _
  unfold C13
  refine nav ?_
  apply acallpp monoR rfl (by rfl) ((c31 (h := h) (n := 0) (by decide)).mono fun v h' hh => (⟨hh.1, hh.2.symm⟩ : _ ∧ h = h'))
  rintro _ _ ⟨⟨j, rfl, hj, hj0⟩, rfl⟩
  obtain rfl : j = 0 := by omega
  refine ⟨rfl, rfl, ?_⟩
  unfold srcCells
  refine nav ?_
  apply acallpp monoR rfl (by rfl) c32
  rintro _ _ ⟨⟨tp, rfl⟩, rfl⟩
  refine ⟨rfl, rfl, ?_⟩
  refine nav ?_
  apply acallpp monoR rfl (by rfl) (c11 (p := sampleP) (t := tp) (l := []) (es := [aev]) sample_good (.inl ⟨rfl, rfl⟩) (.inr ⟨[evc aev .full], .full, rfl, .cons ⟨_, rfl⟩ .nil⟩) ⟨.nil, by simp, by simp, by simp, .nil⟩ (by simp) (by simp) aev_evv (by simp [aev_good]) (by simp) (by decide) (by decide))
  rintro _ _ ⟨⟨ov, bv, ks, rfl, hov, hbv, hF, hkl, -⟩, rfl⟩
  have h1 := awake1 hkl
  rw [show [aev].length = 1 from rfl, h1] at hov hbv
  have hN : ov.names = none ∧ bv.names = none := ⟨hov.names, hbv.names⟩
  refine ⟨rfl, rfl, ?_⟩
  refine nav ?_
  apply acallpp monoR rfl (by rfl) c32
  rintro _ _ ⟨⟨tp2, rfl⟩, rfl⟩
  refine ⟨rfl, rfl, ?_⟩
  refine nav ?_
  apply acallpp monoR rfl (by simp only [List.all_cons, List.all_nil, AV.plain, hN]; rfl) (c11 (p := sampleP) (t := tp2) (l := [aal false 1200]) (es := []) sample_good hov (.inl ⟨rfl, rfl⟩) aal_inv (by simp) (by simp) ⟨by simp, by simp, by simp, by simp⟩ (by simp) (by simp) (by decide) (by decide))
  rintro _ _ ⟨⟨ov2, bv2, ks2, rfl, hov2, hbv2, hF2, hkl2, -⟩, rfl⟩
  have h2 := awake2 hkl2 hF2
  rw [h2] at hov2 hbv2
  have hN : ov.names = none ∧ bv.names = none ∧ ov2.names = none ∧ bv2.names = none := ⟨hov.names, hbv.names, hov2.names, hbv2.names⟩
  refine ⟨rfl, rfl, ?_⟩
  refine nav ?_
  obtain ⟨o1, t1, rfl, ta1, rfl⟩ := hov.one
  obtain ⟨b1, t2, rfl, tb1, rfl⟩ := hbv.one
  obtain ⟨o2, t3, rfl, ta2, rfl⟩ := hov2.one
  obtain ⟨b2, t4, rfl, tb2, rfl⟩ := hbv2.one
  have e0 : decide ((0 : Int) = 0) = true := rfl
  have e1 : decide ((1 : Int) = 1) = true := rfl
  have e3 : decide ((3 : Int) = 3) = true := rfl
  have e4 : decide ((4 : Int) = 4) = true := rfl
  have e5 : decide ((5 : Int) = 5) = true := rfl
  have el : decide (((1 : Nat) : Int) = 1) = true := rfl
  unfold alc buc aal
  repeat' (first | refine nat1 ?_ | (apply aeqs rfl (by rfl) (by rfl); intro be hbe) | (apply gaeqs rfl (by first | assumption | with_reducible rfl) rfl (by rfl) (by rfl); intro be hbe) | refine gpassS1 rfl rfl rfl rfl rfl (fun _ => ?_) (fun _ => ?_) | refine gpassS0 rfl rfl rfl rfl rfl (fun _ => ?_) (fun _ => ?_) | refine psplitA rfl (fun _ => ?_) (fun _ => ?_) | refine acond rfl (fun _ => ?_) (fun _ => ?_))
  apply gaixz rfl (by assumption) rfl (by decide) rfl
  repeat' (first | refine nat1 ?_ | (apply aeqs rfl (by rfl) (by rfl); intro be hbe) | (apply gaeqs rfl (by first | assumption | with_reducible rfl) rfl (by rfl) (by rfl); intro be hbe) | refine gpassS1 rfl rfl rfl rfl rfl (fun _ => ?_) (fun _ => ?_) | refine gpassS0 rfl rfl rfl rfl rfl (fun _ => ?_) (fun _ => ?_) | refine psplitA rfl (fun _ => ?_) (fun _ => ?_) | refine acond rfl (fun _ => ?_) (fun _ => ?_))
  apply gaixz rfl (by assumption) rfl (by decide) rfl
  repeat' (first | refine nat1 ?_ | (apply aeqs rfl (by rfl) (by rfl); intro be hbe) | (apply gaeqs rfl (by first | assumption | with_reducible rfl) rfl (by rfl) (by rfl); intro be hbe) | refine gpassS1 rfl rfl rfl rfl rfl (fun _ => ?_) (fun _ => ?_) | refine gpassS0 rfl rfl rfl rfl rfl (fun _ => ?_) (fun _ => ?_) | refine psplitA rfl (fun _ => ?_) (fun _ => ?_) | refine acond rfl (fun _ => ?_) (fun _ => ?_))
  apply gaixz rfl (by assumption) rfl (by decide) rfl
  repeat' (first | refine nat1 ?_ | (apply aeqs rfl (by rfl) (by rfl); intro be hbe) | (apply gaeqs rfl (by first | assumption | with_reducible rfl) rfl (by rfl) (by rfl); intro be hbe) | refine gpassS1 rfl rfl rfl rfl rfl (fun _ => ?_) (fun _ => ?_) | refine gpassS0 rfl rfl rfl rfl rfl (fun _ => ?_) (fun _ => ?_) | refine psplitA rfl (fun _ => ?_) (fun _ => ?_) | refine acond rfl (fun _ => ?_) (fun _ => ?_))
  apply gaixz rfl (by assumption) rfl (by decide) rfl
  repeat' (first | refine nat1 ?_ | (apply aeqs rfl (by rfl) (by rfl); intro be hbe) | (apply gaeqs rfl (by first | assumption | with_reducible rfl) rfl (by rfl) (by rfl); intro be hbe) | refine gpassS1 rfl rfl rfl rfl rfl (fun _ => ?_) (fun _ => ?_) | refine gpassS0 rfl rfl rfl rfl rfl (fun _ => ?_) (fun _ => ?_) | refine psplitA rfl (fun _ => ?_) (fun _ => ?_) | refine acond rfl (fun _ => ?_) (fun _ => ?_))
  apply gaixz rfl (by assumption) rfl (by decide) rfl
  repeat' (first | refine nat1 ?_ | (apply aeqs rfl (by rfl) (by rfl); intro be hbe) | (apply gaeqs rfl (by first | assumption | with_reducible rfl) rfl (by rfl) (by rfl); intro be hbe) | refine gpassS1 rfl rfl rfl rfl rfl (fun _ => ?_) (fun _ => ?_) | refine gpassS0 rfl rfl rfl rfl rfl (fun _ => ?_) (fun _ => ?_) | refine psplitA rfl (fun _ => ?_) (fun _ => ?_) | refine acond rfl (fun _ => ?_) (fun _ => ?_))
  apply gaixz rfl (by assumption) rfl (by decide) rfl
  repeat' (first | refine nat1 ?_ | (apply aeqs rfl (by rfl) (by rfl); intro be hbe) | (apply gaeqs rfl (by first | assumption | with_reducible rfl) rfl (by rfl) (by rfl); intro be hbe) | refine gpassS1 rfl rfl rfl rfl rfl (fun _ => ?_) (fun _ => ?_) | refine gpassS0 rfl rfl rfl rfl rfl (fun _ => ?_) (fun _ => ?_) | refine psplitA rfl (fun _ => ?_) (fun _ => ?_) | refine acond rfl (fun _ => ?_) (fun _ => ?_))
  apply qf rfl (by rfl) aheap_le
  exact ⟨rfl, rfl⟩
end Go.Proofs.Ytkdphdcpofcnjaa

/- K39: seat 36: AlertAgain. -/
namespace Go.Proofs.Ytkdphdcpofcnjaa
open Go Abs
set_option linter.unusedSimpArgs false
set_option linter.unusedVariables false
set_option maxHeartbeats 2000000
attribute [local irreducible] Go.IntKind.wrap

theorem c3 {h : AHeap} {rv : AV} {xs : List Int} (hrv : IsInts rv xs) : ACalls PR 3 [rv] h fun u _ => u = .bool true := by
  refine fn_sound at3 ok3 (Nat.le_of_ble_eq_true rfl) (afn ?_)
  show AW _ C3 _ _
  unfold C3
  have hN : rv.names = none := by rcases hrv with ⟨rfl, _⟩ | ⟨t, rfl⟩ <;> rfl
  refine nav ?_
  apply acall monoR rfl (by simp only [List.all_cons, List.all_nil, AV.plain, hN]; rfl) (c6 hrv)
  rintro _ _ ⟨l, S, hl, rfl, rfl⟩
  refine ⟨rfl, ?_⟩
  refine nav ?_
  apply acall monoR rfl (by rfl) c7
  rintro _ _ ⟨⟨p, tp, rfl, hp⟩, k1, rfl⟩
  refine ⟨rfl, ?_⟩
  unfold Policy.enc
  refine nav ?_
  apply acall monoR rfl (by rfl) (n9 (by decide) (by decide))
  rintro _ _ ⟨⟨r, rfl, hr0, hr1⟩, k2, rfl⟩
  refine ⟨rfl, ?_⟩
  obtain ⟨n, rfl⟩ : ∃ n : Nat, r = n := ⟨r.toNat, by omega⟩
  refine nav ?_
  apply acall monoR rfl (by rfl) (c8 (p := p) (t := tp) (n := n) hp (by omega))
  rintro _ _ ⟨⟨lv, ls, number, now, rfl, hls, hli, hll, hnum, hnow⟩, k3, rfl⟩
  refine ⟨rfl, ?_⟩
  have hN : lv.names = none := hls.names
  refine nav ?_
  apply acall monoR rfl (by rfl) (n10 (most := 4) (by decide))
  rintro wv _ ⟨⟨es, ds, hw, hD⟩, k4, rfl⟩
  have hN : lv.names = none ∧ wv.names = none := ⟨hls.names, hw.names⟩
  refine ⟨by simp only [AV.plain, hN]; rfl, ?_⟩
  have hel := hD.len
  generalize h.set l (srcO S k4) = H
  refine naw ?_
  apply acallpp monoR rfl (by simp only [List.all_cons, List.all_nil, AV.plain, hN]; rfl) (c11 (p := p) (t := tp) hp hls hw (hli.mono (by omega)) (by omega) (by omega) (hD.evv (by decide)) hD.good hD.names (by omega) (by omega))
  rintro _ _ ⟨⟨ov, bv, ks, rfl, hov, hbv, hF, hkl, hNm⟩, rfl⟩
  have hinv := S2_inv (p := p) (es := es) (now := now + 100) (n0 := number) (l := ls) (ks := ks) hkl (hli.mono (by omega)) hD.good (by omega) (by omega) hF hD.names
  obtain ⟨hs1, hs2⟩ := S2_len (p := p) (es := es) (now := now + 100) (n0 := number) hkl (Nat.le_refl es.length)
  have hO := S2_Out (p := p) (es := es) (now := now + 100) (n0 := number) (l := ls) (ks := ks) hkl (Nat.le_refl es.length)
  have hN : lv.names = none ∧ wv.names = none ∧ ov.names = none ∧ bv.names = none := ⟨hls.names, hw.names, hov.names, hbv.names⟩
  refine ⟨rfl, rfl, ?_⟩
  refine naw ?_
  apply alenS rfl hbv
  refine naw ?_
  apply acallpp monoR rfl (by simp only [List.all_cons, List.all_nil, AV.plain, hN]; rfl) (c11 (p := p) (t := tp) hp hov hw hinv (by omega) (by omega) (hD.evv (by decide)) hD.good hD.names (by omega) (by omega))
  rintro _ _ ⟨⟨cv, nv, ks', rfl, hcv, hnv, hF', hkl', hNm'⟩, rfl⟩
  have hag := again (n1 := number + (S2 p es (now + 100) number ls ks es.length).bs.length) hp hD.good hD.names hkl hF hO hkl' hNm'
  rw [hag] at hcv hnv
  have hN : ov.names = none ∧ bv.names = none ∧ cv.names = none ∧ nv.names = none := ⟨hov.names, hbv.names, hcv.names, hnv.names⟩
  refine ⟨rfl, rfl, ?_⟩
  refine naw ?_
  have e0 : decide ((0 : Int) = 0) = true := rfl
  have e1 : decide (((0 : Nat) : Int) = 0) = true := rfl
  have k12 := c12 (h := H) hov hcv (by omega) fun a ha => (hinv.good a ha).small.2
  rcases hnv with ⟨rfl, _⟩ | ⟨cs, t, rfl, hcs⟩
  · repeat' (first | refine nat1 ?_ | (apply aeqs rfl (by rfl) (by rfl); intro be hbe) | (apply gaeqs rfl (by first | assumption | with_reducible rfl) rfl (by rfl) (by rfl); intro be hbe) | refine gpassS1 rfl rfl rfl rfl rfl (fun _ => ?_) (fun _ => ?_) | refine gpassS0 rfl rfl rfl rfl rfl (fun _ => ?_) (fun _ => ?_) | refine psplitA rfl (fun _ => ?_) (fun _ => ?_) | refine acond rfl (fun _ => ?_) (fun _ => ?_))
    apply gcallpp rfl (by assumption) monoR rfl (by simp only [List.all_cons, List.all_nil, AV.plain, hN]; rfl) k12
    rintro _ _ ⟨rfl, rfl⟩
    refine ⟨rfl, rfl, ?_⟩
    repeat' (first | refine nat1 ?_ | (apply acallpp monoR rfl (by rfl) c13; rintro _ _ ⟨rfl, rfl⟩; refine ⟨rfl, rfl, ?_⟩) | (apply gcallpp rfl (by first | assumption | with_reducible rfl) monoR rfl (by rfl) c13; rintro _ _ ⟨rfl, rfl⟩; refine ⟨rfl, rfl, ?_⟩) | (refine gcallS1 rfl monoR rfl (by rfl) c13 (fun _ => ?_) (fun _ => ?_); rintro _ _ ⟨rfl, rfl⟩; refine ⟨rfl, rfl, ?_⟩) | (refine gcallS0 rfl monoR rfl (by rfl) c13 (fun _ => ?_) (fun _ => ?_); rintro _ _ ⟨rfl, rfl⟩; refine ⟨rfl, rfl, ?_⟩) | (apply aeqs rfl (by rfl) (by rfl); intro be hbe) | (apply gaeqs rfl (by first | assumption | with_reducible rfl) rfl (by rfl) (by rfl); intro be hbe) | refine gpassS1 rfl rfl rfl rfl rfl (fun _ => ?_) (fun _ => ?_) | refine gpassS0 rfl rfl rfl rfl rfl (fun _ => ?_) (fun _ => ?_) | refine psplitA rfl (fun _ => ?_) (fun _ => ?_) | refine acond rfl (fun _ => ?_) (fun _ => ?_))
    apply qf rfl (by rfl) aheap_le
    exact rfl
  · cases hcs
    repeat' (first | refine nat1 ?_ | (apply aeqs rfl (by rfl) (by rfl); intro be hbe) | (apply gaeqs rfl (by first | assumption | with_reducible rfl) rfl (by rfl) (by rfl); intro be hbe) | refine gpassS1 rfl rfl rfl rfl rfl (fun _ => ?_) (fun _ => ?_) | refine gpassS0 rfl rfl rfl rfl rfl (fun _ => ?_) (fun _ => ?_) | refine psplitA rfl (fun _ => ?_) (fun _ => ?_) | refine acond rfl (fun _ => ?_) (fun _ => ?_))
    apply gcallpp rfl (by assumption) monoR rfl (by simp only [List.all_cons, List.all_nil, AV.plain, hN]; rfl) k12
    rintro _ _ ⟨rfl, rfl⟩
    refine ⟨rfl, rfl, ?_⟩
    repeat' (first | refine nat1 ?_ | (apply acallpp monoR rfl (by rfl) c13; rintro _ _ ⟨rfl, rfl⟩; refine ⟨rfl, rfl, ?_⟩) | (apply gcallpp rfl (by first | assumption | with_reducible rfl) monoR rfl (by rfl) c13; rintro _ _ ⟨rfl, rfl⟩; refine ⟨rfl, rfl, ?_⟩) | (refine gcallS1 rfl monoR rfl (by rfl) c13 (fun _ => ?_) (fun _ => ?_); rintro _ _ ⟨rfl, rfl⟩; refine ⟨rfl, rfl, ?_⟩) | (refine gcallS0 rfl monoR rfl (by rfl) c13 (fun _ => ?_) (fun _ => ?_); rintro _ _ ⟨rfl, rfl⟩; refine ⟨rfl, rfl, ?_⟩) | (apply aeqs rfl (by rfl) (by rfl); intro be hbe) | (apply gaeqs rfl (by first | assumption | with_reducible rfl) rfl (by rfl) (by rfl); intro be hbe) | refine gpassS1 rfl rfl rfl rfl rfl (fun _ => ?_) (fun _ => ?_) | refine gpassS0 rfl rfl rfl rfl rfl (fun _ => ?_) (fun _ => ?_) | refine psplitA rfl (fun _ => ?_) (fun _ => ?_) | refine acond rfl (fun _ => ?_) (fun _ => ?_))
    apply qf rfl (by rfl) aheap_le
    exact rfl
end Go.Proofs.Ytkdphdcpofcnjaa
