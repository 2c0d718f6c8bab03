/- Part of the proofs of the statements on alerts: texts that the last text is built on. -/
import Derived.Test.YtkdphdcpofcnjaaK1
/- K12: contracts of seat 36: the reference's sorting and validity. -/
namespace Go.Proofs.Ytkdphdcpofcnjaa
open Go Abs
set_option linter.unusedSimpArgs false
set_option linter.unusedVariables false
set_option maxHeartbeats 1000000
attribute [local irreducible] Go.IntKind.wrap

def pkc (c : List AV) (p : Pick) : Prop := c = p.enc
def AllPk (xs : List (List AV)) : Prop := ∀ r ∈ xs, ∃ p : Pick, r = p.enc
theorem AllPk.at {xs : List (List AV)} (h : AllPk xs) {k : Nat} (hk : k < xs.length) : ∃ p : Pick, xs[k]? = some p.enc := by
  obtain ⟨p, hp⟩ := h _ (List.getElem_mem hk)
  exact ⟨p, by rw [List.getElem?_eq_getElem hk, hp]⟩
theorem AllPk.app {xs ys : List (List AV)} (h : AllPk xs) (h' : AllPk ys) : AllPk (xs ++ ys) := fun r hr => (List.mem_append.1 hr).elim (h r) (h' r)
theorem AllPk.sub {xs ys : List (List AV)} (h : AllPk xs) (hs : ∀ r ∈ ys, r ∈ xs) : AllPk ys := fun r hr => h r (hs r hr)
theorem AllPk.zero {n : Nat} : AllPk (List.replicate n zs9) := fun r hr => ⟨⟨⟨#[]⟩, ⟨#[]⟩, ⟨#[]⟩, ⟨#[]⟩, 0, 0, 0, 0, 0⟩, by rw [(List.mem_replicate.1 hr).2]; rfl⟩
theorem AllPk.map {ps : List Pick} : AllPk (ps.map Pick.enc) := fun r hr => by obtain ⟨p, _, rfl⟩ := List.mem_map.1 hr; exact ⟨p, rfl⟩
theorem AllPk.list {xs : List (List AV)} (h : AllPk xs) : ∃ ps : List Pick, All2 pkc xs ps := by
  induction xs with
  | nil => exact ⟨[], .nil⟩
  | cons x xs ih =>
    obtain ⟨p, hp⟩ := h x (by simp)
    obtain ⟨ps, hps⟩ := ih fun r hr => h r (by simp [hr])
    exact ⟨p :: ps, .cons hp hps⟩

/-- A sorted list under way. -/
def ArrP (h : AHeap) (n : Nat) (pv : AV) (H : AHeap) : Prop :=
  (n = 0 ∧ pv = .nils ∧ H = h) ∨ ∃ (l2 c : Nat) (xs : List (List AV)), pv = .hm l2 9 0 n c ∧ xs.length = c ∧ 1 ≤ n ∧ n ≤ c ∧ AllPk xs ∧ h.os l2 = none ∧ H = h.set l2 (some (.arr 9 xs))
theorem ArrP.names {h : AHeap} {n : Nat} {pv : AV} {H : AHeap} (a : ArrP h n pv H) : pv.names = none := by
  rcases a with ⟨_, rfl, _⟩ | ⟨l2, c, xs, rfl, _⟩ <;> rfl
theorem ArrP.len {h : AHeap} {n : Nat} {pv : AV} {H : AHeap} (a : ArrP h n pv H) {loc : Abs.Loc} {h' : AHeap} : pval loc h' .len [pv] = some (.int .i64 n, loc) := by
  rcases a with ⟨rfl, rfl, _⟩ | ⟨l2, c, xs, rfl, _⟩ <;> rfl

theorem c79 {h : AHeap} {ps : List Pick} {t : Tag} (hl : ps.length ≤ 1000) : ACalls PR 79 [.sl 9 (ps.map Pick.enc) t] h fun u h' => (∃ qs, IsSl 9 pkc u qs) ∧ h = h' := by
  refine fn_sound at79 ok79 (Nat.le_of_ble_eq_true rfl) (afn ?_)
  show AW _ C79 _ _
  unfold C79
  refine nav ?_
  refine aloop (fun q s => ∃ (k n : Nat) (pv : AV) (H : AHeap), q + k = ps.length ∧ n ≤ k ∧ ArrP h n pv H ∧ s = ⟨Env.of [(0, some (.sl 9 (ps.map Pick.enc) t)), (3, some pv), (4, some (.int .i64 k))], Loc.of [], H⟩) ps.length ⟨0, 0, _, _, by omega, by omega, .inl ⟨rfl, rfl, rfl⟩, rfl⟩ ?_
  rintro q s' ⟨k, n, pv, H, hq, hnk, hA, rfl⟩
  have hN := hA.names
  refine nav ?_
  refine acond rfl (fun hc => ?_) (fun hc => ?_)
  · have hk : k < ps.length := by have := of_decide_eq_true hc; simpa using this
    obtain ⟨p, hp, he⟩ := pick_get hk
    simp only [Pick.enc] at he
    refine nav ?_
    apply apass rfl rfl hA.len
    refine nav ?_
    refine aloopE (fun q2 s => q2 ≤ n ∧ s = ⟨Env.of [(0, some (.sl 9 (ps.map Pick.enc) t)), (3, some pv), (4, some (.int .i64 k)), (5, some (.int .i64 q2))], Loc.of [], H⟩) n
      (fun s => ∃ j b, j ≤ n ∧ s = ⟨Env.of [(0, some (.sl 9 (ps.map Pick.enc) t)), (3, some pv), (4, some (.int .i64 k)), (5, some (.int .i64 j)), (28, some (.bool b))], Loc.of [], H⟩) 2 ⟨Nat.le_refl _, rfl⟩ (fun Q' hE _ => ?_) ?_
    · rintro j s2 ⟨hj, rfl⟩
      rcases Nat.eq_zero_or_pos j with rfl | hj1
      · repeat' (first | refine nat1 ?_ | (apply aeqs rfl (by rfl) (by rfl); intro be hbe) | (apply gaeqs rfl (by first | assumption | with_reducible rfl) rfl (by rfl) (by rfl); intro be hbe) | refine gpassS1 rfl rfl rfl rfl rfl (fun _ => ?_) (fun _ => ?_) | refine gpassS0 rfl rfl rfl rfl rfl (fun _ => ?_) (fun _ => ?_) | refine psplitA rfl (fun _ => ?_) (fun _ => ?_) | refine acond rfl (fun _ => ?_) (fun _ => ?_))
        all_goals first
          | (exact hE _ ⟨0, _, by omega, rfl⟩)
          | (exfalso; simp_all; done)
      · rcases hA with ⟨rfl, _⟩ | ⟨l2, c, xs, rfl, hxc, hn1, hnc, hxs, hl2, rfl⟩
        · omega
        have hdj : decide ((j : Int) > 0) = true := decide_eq_true (by omega)
        have ho : (h.set l2 (some (.arr 9 xs))).os l2 = some (.arr 9 xs) := AHeap.os_set _ _ _
        obtain ⟨x, hx⟩ := hxs.at (k := 0 + (j - 1)) (by omega)
        simp only [Pick.enc] at hx
        have k88 := c88 (h := h.set l2 (some (.arr 9 xs))) (p := x) (p' := p)
        repeat' (first | refine nat1 ?_ | (apply aeqs rfl (by rfl) (by rfl); intro be hbe) | (apply gaeqs rfl (by first | assumption | with_reducible rfl) rfl (by rfl) (by rfl); intro be hbe) | refine gpassS1 rfl rfl rfl rfl rfl (fun _ => ?_) (fun _ => ?_) | refine gpassS0 rfl rfl rfl rfl rfl (fun _ => ?_) (fun _ => ?_) | refine psplitA rfl (fun _ => ?_) (fun _ => ?_) | refine acond rfl (fun _ => ?_) (fun _ => ?_))
        apply gaixmR rfl hdj rfl (show (j : Int) - 1 = ((j - 1 : Nat) : Int) by omega) (by omega)
        repeat' (first | refine nat1 ?_ | (apply aeqs rfl (by rfl) (by rfl); intro be hbe) | (apply gaeqs rfl (by first | assumption | with_reducible rfl) rfl (by rfl) (by rfl); intro be hbe) | refine gpassS1 rfl rfl rfl rfl rfl (fun _ => ?_) (fun _ => ?_) | refine gpassS0 rfl rfl rfl rfl rfl (fun _ => ?_) (fun _ => ?_) | refine psplitA rfl (fun _ => ?_) (fun _ => ?_) | refine acond rfl (fun _ => ?_) (fun _ => ?_))
        try apply galdh rfl hdj rfl ho hx rfl
        repeat' (first | refine nat1 ?_ | (apply acallpp monoR rfl (by rfl) k88; rintro _ _ ⟨⟨_, rfl⟩, rfl⟩; refine ⟨rfl, rfl, ?_⟩) | (apply gcallpp rfl (by first | assumption | with_reducible rfl) monoR rfl (by rfl) k88; rintro _ _ ⟨⟨_, rfl⟩, rfl⟩; refine ⟨rfl, rfl, ?_⟩) | (refine gcallS1 rfl monoR rfl (by rfl) k88 (fun _ => ?_) (fun _ => ?_); rintro _ _ ⟨⟨_, rfl⟩, rfl⟩; refine ⟨rfl, rfl, ?_⟩) | (refine gcallS0 rfl monoR rfl (by rfl) k88 (fun _ => ?_) (fun _ => ?_); rintro _ _ ⟨⟨_, rfl⟩, rfl⟩; refine ⟨rfl, rfl, ?_⟩) | (apply aeqs rfl (by rfl) (by rfl); intro be hbe) | (apply gaeqs rfl (by first | assumption | with_reducible rfl) rfl (by rfl) (by rfl); intro be hbe) | refine gpassS1 rfl rfl rfl rfl rfl (fun _ => ?_) (fun _ => ?_) | refine gpassS0 rfl rfl rfl rfl rfl (fun _ => ?_) (fun _ => ?_) | refine psplitA rfl (fun _ => ?_) (fun _ => ?_) | refine acond rfl (fun _ => ?_) (fun _ => ?_))
        · exact ql_n (j - 1) (by omega) ⟨by omega, by rw [show ((j - 1 : Nat) : Int) = (j : Int) - 1 by omega]⟩
        · exact hE _ ⟨j, _, hj, rfl⟩
    · rintro s2 ⟨j, b, hj, rfl⟩
      apply qb_e rfl
      apply qs_n
      apply aseq
      refine ajoin (fun s => ∃ b, s = ⟨Env.of [(0, some (.sl 9 (ps.map Pick.enc) t)), (3, some pv), (4, some (.int .i64 k)), (5, some (.int .i64 j)), (44, some (.bool b))], Loc.of [], H⟩) (fun Q' hE hO => ?_) ?_
      · rcases Nat.eq_zero_or_pos j with rfl | hj1
        · repeat' (first | refine nat1 ?_ | (apply aeqs rfl (by rfl) (by rfl); intro be hbe) | (apply gaeqs rfl (by first | assumption | with_reducible rfl) rfl (by rfl) (by rfl); intro be hbe) | refine gpassS1 rfl rfl rfl rfl rfl (fun _ => ?_) (fun _ => ?_) | refine gpassS0 rfl rfl rfl rfl rfl (fun _ => ?_) (fun _ => ?_) | refine psplitA rfl (fun _ => ?_) (fun _ => ?_) | refine acond rfl (fun _ => ?_) (fun _ => ?_))
          all_goals first
            | (exact hE _ ⟨_, rfl⟩)
            | (exfalso; simp_all; done)
        · rcases hA with ⟨rfl, _⟩ | ⟨l2, c, xs, rfl, hxc, hn1, hnc, hxs, hl2, rfl⟩
          · omega
          have hdj : decide ((j : Int) > 0) = true := decide_eq_true (by omega)
          have ho : (h.set l2 (some (.arr 9 xs))).os l2 = some (.arr 9 xs) := AHeap.os_set _ _ _
          obtain ⟨x, hx⟩ := hxs.at (k := 0 + (j - 1)) (by omega)
          simp only [Pick.enc] at hx
          repeat' (first | refine nat1 ?_ | (apply aeqs rfl (by rfl) (by rfl); intro be hbe) | (apply gaeqs rfl (by first | assumption | with_reducible rfl) rfl (by rfl) (by rfl); intro be hbe) | refine gpassS1 rfl rfl rfl rfl rfl (fun _ => ?_) (fun _ => ?_) | refine gpassS0 rfl rfl rfl rfl rfl (fun _ => ?_) (fun _ => ?_) | refine psplitA rfl (fun _ => ?_) (fun _ => ?_) | refine acond rfl (fun _ => ?_) (fun _ => ?_))
          apply gaixmR rfl hdj rfl (show (j : Int) - 1 = ((j - 1 : Nat) : Int) by omega) (by omega)
          repeat' (first | refine nat1 ?_ | (apply aeqs rfl (by rfl) (by rfl); intro be hbe) | (apply gaeqs rfl (by first | assumption | with_reducible rfl) rfl (by rfl) (by rfl); intro be hbe) | refine gpassS1 rfl rfl rfl rfl rfl (fun _ => ?_) (fun _ => ?_) | refine gpassS0 rfl rfl rfl rfl rfl (fun _ => ?_) (fun _ => ?_) | refine psplitA rfl (fun _ => ?_) (fun _ => ?_) | refine acond rfl (fun _ => ?_) (fun _ => ?_))
          try apply galdh rfl hdj rfl ho hx rfl
          repeat' (first | refine nat1 ?_ | (apply aeqs rfl (by rfl) (by rfl); intro be hbe) | (apply gaeqs rfl (by first | assumption | with_reducible rfl) rfl (by rfl) (by rfl); intro be hbe) | refine gpassS1 rfl rfl rfl rfl rfl (fun _ => ?_) (fun _ => ?_) | refine gpassS0 rfl rfl rfl rfl rfl (fun _ => ?_) (fun _ => ?_) | refine psplitA rfl (fun _ => ?_) (fun _ => ?_) | refine acond rfl (fun _ => ?_) (fun _ => ?_))
          · apply hO _ _ (by simp)
            repeat' (first | refine nat1 ?_ | (apply aeqs rfl (by rfl) (by rfl); intro be hbe) | (apply gaeqs rfl (by first | assumption | with_reducible rfl) rfl (by rfl) (by rfl); intro be hbe) | refine gpassS1 rfl rfl rfl rfl rfl (fun _ => ?_) (fun _ => ?_) | refine gpassS0 rfl rfl rfl rfl rfl (fun _ => ?_) (fun _ => ?_) | refine psplitA rfl (fun _ => ?_) (fun _ => ?_) | refine acond rfl (fun _ => ?_) (fun _ => ?_))
            exact ql_n (q - 1) (by omega) ⟨k + 1, n, _, _, by omega, by omega, .inr ⟨l2, c, xs, rfl, hxc, hn1, hnc, hxs, hl2, rfl⟩, rfl⟩
          · exact hE _ ⟨_, rfl⟩
      rintro s3 ⟨b3, rfl⟩
      apply qs_n
      apply aseq
      refine ajoin (fun s => ∃ pv' H', ArrP h (n + 1) pv' H' ∧ s = ⟨Env.of [(0, some (.sl 9 (ps.map Pick.enc) t)), (3, some pv'), (4, some (.int .i64 k)), (5, some (.int .i64 j))], Loc.of [], H'⟩) (fun Q' hE hO => ?_) ?_
      · rcases hA with ⟨rfl, rfl, rfl⟩ | ⟨l2, c, xs, rfl, hxc, hn1, hnc, hxs, hl2, rfl⟩
        · refine nav ?_
          apply aappm0 rfl (.inl rfl) (by simp) (by simp)
          intro l2 c hl2 hc2
          refine nav ?_
          refine hE _ ⟨_, _, .inr ⟨l2, c, _, rfl, ?_, by omega, hc2, ?_, hl2, rfl⟩, rfl⟩
          · simp only [List.length_append, List.length_replicate, List.length_cons, List.length_nil] at hc2 ⊢; omega
          · exact AllPk.app (fun r hr => ⟨p, by simp at hr; exact hr⟩) AllPk.zero
        · refine nav ?_
          apply aappm1 (xs := xs) rfl (AHeap.os_set _ _ _) hnc hxc.symm (by simp) (by simp; omega)
          · intro hroom
            refine nav ?_
            rw [set_set]
            refine hE _ ⟨_, _, .inr ⟨l2, c, _, rfl, ?_, by omega, hroom, ?_, hl2, rfl⟩, rfl⟩
            · simp only [List.length_cons, List.length_nil] at hroom
              simp; omega
            · exact AllPk.app (AllPk.app (hxs.sub fun r hr => List.mem_of_mem_take hr) (fun r hr => ⟨p, by simp at hr; exact hr⟩)) (hxs.sub fun r hr => List.mem_of_mem_drop hr)
          · intro hroom l3 c3 hl3 hc3
            have hl32 : l3 ≠ l2 := by rintro rfl; rw [AHeap.os_set] at hl3; cases hl3
            have hl3' : h.os l3 = none := by rw [os_ne _ _ hl32] at hl3; exact hl3
            refine nav ?_
            rw [set_set, set_none _ hl2]
            refine hE _ ⟨_, _, .inr ⟨l3, c3, _, rfl, ?_, by omega, hc3, ?_, hl3', rfl⟩, rfl⟩
            · simp only [List.length_cons, List.length_nil] at hroom hc3
              simp; omega
            · exact AllPk.app (AllPk.app (hxs.sub fun r hr => List.mem_of_mem_take hr) (fun r hr => ⟨p, by simp at hr; exact hr⟩)) AllPk.zero
      rintro s4 ⟨pv', H', hA', rfl⟩
      rcases hA' with ⟨h0, _⟩ | ⟨l2, c, xs, rfl, hxc, hn1, hnc, hxs, hl2, rfl⟩
      · omega
      have ho : (h.set l2 (some (.arr 9 xs))).os l2 = some (.arr 9 xs) := AHeap.os_set _ _ _
      refine naw ?_
      apply aslm_lo rfl (show (j : Int) + 1 = ((j + 1 : Nat) : Int) by omega) (by omega)
      refine naw ?_
      apply aslm_lo rfl rfl (by omega)
      refine naw ?_
      rw [if_neg (show ¬ c = j by omega)]
      apply acpym rfl ho (by split <;> omega) ho (by omega)
      rw [set_set]
      have hxs' : ∀ o : Nat, AllPk (xs.take o ++ ((xs.drop (0 + j)).take (n + 1 - j)).take (n + 1 - (j + 1)) ++ xs.drop (o + min ((xs.drop (0 + j)).take (n + 1 - j)).length (n + 1 - (j + 1)))) := fun o =>
        AllPk.app (AllPk.app (hxs.sub fun r hr => List.mem_of_mem_take hr) (hxs.sub fun r hr => List.mem_of_mem_drop (List.mem_of_mem_take (List.mem_of_mem_take hr)))) (hxs.sub fun r hr => List.mem_of_mem_drop hr)
      have hlen' : ∀ o : Nat, o + (n + 1 - (j + 1)) ≤ c → (xs.take o ++ ((xs.drop (0 + j)).take (n + 1 - j)).take (n + 1 - (j + 1)) ++ xs.drop (o + min ((xs.drop (0 + j)).take (n + 1 - j)).length (n + 1 - (j + 1)))).length = c := fun o ho => by
        simp only [List.length_append, List.length_take, List.length_drop]; omega
      have hx1 := hxs' (if c = j + 1 then 0 else 0 + (j + 1))
      have hx2 := hlen' (if c = j + 1 then 0 else 0 + (j + 1)) (by split <;> omega)
      generalize (xs.take (if c = j + 1 then 0 else 0 + (j + 1)) ++ ((xs.drop (0 + j)).take (n + 1 - j)).take (n + 1 - (j + 1)) ++ xs.drop ((if c = j + 1 then 0 else 0 + (j + 1)) + min ((xs.drop (0 + j)).take (n + 1 - j)).length (n + 1 - (j + 1)))) = ys at hx1 hx2 ⊢
      obtain ⟨y, hy⟩ := hx1.at (k := 0 + j) (by omega)
      refine naw ?_
      apply aixmR rfl rfl (by omega)
      refine naw ?_
      apply asthE rfl (by rfl) (by rfl) (AHeap.os_set _ _ _) hy (by simp [Pick.enc])
      rw [set_set]
      refine naw ?_
      refine ql_n (q - 1) (by omega) ⟨k + 1, n + 1, _, _, by omega, by omega, .inr ⟨l2, c, _, rfl, ?_, hn1, hnc, ?_, hl2, rfl⟩, rfl⟩
      · rw [List.length_set]; exact hx2
      · intro r hr
        rcases List.mem_or_eq_of_mem_set hr with hr | rfl
        · exact hx1 r hr
        · exact ⟨p, rfl⟩
  · rcases hA with ⟨rfl, rfl, rfl⟩ | ⟨l2, c, xs, rfl, hxc, hn1, hnc, hxs, hl2, rfl⟩
    · refine nav ?_
      apply afrz0 rfl rfl
      refine nav ?_
      apply qf rfl (by rfl) aheap_le
      exact ⟨⟨[], .inl ⟨rfl, rfl⟩⟩, rfl⟩
    · refine nav ?_
      apply afrzh rfl (AHeap.os_set _ _ _) (by omega)
      refine nav ?_
      apply qf rfl (by rfl) aheap_le
      obtain ⟨qs, hqs⟩ := (hxs.sub (ys := (xs.drop 0).take n) fun r hr => List.mem_of_mem_drop (List.mem_of_mem_take hr)).list
      exact ⟨⟨qs, .inr ⟨_, _, rfl, hqs⟩⟩, by rw [set_set, set_none _ hl2]⟩
end Go.Proofs.Ytkdphdcpofcnjaa

/- K13: contracts of seat 36: the reference's validity. -/
namespace Go.Proofs.Ytkdphdcpofcnjaa
open Go Abs
set_option linter.unusedSimpArgs false
set_option linter.unusedVariables false
set_option maxHeartbeats 2000000
attribute [local irreducible] Go.IntKind.wrap

theorem c61 {h : AHeap} {v : AV} {l : List Alert} (hv : IsSl 38 IsAl v l) (hl : l.length ≤ 1000) : ACalls PR 61 [v] h (SomeB h) := by
  refine fn_sound at61 ok61 (Nat.le_of_ble_eq_true rfl) (afn ?_)
  show AW _ C61 _ _
  unfold C61
  have hN := hv.names
  refine nav ?_
  refine aloop (fun q s => ∃ k : Nat, q + k = l.length ∧ s = ⟨Env.of [(0, some v), (3, some (.int .i64 k))], Loc.of [], h⟩) (l.length) ⟨0, by simp, rfl⟩ ?_
  rintro q s' ⟨k, hq, rfl⟩
  refine nav ?_
  apply alenS rfl hv
  refine nav ?_
  refine acond rfl (fun hc => ?_) (fun hc => ?_)
  · have hlt : k < l.length := by have := of_decide_eq_true hc; omega
    have hgetall : ∀ j, j < l.length → ∃ cs t, v = .sl 38 cs t := fun j hj => by obtain ⟨cs, t, c, e, _⟩ := hv.at (List.getElem?_eq_getElem hj); exact ⟨cs, t, e⟩
    obtain ⟨cs, t, rfl⟩ := hgetall k hlt
    have hget : ∀ j, j < l.length → ∃ a tg, cs[j]? = some (alc a tg) := fun j hj => by
      obtain ⟨cs', t', c, e, h1, tg, rfl⟩ := hv.at (List.getElem?_eq_getElem hj)
      cases e
      exact ⟨_, _, h1⟩
    obtain ⟨a, ta, hx⟩ := hget k hlt
    obtain ⟨a', ta', hx'⟩ : ∃ a tg, 1 ≤ k → cs[((k : Int) - 1).toNat]? = some (alc a tg) := by
      by_cases h1 : 1 ≤ k
      · obtain ⟨a, tg, h2⟩ := hget (k - 1) (by omega)
        exact ⟨a, tg, fun _ => by rw [show ((k : Int) - 1).toNat = k - 1 by omega]; exact h2⟩
      · exact ⟨a, ta, fun h => absurd h h1⟩
    unfold alc at hx hx'
    apply askip
    apply qs_n
    apply aseq
    apply ablock
    apply aseq
    refine ajoin (fun s => ∃ b, s = ⟨Env.of [(0, some (.sl 38 cs t)), (3, some (.int .i64 k)), (58, some (.bool b))], Loc.of [], h⟩) (fun Q' hE hO => ?_) ?_
    · rcases Nat.eq_zero_or_pos k with rfl | hk1
      · repeat' (first | refine nat1 ?_ | (apply aeqs rfl (by rfl) (by rfl); intro be hbe) | (apply gaeqs rfl (by first | assumption | with_reducible rfl) rfl (by rfl) (by rfl); intro be hbe) | refine gpassS1 rfl rfl rfl rfl rfl (fun _ => ?_) (fun _ => ?_) | refine gpassS0 rfl rfl rfl rfl rfl (fun _ => ?_) (fun _ => ?_) | refine psplitA rfl (fun _ => ?_) (fun _ => ?_) | refine acond rfl (fun _ => ?_) (fun _ => ?_))
        all_goals first
          | (exact hE _ ⟨_, rfl⟩)
          | (apply hO _ _ (by simp)
             repeat' (first | refine nat1 ?_ | (apply aeqs rfl (by rfl) (by rfl); intro be hbe) | (apply gaeqs rfl (by first | assumption | with_reducible rfl) rfl (by rfl) (by rfl); intro be hbe) | refine gpassS1 rfl rfl rfl rfl rfl (fun _ => ?_) (fun _ => ?_) | refine gpassS0 rfl rfl rfl rfl rfl (fun _ => ?_) (fun _ => ?_) | refine psplitA rfl (fun _ => ?_) (fun _ => ?_) | refine acond rfl (fun _ => ?_) (fun _ => ?_))
             apply qf rfl (by rfl) aheap_le; exact ⟨⟨_, rfl⟩, rfl⟩)
          | (exfalso; simp_all; done)
          | skip
      · have hx'' := hx' hk1
        repeat' (first | refine nat1 ?_ | (apply aeqs rfl (by rfl) (by rfl); intro be hbe) | (apply gaeqs rfl (by first | assumption | with_reducible rfl) rfl (by rfl) (by rfl); intro be hbe) | refine gpassS1 rfl rfl rfl rfl rfl (fun _ => ?_) (fun _ => ?_) | refine gpassS0 rfl rfl rfl rfl rfl (fun _ => ?_) (fun _ => ?_) | refine psplitA rfl (fun _ => ?_) (fun _ => ?_) | refine acond rfl (fun _ => ?_) (fun _ => ?_))
        all_goals first
          | (exact hE _ ⟨_, rfl⟩)
          | (apply hO _ _ (by simp)
             repeat' (first | refine nat1 ?_ | (apply aeqs rfl (by rfl) (by rfl); intro be hbe) | (apply gaeqs rfl (by first | assumption | with_reducible rfl) rfl (by rfl) (by rfl); intro be hbe) | refine gpassS1 rfl rfl rfl rfl rfl (fun _ => ?_) (fun _ => ?_) | refine gpassS0 rfl rfl rfl rfl rfl (fun _ => ?_) (fun _ => ?_) | refine psplitA rfl (fun _ => ?_) (fun _ => ?_) | refine acond rfl (fun _ => ?_) (fun _ => ?_))
             apply qf rfl (by rfl) aheap_le; exact ⟨⟨_, rfl⟩, rfl⟩)
          | (exfalso; simp_all; done)
          | skip
    rintro s2 ⟨b2, rfl⟩
    refine naw ?_
    refine aloop (fun q2 s => ∃ j : Nat, q2 + j = k ∧ s = ⟨Env.of [(0, some (.sl 38 cs t)), (3, some (.int .i64 k)), (4, some (.int .i64 j))], Loc.of [], h⟩) k ⟨0, by simp, rfl⟩ ?_
    rintro q2 s3 ⟨j, hq2, rfl⟩
    refine naw ?_
    refine acond rfl (fun hc2 => ?_) (fun hc2 => ?_)
    · have hj : j < k := by have := of_decide_eq_true hc2; omega
      obtain ⟨aj, taj, hxj⟩ := hget j (by omega)
      unfold alc at hxj
      repeat' (first | refine nat1 ?_ | (apply aeqs rfl (by rfl) (by rfl); intro be hbe) | (apply gaeqs rfl (by first | assumption | with_reducible rfl) rfl (by rfl) (by rfl); intro be hbe) | refine gpassS1 rfl rfl rfl rfl rfl (fun _ => ?_) (fun _ => ?_) | refine gpassS0 rfl rfl rfl rfl rfl (fun _ => ?_) (fun _ => ?_) | refine psplitA rfl (fun _ => ?_) (fun _ => ?_) | refine acond rfl (fun _ => ?_) (fun _ => ?_))
      all_goals first
        | exact ql_n (q2 - 1) (by omega) ⟨j + 1, by omega, rfl⟩
        | (apply qf rfl (by rfl) aheap_le; exact ⟨⟨_, rfl⟩, rfl⟩)
    · refine naw ?_
      exact ql_n (q - 1) (by omega) ⟨k + 1, by omega, rfl⟩
  · repeat' (first | refine nat1 ?_ | (apply aeqs rfl (by rfl) (by rfl); intro be hbe) | (apply gaeqs rfl (by first | assumption | with_reducible rfl) rfl (by rfl) (by rfl); intro be hbe) | refine gpassS1 rfl rfl rfl rfl rfl (fun _ => ?_) (fun _ => ?_) | refine gpassS0 rfl rfl rfl rfl rfl (fun _ => ?_) (fun _ => ?_) | refine psplitA rfl (fun _ => ?_) (fun _ => ?_) | refine acond rfl (fun _ => ?_) (fun _ => ?_))
    apply alenS rfl hv
    repeat' (first | refine nat1 ?_ | (apply aeqs rfl (by rfl) (by rfl); intro be hbe) | (apply gaeqs rfl (by first | assumption | with_reducible rfl) rfl (by rfl) (by rfl); intro be hbe) | refine gpassS1 rfl rfl rfl rfl rfl (fun _ => ?_) (fun _ => ?_) | refine gpassS0 rfl rfl rfl rfl rfl (fun _ => ?_) (fun _ => ?_) | refine psplitA rfl (fun _ => ?_) (fun _ => ?_) | refine acond rfl (fun _ => ?_) (fun _ => ?_))
    apply qf rfl (by rfl) aheap_le
    exact ⟨⟨_, rfl⟩, rfl⟩
end Go.Proofs.Ytkdphdcpofcnjaa

/- K14: contracts of seat 36: the reference's validity of events. -/
namespace Go.Proofs.Ytkdphdcpofcnjaa
open Go Abs
set_option linter.unusedSimpArgs false
set_option linter.unusedVariables false
set_option maxHeartbeats 2000000
attribute [local irreducible] Go.IntKind.wrap

theorem gcallp' {C : Con} {K : ASt → Prop} {env : Abs.Env} {loc : Abs.Loc} {h : AHeap} {i : Nat} {dst : Option Nat} {args : List Opd} {r : List AIns} {g : Nat} {b w : Bool} {f : Nat} {vs : List AV} {R : AV → Prop} (hg : env g = some (.bool b)) (hb : b = w) (hC : Monotone C) (ha : ASt.args ⟨env, loc, h⟩ (.call f) args = some vs) (hp : vs.all AV.plain = true) (hc : C f vs h fun u h' => R u ∧ h = h')
    (hh : ∀ u, R u → u.plain = true ∧ AO C r ⟨env.put dst (some u), loc, h⟩ K) : AO C (⟨i, some (g, w), dst, .call f, args, []⟩ :: r) ⟨env, loc, h⟩ K :=
  gcall hg hb hC ha hp hc fun u h' ⟨e1, e2⟩ => by subst e2; exact hh u e1

def Event.small (e : Event) : Prop := e.picks ≠ [] ∧ e.picks.length ≤ 1000

theorem c62 {h : AHeap} {v : AV} {l : List Event} (hv : IsSl 25 IsEv v l) (hl : l.length ≤ 1000) (hs : ∀ e ∈ l, e.small) : ACalls PR 62 [v] h (SomeB h) := by
  refine fn_sound at62 ok62 (Nat.le_of_ble_eq_true rfl) (afn ?_)
  show AW _ C62 _ _
  unfold C62
  have hN := hv.names
  refine nav ?_
  refine aloop (fun q s => ∃ k : Nat, q + k = l.length ∧ s = ⟨Env.of [(0, some v), (3, some (.int .i64 k))], Loc.of [], h⟩) (l.length) ⟨0, by simp, rfl⟩ ?_
  rintro q s' ⟨k, hq, rfl⟩
  refine nav ?_
  apply alenS rfl hv
  refine nav ?_
  refine acond rfl (fun hc => ?_) (fun hc => ?_)
  · have hlt : k < l.length := by have := of_decide_eq_true hc; omega
    have hgetall : ∀ j, j < l.length → ∃ cs t, v = .sl 25 cs t := fun j hj => by obtain ⟨cs, t, c, e, _⟩ := hv.at (List.getElem?_eq_getElem hj); exact ⟨cs, t, e⟩
    obtain ⟨cs, t, rfl⟩ := hgetall k hlt
    have hget : ∀ j, j < l.length → ∃ a tg, cs[j]? = some (evc a tg) ∧ a.small := fun j hj => by
      obtain ⟨cs', t', c, e, h1, tg, h2⟩ := hv.at (List.getElem?_eq_getElem hj)
      cases e
      exact ⟨_, _, by rw [h1, h2]; rfl, hs _ (List.getElem_mem hj)⟩
    obtain ⟨a, ta, hx, hsm1, hsm2⟩ := hget k hlt
    obtain ⟨a', ta', hx'⟩ : ∃ a tg, 1 ≤ k → cs[((k : Int) - 1).toNat]? = some (evc a tg) := by
      by_cases h1 : 1 ≤ k
      · obtain ⟨a, tg, h2, _⟩ := hget (k - 1) (by omega)
        exact ⟨a, tg, fun _ => by rw [show ((k : Int) - 1).toNat = k - 1 by omega]; exact h2⟩
      · exact ⟨a, ta, fun h => absurd h h1⟩
    unfold evc at hx hx'
    apply askip
    apply qs_n
    apply aseq
    apply ablock
    apply aseq
    refine ajoin (fun s => s = ⟨Env.of [(0, some (.sl 25 cs t)), (3, some (.int .i64 k)), (4, some (.sl 9 (a.picks.map Pick.enc) ta))], Loc.of [], h⟩) (fun Q' hE hO => ?_) ?_
    · refine nav ?_
      exact hE _ rfl
    rintro _ rfl
    apply qs_n
    apply aseq
    refine ajoin (fun s => ∃ b, s = ⟨Env.of [(0, some (.sl 25 cs t)), (3, some (.int .i64 k)), (4, some (.sl 9 (a.picks.map Pick.enc) ta)), (56, some (.bool b))], Loc.of [], h⟩) (fun Q' hE hO => ?_) ?_
    · have hlen0 : decide (((a.picks.map Pick.enc).length : Int) = 0) = false := by
        rw [decide_eq_false_iff_not, List.length_map]
        have := List.length_pos_iff.2 hsm1
        omega
      repeat' (first | refine nat1 ?_ | (apply aeqs rfl (by rfl) (by rfl); intro be hbe) | (apply gaeqs rfl (by first | assumption | with_reducible rfl) rfl (by rfl) (by rfl); intro be hbe) | refine gpassS1 rfl rfl rfl rfl rfl (fun _ => ?_) (fun _ => ?_) | refine gpassS0 rfl rfl rfl rfl rfl (fun _ => ?_) (fun _ => ?_) | refine psplitA rfl (fun _ => ?_) (fun _ => ?_) | refine acond rfl (fun _ => ?_) (fun _ => ?_))
      apply gcallpp rfl hlen0 monoR rfl (by rfl) (c78 hsm1 hsm2)
      rintro _ _ ⟨⟨q1, rfl⟩, rfl⟩
      refine ⟨rfl, rfl, ?_⟩
      simp only [Pick.enc]
      apply gaeqs rfl hlen0 rfl (by rfl) (by rfl)
      intro be hbe
      have atcall : ∀ b : Bool, b = true ∨ b = false := fun b => by cases b <;> simp
      rcases atcall (be != true) with hb | hb
      all_goals (
        repeat' (first | refine nat1 ?_ | (apply aeqs rfl (by rfl) (by rfl); intro be hbe) | (apply gaeqs rfl (by first | assumption | with_reducible rfl) rfl (by rfl) (by rfl); intro be hbe) | refine gpassS1 rfl rfl rfl rfl rfl (fun _ => ?_) (fun _ => ?_) | refine gpassS0 rfl rfl rfl rfl rfl (fun _ => ?_) (fun _ => ?_) | refine psplitA rfl (fun _ => ?_) (fun _ => ?_) | refine acond rfl (fun _ => ?_) (fun _ => ?_))
        all_goals first
          | (exact hE _ ⟨_, rfl⟩)
          | (apply hO _ _ (by simp)
             repeat' (first | refine nat1 ?_ | (apply aeqs rfl (by rfl) (by rfl); intro be hbe) | (apply gaeqs rfl (by first | assumption | with_reducible rfl) rfl (by rfl) (by rfl); intro be hbe) | refine gpassS1 rfl rfl rfl rfl rfl (fun _ => ?_) (fun _ => ?_) | refine gpassS0 rfl rfl rfl rfl rfl (fun _ => ?_) (fun _ => ?_) | refine psplitA rfl (fun _ => ?_) (fun _ => ?_) | refine acond rfl (fun _ => ?_) (fun _ => ?_))
             apply qf rfl (by rfl) aheap_le; exact ⟨⟨_, rfl⟩, rfl⟩)
          | skip)
      apply gcallp' rfl hb monoR rfl (by rfl) (c79 hsm2)
      rintro w ⟨qs, hw⟩
      have hN : w.names = none := hw.names
      refine ⟨by simp [AV.plain, hN], ?_⟩
      apply gcallpp rfl hb monoR rfl (by simp [AV.plain, hN]; rfl) (c59 hw hsm2)
      rintro _ _ ⟨⟨b9, rfl, _⟩, rfl⟩
      refine ⟨rfl, rfl, ?_⟩
      have k80 := c80 (h := h) (p := a'.name) (p' := a.name)
      cases b9
      · repeat' (first | refine nat1 ?_ | (apply aeqs rfl (by rfl) (by rfl); intro be hbe) | (apply gaeqs rfl (by first | assumption | with_reducible rfl) rfl (by rfl) (by rfl); intro be hbe) | refine gpassS1 rfl rfl rfl rfl rfl (fun _ => ?_) (fun _ => ?_) | refine gpassS0 rfl rfl rfl rfl rfl (fun _ => ?_) (fun _ => ?_) | refine psplitA rfl (fun _ => ?_) (fun _ => ?_) | refine acond rfl (fun _ => ?_) (fun _ => ?_))
        all_goals first
          | (exact hE _ ⟨_, rfl⟩)
          | (apply hO _ _ (by simp)
             repeat' (first | refine nat1 ?_ | (apply aeqs rfl (by rfl) (by rfl); intro be hbe) | (apply gaeqs rfl (by first | assumption | with_reducible rfl) rfl (by rfl) (by rfl); intro be hbe) | refine gpassS1 rfl rfl rfl rfl rfl (fun _ => ?_) (fun _ => ?_) | refine gpassS0 rfl rfl rfl rfl rfl (fun _ => ?_) (fun _ => ?_) | refine psplitA rfl (fun _ => ?_) (fun _ => ?_) | refine acond rfl (fun _ => ?_) (fun _ => ?_))
             apply qf rfl (by rfl) aheap_le; exact ⟨⟨_, rfl⟩, rfl⟩)
          | (exfalso; simp_all; done)
      rcases Nat.eq_zero_or_pos k with rfl | hk1
      · repeat' (first | refine nat1 ?_ | (apply aeqs rfl (by rfl) (by rfl); intro be hbe) | (apply gaeqs rfl (by first | assumption | with_reducible rfl) rfl (by rfl) (by rfl); intro be hbe) | refine gpassS1 rfl rfl rfl rfl rfl (fun _ => ?_) (fun _ => ?_) | refine gpassS0 rfl rfl rfl rfl rfl (fun _ => ?_) (fun _ => ?_) | refine psplitA rfl (fun _ => ?_) (fun _ => ?_) | refine acond rfl (fun _ => ?_) (fun _ => ?_))
        all_goals first
          | (exact hE _ ⟨_, rfl⟩)
          | (apply hO _ _ (by simp)
             repeat' (first | refine nat1 ?_ | (apply aeqs rfl (by rfl) (by rfl); intro be hbe) | (apply gaeqs rfl (by first | assumption | with_reducible rfl) rfl (by rfl) (by rfl); intro be hbe) | refine gpassS1 rfl rfl rfl rfl rfl (fun _ => ?_) (fun _ => ?_) | refine gpassS0 rfl rfl rfl rfl rfl (fun _ => ?_) (fun _ => ?_) | refine psplitA rfl (fun _ => ?_) (fun _ => ?_) | refine acond rfl (fun _ => ?_) (fun _ => ?_))
             apply qf rfl (by rfl) aheap_le; exact ⟨⟨_, rfl⟩, rfl⟩)
          | (exfalso; simp_all; done)
      · have hx'' := hx' hk1
        repeat' (first | refine nat1 ?_ | (apply acallpp monoR rfl (by rfl) k80; rintro _ _ ⟨⟨_, rfl⟩, rfl⟩; refine ⟨rfl, rfl, ?_⟩) | (apply gcallpp rfl (by first | assumption | with_reducible rfl) monoR rfl (by rfl) k80; rintro _ _ ⟨⟨_, rfl⟩, rfl⟩; refine ⟨rfl, rfl, ?_⟩) | (refine gcallS1 rfl monoR rfl (by rfl) k80 (fun _ => ?_) (fun _ => ?_); rintro _ _ ⟨⟨_, rfl⟩, rfl⟩; refine ⟨rfl, rfl, ?_⟩) | (refine gcallS0 rfl monoR rfl (by rfl) k80 (fun _ => ?_) (fun _ => ?_); rintro _ _ ⟨⟨_, rfl⟩, rfl⟩; refine ⟨rfl, rfl, ?_⟩) | (apply aeqs rfl (by rfl) (by rfl); intro be hbe) | (apply gaeqs rfl (by first | assumption | with_reducible rfl) rfl (by rfl) (by rfl); intro be hbe) | refine gpassS1 rfl rfl rfl rfl rfl (fun _ => ?_) (fun _ => ?_) | refine gpassS0 rfl rfl rfl rfl rfl (fun _ => ?_) (fun _ => ?_) | refine psplitA rfl (fun _ => ?_) (fun _ => ?_) | refine acond rfl (fun _ => ?_) (fun _ => ?_))
        all_goals first
          | (exact hE _ ⟨_, rfl⟩)
          | (apply hO _ _ (by simp)
             repeat' (first | refine nat1 ?_ | (apply aeqs rfl (by rfl) (by rfl); intro be hbe) | (apply gaeqs rfl (by first | assumption | with_reducible rfl) rfl (by rfl) (by rfl); intro be hbe) | refine gpassS1 rfl rfl rfl rfl rfl (fun _ => ?_) (fun _ => ?_) | refine gpassS0 rfl rfl rfl rfl rfl (fun _ => ?_) (fun _ => ?_) | refine psplitA rfl (fun _ => ?_) (fun _ => ?_) | refine acond rfl (fun _ => ?_) (fun _ => ?_))
             apply qf rfl (by rfl) aheap_le; exact ⟨⟨_, rfl⟩, rfl⟩)
          | (exfalso; simp_all; done)
    rintro s2 ⟨b2, rfl⟩
    refine naw ?_
    refine aloop (fun q2 s => ∃ j : Nat, q2 + j = k ∧ s = ⟨Env.of [(0, some (.sl 25 cs t)), (3, some (.int .i64 k)), (4, some (.sl 9 (a.picks.map Pick.enc) ta)), (5, some (.int .i64 j))], Loc.of [], h⟩) k ⟨0, by simp, rfl⟩ ?_
    rintro q2 s3 ⟨j, hq2, rfl⟩
    refine naw ?_
    refine acond rfl (fun hc2 => ?_) (fun hc2 => ?_)
    · have hj : j < k := by have := of_decide_eq_true hc2; omega
      obtain ⟨aj, taj, hxj, hsj1, hsj2⟩ := hget j (by omega)
      unfold evc at hxj
      have k81 := c81 (h := h) (ps := a.picks) (bs := aj.picks) (t := ta) (t' := taj) hsm2 hsj2
      repeat' (first | refine nat1 ?_ | (apply acallpp monoR rfl (by rfl) k81; rintro _ _ ⟨⟨_, rfl⟩, rfl⟩; refine ⟨rfl, rfl, ?_⟩) | (apply gcallpp rfl (by first | assumption | with_reducible rfl) monoR rfl (by rfl) k81; rintro _ _ ⟨⟨_, rfl⟩, rfl⟩; refine ⟨rfl, rfl, ?_⟩) | (refine gcallS1 rfl monoR rfl (by rfl) k81 (fun _ => ?_) (fun _ => ?_); rintro _ _ ⟨⟨_, rfl⟩, rfl⟩; refine ⟨rfl, rfl, ?_⟩) | (refine gcallS0 rfl monoR rfl (by rfl) k81 (fun _ => ?_) (fun _ => ?_); rintro _ _ ⟨⟨_, rfl⟩, rfl⟩; refine ⟨rfl, rfl, ?_⟩) | (apply aeqs rfl (by rfl) (by rfl); intro be hbe) | (apply gaeqs rfl (by first | assumption | with_reducible rfl) rfl (by rfl) (by rfl); intro be hbe) | refine gpassS1 rfl rfl rfl rfl rfl (fun _ => ?_) (fun _ => ?_) | refine gpassS0 rfl rfl rfl rfl rfl (fun _ => ?_) (fun _ => ?_) | refine psplitA rfl (fun _ => ?_) (fun _ => ?_) | refine acond rfl (fun _ => ?_) (fun _ => ?_))
      all_goals first
        | exact ql_n (q2 - 1) (by omega) ⟨j + 1, by omega, rfl⟩
        | (apply qf rfl (by rfl) aheap_le; exact ⟨⟨_, rfl⟩, rfl⟩)
    · refine naw ?_
      exact ql_n (q - 1) (by omega) ⟨k + 1, by omega, rfl⟩
  · repeat' (first | refine nat1 ?_ | (apply aeqs rfl (by rfl) (by rfl); intro be hbe) | (apply gaeqs rfl (by first | assumption | with_reducible rfl) rfl (by rfl) (by rfl); intro be hbe) | refine gpassS1 rfl rfl rfl rfl rfl (fun _ => ?_) (fun _ => ?_) | refine gpassS0 rfl rfl rfl rfl rfl (fun _ => ?_) (fun _ => ?_) | refine psplitA rfl (fun _ => ?_) (fun _ => ?_) | refine acond rfl (fun _ => ?_) (fun _ => ?_))
    apply qf rfl (by rfl) aheap_le
    exact ⟨⟨_, rfl⟩, rfl⟩
end Go.Proofs.Ytkdphdcpofcnjaa

/- K15: contracts of seat 36: the reference's Follow. -/
namespace Go.Proofs.Ytkdphdcpofcnjaa
open Go Abs
set_option linter.unusedSimpArgs false
set_option linter.unusedVariables false
set_option maxHeartbeats 2000000
attribute [local irreducible] Go.IntKind.wrap

/-- Numbers under way in a mutable array. -/
def ArrI (h : AHeap) (ks : List Int) (pv : AV) (H : AHeap) : Prop :=
  (ks = [] ∧ pv = .nils ∧ H = h) ∨ ∃ (l2 c : Nat) (rest : List (List AV)), pv = .hm l2 1 0 ks.length c ∧ ks ≠ [] ∧ c = ks.length + rest.length ∧ h.os l2 = none ∧ H = h.set l2 (some (.arr 1 (ints ks ++ rest)))
theorem ArrI.names {h : AHeap} {ks : List Int} {pv : AV} {H : AHeap} (a : ArrI h ks pv H) : pv.names = none := by
  rcases a with ⟨_, rfl, _⟩ | ⟨l2, c, xs, rfl, _⟩ <;> rfl

theorem c41m {h : AHeap} {ks : List Int} {pv : AV} {H : AHeap} {x : Int} (hA : ArrI h ks pv H) (hl : ks.length ≤ 1000) :
    ACalls PR 41 [pv, .int .i64 x] H fun v h' => v = .bool (decide (x ∈ ks)) ∧ H = h' := by
  rcases hA with ⟨rfl, rfl, rfl⟩ | ⟨l2, c, rest, rfl, hne, hc, hl2, rfl⟩
  · exact c41 (.inl ⟨rfl, rfl⟩) (by simp)
  refine fn_sound at41 ok41 (Nat.le_of_ble_eq_true rfl) (afn ?_)
  show AW _ C41 _ _
  unfold C41
  have ho : (h.set l2 (some (.arr 1 (ints ks ++ rest)))).os l2 = some (.arr 1 (ints ks ++ rest)) := AHeap.os_set _ _ _
  refine nav ?_
  refine aloop (fun q s => ∃ k : Nat, q + k = ks.length ∧ (∀ i (hi : i < ks.length), i < k → ks[i] ≠ x) ∧ s = ⟨Env.of [(0, some (.hm l2 1 0 ks.length c)), (1, some (.int .i64 x)), (5, some (.int .i64 k))], Loc.of [], h.set l2 (some (.arr 1 (ints ks ++ rest)))⟩) (ks.length) ⟨0, by simp, by simp, rfl⟩ ?_
  rintro q s' ⟨k, hq, hne, rfl⟩
  refine naw ?_
  refine acond rfl (fun hc => ?_) (fun hc => ?_)
  · have hlt : k < ks.length := by have := of_decide_eq_true hc; omega
    have he : (ints ks ++ rest)[0 + k]? = some [.int .i64 ks[k]] := by rw [Nat.zero_add, List.getElem?_append_left (by rw [ints_len]; exact hlt)]; exact ints_get hlt
    refine naw ?_
    refine acond rfl (fun hd => ?_) (fun hd => ?_)
    · refine naw ?_
      apply qf rfl (by rfl) aheap_le
      refine ⟨?_, rfl⟩
      have hm : x ∈ ks := by
        rw [← of_decide_eq_true hd]; exact List.getElem_mem hlt
      simp [resV, hm]
    · have hk1 : ks[k] ≠ x := of_decide_eq_false hd
      refine naw ?_
      refine ql_n (q - 1) (by omega) ⟨k + 1, by omega, fun i hi hik => ?_, rfl⟩
      rcases Nat.lt_or_ge i k with h1 | h1
      · exact hne i hi h1
      · have : i = k := by omega
        subst this; exact hk1
  · have hlt : ¬ k < ks.length := by have := of_decide_eq_false hc; omega
    refine naw ?_
    apply qf rfl (by rfl) aheap_le
    refine ⟨?_, rfl⟩
    have hm : x ∉ ks := fun hm => by
      obtain ⟨i, hi, e⟩ := List.getElem_of_mem hm
      exact hne i hi (by omega) e
    simp [resV, hm]

/-- What is known of what Follow answers. -/
structure FolOk (l : List Alert) (m : Nat) (ks : List Int) : Prop where
  rng : ∀ k ∈ ks, -1 ≤ k ∧ k < m
  wd : ∀ (i : Nat) (k : Int) (a : Alert), ks[i]? = some k → l[i]? = some a → 0 ≤ k → a.wd = false
  inj : ∀ (i j : Nat) (k : Int), ks[i]? = some k → ks[j]? = some k → 0 ≤ k → i = j

theorem FolOk.nil {l : List Alert} {m : Nat} : FolOk l m [] := ⟨by simp, by simp, by simp⟩
theorem FolOk.snoc {l : List Alert} {m : Nat} {ks : List Int} (f : FolOk l m ks) {k : Int} {a : Alert} (ha : l[ks.length]? = some a) (h1 : -1 ≤ k ∧ k < m) (h2 : 0 ≤ k → a.wd = false) (h3 : 0 ≤ k → k ∉ ks) : FolOk l m (ks ++ [k]) := by
  have key : ∀ (i : Nat) (k' : Int), (ks ++ [k])[i]? = some k' → ks[i]? = some k' ∨ (i = ks.length ∧ k' = k) := fun i k' h => by
    rcases Nat.lt_trichotomy i ks.length with hi | hi | hi
    · rw [List.getElem?_append_left hi] at h; exact .inl h
    · subst hi; rw [List.getElem?_append_right (Nat.le_refl _)] at h; simp at h; exact .inr ⟨rfl, h.symm⟩
    · rw [List.getElem?_eq_none (by simp; omega)] at h; cases h
  refine ⟨fun k' hk => ?_, fun i k' b hi hb h0 => ?_, fun i j k' hi hj h0 => ?_⟩
  · rcases List.mem_append.1 hk with hk | hk
    · exact f.rng _ hk
    · simp at hk; subst hk; exact h1
  · rcases key i k' hi with hi | ⟨rfl, rfl⟩
    · exact f.wd i k' b hi hb h0
    · rw [ha] at hb; cases hb; exact h2 h0
  · rcases key i k' hi with ei | ⟨ei, ek⟩ <;> rcases key j k' hj with ej | ⟨ej, ek'⟩
    · exact f.inj i j k' ei ej h0
    · rw [ek'] at ei h0; exact absurd (List.mem_of_getElem? ei) (h3 h0)
    · rw [ek] at ej h0; exact absurd (List.mem_of_getElem? ej) (h3 h0)
    · rw [ei, ej]
theorem FolOk.set {l : List Alert} {m : Nat} {ks : List Int} (f : FolOk l m ks) {i : Nat} {k : Int} {a : Alert} (hi : i < ks.length) (ha : l[i]? = some a) (h1 : 0 ≤ k ∧ k < m) (h2 : a.wd = false) (h3 : k ∉ ks) : FolOk l m (ks.set i k) := by
  have key : ∀ (j : Nat) (k' : Int), (ks.set i k)[j]? = some k' → (j ≠ i ∧ ks[j]? = some k') ∨ (j = i ∧ k' = k) := fun j k' h => by
    by_cases e : j = i
    · subst e; rw [List.getElem?_set_self hi] at h; simp at h; exact .inr ⟨rfl, h.symm⟩
    · rw [List.getElem?_set_ne (by omega)] at h; exact .inl ⟨e, h⟩
  refine ⟨fun k' hk => ?_, fun j k' b hj hb h0 => ?_, fun j j' k' hj hj' h0 => ?_⟩
  · obtain ⟨j, hj⟩ := List.getElem?_of_mem hk
    rcases key j k' hj with ⟨_, hj⟩ | ⟨_, rfl⟩
    · exact f.rng _ (List.mem_of_getElem? hj)
    · exact ⟨by omega, h1.2⟩
  · rcases key j k' hj with ⟨_, hj⟩ | ⟨rfl, rfl⟩
    · exact f.wd j k' b hj hb h0
    · rw [ha] at hb; cases hb; exact h2
  · rcases key j k' hj with ⟨_, ej⟩ | ⟨ej, ek⟩ <;> rcases key j' k' hj' with ⟨_, ej'⟩ | ⟨ej', ek'⟩
    · exact f.inj j j' k' ej ej' h0
    · rw [ek'] at ej; exact absurd (List.mem_of_getElem? ej) h3
    · rw [ek] at ej'; exact absurd (List.mem_of_getElem? ej') h3
    · rw [ej, ej']
end Go.Proofs.Ytkdphdcpofcnjaa

/- K16: contracts of seat 36: the reference's Follow, walked. -/
namespace Go.Proofs.Ytkdphdcpofcnjaa
open Go Abs
set_option linter.unusedSimpArgs false
set_option linter.unusedVariables false
set_option maxHeartbeats 2000000
attribute [local irreducible] Go.IntKind.wrap

theorem IsSl.sl {α : Type} {s : Nat} {P : List AV → α → Prop} {v : AV} {l : List α} (hv : IsSl s P v l) {k : Nat} (hk : k < l.length) : ∃ cs t, v = .sl s cs t ∧ All2 P cs l := by
  rcases hv with ⟨rfl, rfl⟩ | ⟨cs, t, rfl, h⟩
  · simp at hk
  · exact ⟨cs, t, rfl, h⟩

theorem env_nil_none {k : Nat} : Env.nil.set k none = Env.nil := by funext j; simp [Env.set, Env.nil]
theorem c38 {h : AHeap} {v w : AV} {l : List Alert} {es : List Event} (hv : IsSl 38 IsAl v l) (hw : IsSl 25 IsEv w es) (hl : l.length ≤ 1000) (hes : es.length ≤ 1000) (hs : ∀ a ∈ l, a.small) (hse : ∀ e ∈ es, e.small) :
    ACalls PR 38 [v, w] h fun u h' => (∃ ks, IsSl 1 intc u ks ∧ FolOk l es.length ks ∧ ks.length = l.length) ∧ h = h' := by
  refine fn_sound at38 ok38 (Nat.le_of_ble_eq_true rfl) (afn ?_)
  show AW _ C38 _ _
  unfold C38
  have hN : v.names = none ∧ w.names = none := ⟨hv.names, hw.names⟩
  refine nav ?_
  refine aloop (fun q s => ∃ (ks : List Int) (pv : AV) (H : AHeap), q + ks.length = l.length ∧ FolOk l es.length ks ∧ ArrI h ks pv H ∧ s = ⟨Env.of [(0, some v), (1, some w), (5, some pv), (6, some (.int .i64 ks.length))], Loc.of [], H⟩) (l.length)
    ⟨[], .nils, h, by simp, .nil, .inl ⟨rfl, rfl, rfl⟩, rfl⟩ ?_
  rintro q s' ⟨ks, pv, H, hq, hF, hA, rfl⟩
  have hN : v.names = none ∧ w.names = none ∧ pv.names = none := ⟨hv.names, hw.names, hA.names⟩
  refine nav ?_
  apply alenS rfl hv
  refine nav ?_
  refine acond rfl (fun hc => ?_) (fun hc => ?_)
  · have hlt : ks.length < l.length := by have := of_decide_eq_true hc; omega
    have hla := List.getElem?_eq_getElem hlt
    obtain ⟨cs, t, c, rfl, hx, ta, hx2⟩ := hv.at hla
    have hxx : cs[ks.length]? = some (alc l[ks.length] ta) := by rw [hx, hx2]
    generalize l[ks.length] = a at *
    unfold alc at hxx
    apply askip
    apply qs_n
    apply aseq
    apply ablock
    apply aseq
    -- the number of the event of this name
    refine ajoin (fun s => s = ⟨Env.of [(0, some (.sl 38 cs t)), (1, some w), (5, some pv), (6, some (.int .i64 ks.length)), (7, some (.int .i64 (-1)))], Loc.of [], H⟩) (fun Q' hE hO => ?_) ?_
    · refine nav ?_
      exact hE _ rfl
    rintro _ rfl
    apply qs_n
    apply aseq
    refine ajoin (fun s => ∃ (k : Int) (x : Option AV), (-1 ≤ k ∧ k < es.length) ∧ (0 ≤ k → a.wd = false) ∧ s = ⟨Env.of [(0, some (.sl 38 cs t)), (1, some w), (5, some pv), (6, some (.int .i64 ks.length)), (7, some (.int .i64 k)), (21, x)], Loc.of [], H⟩) (fun Q' hE hO => ?_) ?_
    · refine naw ?_
      refine acond rfl (fun hd => ?_) (fun hd => ?_)
      · refine naw ?_
        apply acallpp monoR rfl (by simp [AV.plain, hN]; rfl) (c63 (nm := a.name) hw hes)
        rintro _ _ ⟨⟨k, rfl, hk0, hk1⟩, rfl⟩
        refine ⟨rfl, rfl, ?_⟩
        refine naw ?_
        exact hE _ ⟨k, none, ⟨hk0, hk1⟩, fun _ => by simpa using hd, by simp only [Env.of, env_nil_none]⟩
      · refine naw ?_
        exact hE _ ⟨-1, _, ⟨by omega, by omega⟩, fun h => by omega, rfl⟩
    rintro s2 ⟨k, x21, hk, hkw, rfl⟩
    apply qs_n
    apply aseq
    refine ajoin (fun s => ∃ k : Int, (-1 ≤ k ∧ k < es.length) ∧ (0 ≤ k → a.wd = false) ∧ (0 ≤ k → k ∉ ks) ∧ ∃ x, s = ⟨Env.of [(0, some (.sl 38 cs t)), (1, some w), (5, some pv), (6, some (.int .i64 ks.length)), (7, some (.int .i64 k)), (31, x)], Loc.of [], H⟩) (fun Q' hE hO => ?_) ?_
    · refine naw ?_
      apply acallpp monoR rfl (by simp [AV.plain, hN]; rfl) (c41m hA (by omega))
      rintro _ _ ⟨rfl, rfl⟩
      refine ⟨rfl, rfl, ?_⟩
      refine naw ?_
      refine acond rfl (fun hd => ?_) (fun hd => ?_)
      · refine naw ?_
        exact hE _ ⟨-1, ⟨by omega, by omega⟩, fun h => by omega, fun h => by omega, none, by simp only [Env.of, env_nil_none]⟩
      · refine naw ?_
        exact hE _ ⟨k, hk, hkw, fun _ => of_decide_eq_false hd, _, rfl⟩
    rintro s3 ⟨k, hk, hkw, hkn, x31, rfl⟩
    have hF' := hF.snoc hla hk hkw hkn
    apply qs_n
    rcases hA with ⟨rfl, rfl, rfl⟩ | ⟨l2, c, rest, rfl, hne, hc2, hl2, rfl⟩
    · refine naw ?_
      apply aappm0 rfl (.inl rfl) (by simp) (by simp)
      intro l2 c hl2 hc2
      refine naw ?_
      refine ql_n (q - 1) (by omega) ⟨[k], _, _, by simp at hq ⊢; omega, hF', .inr ⟨l2, c, List.replicate (c - 1) _, rfl, by simp, ?_, hl2, rfl⟩, rfl⟩
      have hc2' : 1 ≤ c := hc2
      simp only [List.length_replicate, List.length_cons, List.length_nil]; omega
    · have htk : (ints ks ++ rest).take ks.length = ints ks := by rw [List.take_left' (ints_len ks)]
      have hsn : ints ks ++ [[AV.int .i64 k]] = ints (ks ++ [k]) := by simp [ints]
      refine naw ?_
      apply aappm1 (xs := ints ks ++ rest) rfl (AHeap.os_set _ _ _) (by omega) (by simp [ints_len]; omega) (by simp) (by simp; omega)
      · intro hroom
        rw [htk, hsn, set_set]
        have hroom' : ks.length + 1 ≤ c := hroom
        refine naw ?_
        refine ql_n (q - 1) (by omega) ⟨ks ++ [k], .hm l2 1 0 (ks.length + 1) c, h.set l2 (some (.arr 1 (ints (ks ++ [k]) ++ (ints ks ++ rest).drop (ks.length + 1)))), by simp; omega, hF', .inr ⟨l2, c, (ints ks ++ rest).drop (ks.length + 1), by simp, by simp, ?_, hl2, rfl⟩, by simp⟩
        simp [ints_len]; omega
      · intro hroom l3 c3 hl3 hc3
        have hl32 : l3 ≠ l2 := by rintro rfl; rw [AHeap.os_set] at hl3; cases hl3
        have hl3' : h.os l3 = none := by rw [os_ne _ _ hl32] at hl3; exact hl3
        rw [htk, hsn, set_set, set_none _ hl2]
        have hc3' : ks.length + 1 ≤ c3 := hc3
        refine naw ?_
        refine ql_n (q - 1) (by omega) ⟨ks ++ [k], .hm l3 1 0 (ks.length + 1) c3, h.set l3 (some (.arr 1 (ints (ks ++ [k]) ++ List.replicate (c3 - (ks.length + 1)) [.int .i64 0]))), by simp; omega, hF', .inr ⟨l3, c3, List.replicate (c3 - (ks.length + 1)) [.int .i64 0], by simp, by simp, ?_, hl3', rfl⟩, by simp⟩
        simp; omega
  · have hll : ks.length = l.length := by have := of_decide_eq_false hc; omega
    refine naw ?_
    refine aloop (fun q s => ∃ (i : Nat) (ks : List Int) (H : AHeap), q + i = l.length ∧ ks.length = l.length ∧ FolOk l es.length ks ∧ ArrI h ks pv H ∧ s = ⟨Env.of [(0, some v), (1, some w), (5, some pv), (8, some (.int .i64 i))], Loc.of [], H⟩) (l.length)
      ⟨0, ks, H, by omega, hll, hF, hA, rfl⟩ ?_
    clear hF hA hll hc hq
    rintro q2 s2 ⟨i, ks, H, hq2, hll, hF, hA, rfl⟩
    refine naw ?_
    apply alenS rfl hv
    refine naw ?_
    refine acond rfl (fun hc => ?_) (fun hc => ?_)
    · have hlt : i < l.length := by have := of_decide_eq_true hc; omega
      have hla := List.getElem?_eq_getElem hlt
      have hsm := hs _ (List.getElem_mem hlt)
      obtain ⟨cs, t, c, rfl, hx, ta, hx2⟩ := hv.at hla
      have hxx : cs[i]? = some (alc l[i] ta) := by rw [hx, hx2]
      generalize l[i] = a at *
      unfold alc at hxx
      refine naw ?_
      refine aloopE (fun q3 s => ∃ (j : Nat) (ks : List Int) (H : AHeap), q3 + j = es.length ∧ ks.length = l.length ∧ FolOk l es.length ks ∧ ArrI h ks pv H ∧ s = ⟨Env.of [(0, some (.sl 38 cs t)), (1, some w), (5, some pv), (8, some (.int .i64 i)), (9, some (.int .i64 j))], Loc.of [], H⟩) es.length
        (fun s => ∃ (j : Nat) (ks : List Int) (H : AHeap) (b : Bool), ks.length = l.length ∧ FolOk l es.length ks ∧ ArrI h ks pv H ∧ s = ⟨Env.of [(0, some (.sl 38 cs t)), (1, some w), (5, some pv), (8, some (.int .i64 i)), (9, some (.int .i64 j)), (60, some (.bool b))], Loc.of [], H⟩) 4
        ⟨0, ks, H, by omega, hll, hF, hA, rfl⟩ (fun Q' hE _ => ?_) ?_
      · clear hF hA hll hq2
        rintro q3 s3 ⟨j, ks, H, hq3, hll, hF, hA, rfl⟩
        have hA0 := hA
        rcases hA with ⟨rfl, _⟩ | ⟨l2, c2, rest, rfl, hne, hc2, hl2, rfl⟩
        · simp at hll; omega
        have hik : i < ks.length := by omega
        have ho : (h.set l2 (some (.arr 1 (ints ks ++ rest)))).os l2 = some (.arr 1 (ints ks ++ rest)) := AHeap.os_set _ _ _
        have hki : (ints ks ++ rest)[0 + i]? = some [.int .i64 ks[i]] := by rw [Nat.zero_add, List.getElem?_append_left (by rw [ints_len]; exact hik)]; exact ints_get hik
        refine naw ?_
        apply alenS rfl hw
        repeat' (first | refine nat1 ?_ | (apply aeqs rfl (by rfl) (by rfl); intro be hbe) | (apply gaeqs rfl (by first | assumption | with_reducible rfl) rfl (by rfl) (by rfl); intro be hbe) | refine gpassS1 rfl rfl rfl rfl rfl (fun _ => ?_) (fun _ => ?_) | refine gpassS0 rfl rfl rfl rfl rfl (fun _ => ?_) (fun _ => ?_) | refine psplitA rfl (fun _ => ?_) (fun _ => ?_) | refine acond rfl (fun _ => ?_) (fun _ => ?_))
        · apply gaixmR rfl (by assumption) rfl rfl hik
          repeat' (first | refine nat1 ?_ | (apply aeqs rfl (by rfl) (by rfl); intro be hbe) | (apply gaeqs rfl (by first | assumption | with_reducible rfl) rfl (by rfl) (by rfl); intro be hbe) | refine gpassS1 rfl rfl rfl rfl rfl (fun _ => ?_) (fun _ => ?_) | refine gpassS0 rfl rfl rfl rfl rfl (fun _ => ?_) (fun _ => ?_) | refine psplitA rfl (fun _ => ?_) (fun _ => ?_) | refine acond rfl (fun _ => ?_) (fun _ => ?_))
          try apply galdh rfl (by assumption) rfl ho hki rfl
          repeat' (first | refine nat1 ?_ | (apply aeqs rfl (by rfl) (by rfl); intro be hbe) | (apply gaeqs rfl (by first | assumption | with_reducible rfl) rfl (by rfl) (by rfl); intro be hbe) | refine gpassS1 rfl rfl rfl rfl rfl (fun _ => ?_) (fun _ => ?_) | refine gpassS0 rfl rfl rfl rfl rfl (fun _ => ?_) (fun _ => ?_) | refine psplitA rfl (fun _ => ?_) (fun _ => ?_) | refine acond rfl (fun _ => ?_) (fun _ => ?_))
          · have hj : j < es.length := by
              have : decide ((j : Int) < (es.length : Int)) = true := by assumption
              have := of_decide_eq_true this
              omega
            have hwd : a.wd = false := by
              have : (!a.wd) = true := by assumption
              simpa using this
            apply acallpp monoR rfl (by rfl) (c41m hA0 (by omega))
            rintro _ _ ⟨rfl, rfl⟩
            refine ⟨rfl, rfl, ?_⟩
            by_cases hmem : (j : Int) ∈ ks
            · rw [decide_eq_true hmem]
              repeat' (first | refine nat1 ?_ | (apply aeqs rfl (by rfl) (by rfl); intro be hbe) | (apply gaeqs rfl (by first | assumption | with_reducible rfl) rfl (by rfl) (by rfl); intro be hbe) | refine gpassS1 rfl rfl rfl rfl rfl (fun _ => ?_) (fun _ => ?_) | refine gpassS0 rfl rfl rfl rfl rfl (fun _ => ?_) (fun _ => ?_) | refine psplitA rfl (fun _ => ?_) (fun _ => ?_) | refine acond rfl (fun _ => ?_) (fun _ => ?_))
              all_goals first
                | exact ql_n (q3 - 1) (by omega) ⟨j + 1, ks, _, by omega, hll, hF, hA0, rfl⟩
                | (exfalso; simp_all; done)
            · rw [decide_eq_false hmem]
              have htt : (!false) = true := rfl
              refine naw ?_
              apply gaixS rfl htt rfl rfl hw (List.getElem?_eq_getElem hj)
              rintro _ ⟨te, (rfl : _ = evc _ te)⟩
              have hse' := hse _ (List.getElem_mem hj)
              unfold evc
              have k64 := c64 (h := h.set l2 (some (.arr 1 (ints ks ++ rest)))) (ps := a.ev.picks) (bs := es[j].picks) (t := ta) (t' := te) hsm hse'.2
              repeat' (first | refine nat1 ?_ | (apply acallpp monoR rfl (by rfl) k64; rintro _ _ ⟨⟨_, rfl⟩, rfl⟩; refine ⟨rfl, rfl, ?_⟩) | (apply gcallpp rfl (by first | assumption | with_reducible rfl) monoR rfl (by rfl) k64; rintro _ _ ⟨⟨_, rfl⟩, rfl⟩; refine ⟨rfl, rfl, ?_⟩) | (refine gcallS1 rfl monoR rfl (by rfl) k64 (fun _ => ?_) (fun _ => ?_); rintro _ _ ⟨⟨_, rfl⟩, rfl⟩; refine ⟨rfl, rfl, ?_⟩) | (refine gcallS0 rfl monoR rfl (by rfl) k64 (fun _ => ?_) (fun _ => ?_); rintro _ _ ⟨⟨_, rfl⟩, rfl⟩; refine ⟨rfl, rfl, ?_⟩) | (apply aeqs rfl (by rfl) (by rfl); intro be hbe) | (apply gaeqs rfl (by first | assumption | with_reducible rfl) rfl (by rfl) (by rfl); intro be hbe) | refine gpassS1 rfl rfl rfl rfl rfl (fun _ => ?_) (fun _ => ?_) | refine gpassS0 rfl rfl rfl rfl rfl (fun _ => ?_) (fun _ => ?_) | refine psplitA rfl (fun _ => ?_) (fun _ => ?_) | refine acond rfl (fun _ => ?_) (fun _ => ?_))
              · apply asthE rfl (by rfl) (by rfl) ho hki (by simp)
                rw [set_set]
                repeat' (first | refine nat1 ?_ | (apply aeqs rfl (by rfl) (by rfl); intro be hbe) | (apply gaeqs rfl (by first | assumption | with_reducible rfl) rfl (by rfl) (by rfl); intro be hbe) | refine gpassS1 rfl rfl rfl rfl rfl (fun _ => ?_) (fun _ => ?_) | refine gpassS0 rfl rfl rfl rfl rfl (fun _ => ?_) (fun _ => ?_) | refine psplitA rfl (fun _ => ?_) (fun _ => ?_) | refine acond rfl (fun _ => ?_) (fun _ => ?_))
                have hset : (ints ks ++ rest).set (0 + i) [AV.int .i64 j] = ints (ks.set i j) ++ rest := by
                  rw [Nat.zero_add, List.set_append_left _ _ (by rw [ints_len]; exact hik)]
                  simp [ints, List.map_set]
                refine ql_n (q3 - 1) (by omega) ⟨j + 1, ks.set i j, _, by omega, by rw [List.length_set]; exact hll, hF.set hik hla ⟨by omega, by omega⟩ hwd hmem, .inr ⟨l2, c2, rest, by rw [List.length_set], by simpa using hne, by rw [List.length_set]; exact hc2, hl2, rfl⟩, ?_⟩
                rw [← hset]
                rfl
              · exact ql_n (q3 - 1) (by omega) ⟨j + 1, ks, _, by omega, hll, hF, hA0, rfl⟩
          all_goals first
            | (exact hE _ ⟨j, ks, _, _, hll, hF, hA0, rfl⟩)
            | (exfalso; simp_all; done)
        all_goals first
          | (exact hE _ ⟨j, ks, _, _, hll, hF, hA0, rfl⟩)
          | (exfalso; simp_all; done)
      · rintro s4 ⟨j, ks, H, b, hll, hF, hA, rfl⟩
        refine naw ?_
        exact ql_n (q2 - 1) (by omega) ⟨i + 1, ks, H, by omega, hll, hF, hA, rfl⟩
    · refine naw ?_
      rcases hA with ⟨rfl, rfl, rfl⟩ | ⟨l2, c2, rest, rfl, hne, hc2, hl2, rfl⟩
      · apply afrz0 rfl rfl
        refine naw ?_
        apply qf rfl (by rfl) aheap_le
        exact ⟨⟨[], .inl ⟨rfl, rfl⟩, hF, hll⟩, rfl⟩
      · apply afrzh rfl (AHeap.os_set _ _ _) (by simp [ints_len])
        refine naw ?_
        apply qf rfl (by rfl) aheap_le
        refine ⟨⟨ks, .inr ⟨_, _, rfl, ?_⟩, hF, hll⟩, by rw [set_set, set_none _ hl2]⟩
        rw [List.drop_zero, List.take_left' (ints_len ks)]
        exact All2.ofMap _ fun _ _ => rfl
end Go.Proofs.Ytkdphdcpofcnjaa

/- K17: contracts of seat 36: the reference's Errors. -/
namespace Go.Proofs.Ytkdphdcpofcnjaa
open Go Abs
set_option linter.unusedSimpArgs false
set_option linter.unusedVariables false
set_option maxHeartbeats 2000000
attribute [local irreducible] Go.IntKind.wrap

/-- Several roads through a region, for one thing. -/
theorem ojoin {C : Con} {ins : List AIns} {s : ASt} {keep lk : List Nat} {F : ASt → Prop} (E : ASt → Prop) (h : ∀ F' : ASt → Prop, (∀ s', E s' → F' s') → AO C ins s (RK keep lk F')) (hE : ∀ s', E s' → F s') : AO C ins s (RK keep lk F) := h F hE

theorem c37 {h : AHeap} {p : Policy} {t : Tag} {v w : AV} {l : List Alert} {es : List Event} {number now : Int} (hp : p.rules.length ≤ 100) (hv : IsSl 38 IsAl v l) (hw : IsSl 25 IsEv w es) (hl : l.length ≤ 1000) (hes : es.length ≤ 1000) (hse : ∀ e ∈ es, e.small) :
    ACalls PR 37 [.agg (polc p t), v, .int .i64 number, w, .int .i64 now] h (SomeI h) := by
  refine fn_sound at37 ok37 (Nat.le_of_ble_eq_true rfl) (afn ?_)
  show AW _ C37 _ _
  unfold C37
  unfold polc
  have k60 := c60 (h := h) (p := p) (t := t) hp
  have k61 := c61 (h := h) hv hl
  have hN : v.names = none ∧ w.names = none := ⟨hv.names, hw.names⟩
  repeat' (first | refine nat1 ?_ | (apply acallpp monoR rfl (by rfl) k60; rintro _ _ ⟨⟨_, rfl⟩, rfl⟩; refine ⟨rfl, rfl, ?_⟩) | (apply gcallpp rfl (by first | assumption | with_reducible rfl) monoR rfl (by rfl) k60; rintro _ _ ⟨⟨_, rfl⟩, rfl⟩; refine ⟨rfl, rfl, ?_⟩) | (refine gcallS1 rfl monoR rfl (by rfl) k60 (fun _ => ?_) (fun _ => ?_); rintro _ _ ⟨⟨_, rfl⟩, rfl⟩; refine ⟨rfl, rfl, ?_⟩) | (refine gcallS0 rfl monoR rfl (by rfl) k60 (fun _ => ?_) (fun _ => ?_); rintro _ _ ⟨⟨_, rfl⟩, rfl⟩; refine ⟨rfl, rfl, ?_⟩) | (apply aeqs rfl (by rfl) (by rfl); intro be hbe) | (apply gaeqs rfl (by first | assumption | with_reducible rfl) rfl (by rfl) (by rfl); intro be hbe) | refine gpassS1 rfl rfl rfl rfl rfl (fun _ => ?_) (fun _ => ?_) | refine gpassS0 rfl rfl rfl rfl rfl (fun _ => ?_) (fun _ => ?_) | refine psplitA rfl (fun _ => ?_) (fun _ => ?_) | refine acond rfl (fun _ => ?_) (fun _ => ?_))
  · apply qf rfl (by rfl) aheap_le; exact ⟨⟨_, rfl⟩, rfl⟩
  apply acallpp monoR rfl (by simp [AV.plain, hN]) k61
  rintro _ _ ⟨⟨b1, rfl⟩, rfl⟩
  refine ⟨rfl, rfl, ?_⟩
  refine ojoin (fun s => ∃ b, s = ⟨Env.of [(1, some v), (4, some (.int .i64 now)), (42, some (.bool b))], Loc.of [], h⟩) (fun F' hE => ?_) ?_
  · have hcase : ∀ b : Bool, b = true ∨ b = false := fun b => by cases b <;> simp
    cases b1
    · repeat' (first | refine nat1 ?_ | (apply aeqs rfl (by rfl) (by rfl); intro be hbe) | (apply gaeqs rfl (by first | assumption | with_reducible rfl) rfl (by rfl) (by rfl); intro be hbe) | refine gpassS1 rfl rfl rfl rfl rfl (fun _ => ?_) (fun _ => ?_) | refine gpassS0 rfl rfl rfl rfl rfl (fun _ => ?_) (fun _ => ?_) | refine psplitA rfl (fun _ => ?_) (fun _ => ?_) | refine acond rfl (fun _ => ?_) (fun _ => ?_))
      all_goals first
        | (exact hE _ ⟨_, rfl⟩)
        | (exfalso; simp_all; done)
    · have hff : (!true) = false := rfl
      refine nav ?_
      apply gcallp' rfl hff monoR rfl (by simp [AV.plain, hN]) (c62 hw hes hse)
      rintro _ ⟨b2, rfl⟩
      refine ⟨rfl, ?_⟩
      cases b2
      · repeat' (first | refine nat1 ?_ | (apply aeqs rfl (by rfl) (by rfl); intro be hbe) | (apply gaeqs rfl (by first | assumption | with_reducible rfl) rfl (by rfl) (by rfl); intro be hbe) | refine gpassS1 rfl rfl rfl rfl rfl (fun _ => ?_) (fun _ => ?_) | refine gpassS0 rfl rfl rfl rfl rfl (fun _ => ?_) (fun _ => ?_) | refine psplitA rfl (fun _ => ?_) (fun _ => ?_) | refine acond rfl (fun _ => ?_) (fun _ => ?_))
        all_goals first
          | (exact hE _ ⟨_, rfl⟩)
          | (exfalso; simp_all; done)
      · rcases hv with ⟨rfl, rfl⟩ | ⟨cs, t', rfl, hcs⟩
        · repeat' (first | refine nat1 ?_ | (apply aeqs rfl (by rfl) (by rfl); intro be hbe) | (apply gaeqs rfl (by first | assumption | with_reducible rfl) rfl (by rfl) (by rfl); intro be hbe) | refine gpassS1 rfl rfl rfl rfl rfl (fun _ => ?_) (fun _ => ?_) | refine gpassS0 rfl rfl rfl rfl rfl (fun _ => ?_) (fun _ => ?_) | refine psplitA rfl (fun _ => ?_) (fun _ => ?_) | refine acond rfl (fun _ => ?_) (fun _ => ?_))
          all_goals first
            | (exact hE _ ⟨_, rfl⟩)
            | (exfalso; simp_all; done)
        · obtain ⟨a, ta, hlast⟩ : ∃ a ta, 0 < cs.length → cs[((cs.length : Int) - 1).toNat]? = some (alc a ta) := by
            by_cases h0 : 0 < cs.length
            · obtain ⟨x, y, h1, h2, ta, h3⟩ := hcs.get' (k := cs.length - 1) (by omega)
              exact ⟨y, ta, fun _ => by rw [show ((cs.length : Int) - 1).toNat = cs.length - 1 by omega, h1, h3]⟩
            · exact ⟨⟨0, false, ⟨⟨#[]⟩, ⟨#[]⟩, ⟨#[]⟩, ⟨#[]⟩, 0, 0, 0, 0, 0⟩, 0, ⟨⟨⟨#[]⟩, ⟨#[]⟩, ⟨#[]⟩, ⟨#[]⟩, 0, 0, 0, 0, 0⟩, [], ⟨0, 0, 0, 0, 0, 0, 0, 0⟩⟩, 0⟩, .no, fun h => absurd h h0⟩
          unfold alc at hlast
          have hcl : cs.length ≤ 1000 := by rw [hcs.len]; exact hl
          rcases Nat.eq_zero_or_pos cs.length with h0 | h0
          · have hdd : decide ((cs.length : Int) > 0) = false := by rw [h0]; rfl
            repeat' (first | refine nat1 ?_ | (apply aeqs rfl (by rfl) (by rfl); intro be hbe) | (apply gaeqs rfl (by first | assumption | with_reducible rfl) rfl (by rfl) (by rfl); intro be hbe) | refine gpassS1 rfl rfl rfl rfl rfl (fun _ => ?_) (fun _ => ?_) | refine gpassS0 rfl rfl rfl rfl rfl (fun _ => ?_) (fun _ => ?_) | refine psplitA rfl (fun _ => ?_) (fun _ => ?_) | refine acond rfl (fun _ => ?_) (fun _ => ?_))
            all_goals first
              | (exact hE _ ⟨_, rfl⟩)
              | (exfalso; simp_all; done)
          · have hl2 := hlast h0
            repeat' (first | refine nat1 ?_ | (apply aeqs rfl (by rfl) (by rfl); intro be hbe) | (apply gaeqs rfl (by first | assumption | with_reducible rfl) rfl (by rfl) (by rfl); intro be hbe) | refine gpassS1 rfl rfl rfl rfl rfl (fun _ => ?_) (fun _ => ?_) | refine gpassS0 rfl rfl rfl rfl rfl (fun _ => ?_) (fun _ => ?_) | refine psplitA rfl (fun _ => ?_) (fun _ => ?_) | refine acond rfl (fun _ => ?_) (fun _ => ?_))
            all_goals first
              | (exact hE _ ⟨_, rfl⟩)
              | (exfalso; simp_all; done)
  rintro s2 ⟨b, rfl⟩
  repeat' (first | refine nat1 ?_ | (apply aeqs rfl (by rfl) (by rfl); intro be hbe) | (apply gaeqs rfl (by first | assumption | with_reducible rfl) rfl (by rfl) (by rfl); intro be hbe) | refine gpassS1 rfl rfl rfl rfl rfl (fun _ => ?_) (fun _ => ?_) | refine gpassS0 rfl rfl rfl rfl rfl (fun _ => ?_) (fun _ => ?_) | refine psplitA rfl (fun _ => ?_) (fun _ => ?_) | refine acond rfl (fun _ => ?_) (fun _ => ?_))
  all_goals try (apply qf rfl (by rfl) aheap_le; exact ⟨⟨_, rfl⟩, rfl⟩)
  all_goals (
    refine aloop (fun q s => ∃ k : Nat, q + k = l.length ∧ s = ⟨Env.of [(1, some v), (4, some (.int .i64 now)), (11, some (.int .i64 k))], Loc.of [], h⟩) (l.length) ⟨0, by simp, rfl⟩ ?_
    rintro q s' ⟨k, hq, rfl⟩
    refine nav ?_
    apply alenS rfl hv
    refine nav ?_
    refine acond rfl (fun hc => ?_) (fun hc => ?_)
    · have hlt : k < l.length := by have := of_decide_eq_true hc; omega
      obtain ⟨cs, t, c, rfl, hx, ta, hx2⟩ := hv.at (List.getElem?_eq_getElem hlt)
      have hxx : cs[k]? = some (alc l[k] ta) := by rw [hx, hx2]
      unfold alc at hxx
      repeat' (first | refine nat1 ?_ | (apply aeqs rfl (by rfl) (by rfl); intro be hbe) | (apply gaeqs rfl (by first | assumption | with_reducible rfl) rfl (by rfl) (by rfl); intro be hbe) | refine gpassS1 rfl rfl rfl rfl rfl (fun _ => ?_) (fun _ => ?_) | refine gpassS0 rfl rfl rfl rfl rfl (fun _ => ?_) (fun _ => ?_) | refine psplitA rfl (fun _ => ?_) (fun _ => ?_) | refine acond rfl (fun _ => ?_) (fun _ => ?_))
      all_goals first
        | exact ql_n (q - 1) (by omega) ⟨k + 1, by omega, rfl⟩
        | (apply qf rfl (by rfl) aheap_le; exact ⟨⟨_, rfl⟩, rfl⟩)
    · repeat' (first | refine nat1 ?_ | (apply aeqs rfl (by rfl) (by rfl); intro be hbe) | (apply gaeqs rfl (by first | assumption | with_reducible rfl) rfl (by rfl) (by rfl); intro be hbe) | refine gpassS1 rfl rfl rfl rfl rfl (fun _ => ?_) (fun _ => ?_) | refine gpassS0 rfl rfl rfl rfl rfl (fun _ => ?_) (fun _ => ?_) | refine psplitA rfl (fun _ => ?_) (fun _ => ?_) | refine acond rfl (fun _ => ?_) (fun _ => ?_))
      apply qf rfl (by rfl) aheap_le
      exact ⟨⟨_, rfl⟩, rfl⟩)
end Go.Proofs.Ytkdphdcpofcnjaa

/- K18: seat 36: two slices that grow side by side; what is kept by a step. -/
namespace Go.Proofs.Ytkdphdcpofcnjaa
open Go Abs
set_option linter.unusedSimpArgs false
set_option linter.unusedVariables false
set_option maxHeartbeats 2000000

/-- A slice under way, by its token. -/
def GrowT {α : Type} (s : Nat) (P : List AV → α → Prop) (v : AV) (l : List α) (o : Option Nat) : Prop :=
  (v = .nils ∧ l = [] ∧ o = none) ∨ ∃ cs t, v = .sl s cs (.tok t) ∧ o = some t ∧ All2 P cs l
structure Two {α β : Type} (s1 s2 : Nat) (P1 : List AV → α → Prop) (P2 : List AV → β → Prop) (h : AHeap) (al : List Nat) (v1 : AV) (l1 : List α) (v2 : AV) (l2 : List β) : Prop where
  ex : ∃ ts o1 o2, al = ts ++ h.al ∧ GrowT s1 P1 v1 l1 o1 ∧ GrowT s2 P2 v2 l2 o2 ∧ (∀ t, o1 = some t → t ∈ ts) ∧ (∀ t, o2 = some t → t ∈ ts) ∧ (∀ t, o1 = some t → o2 ≠ some t)
section
variable {α β : Type} {s1 s2 : Nat} {P1 : List AV → α → Prop} {P2 : List AV → β → Prop}
theorem GrowT.names {v : AV} {l : List α} {o : Option Nat} (g : GrowT s1 P1 v l o) : v.names = none := by
  rcases g with ⟨rfl, _⟩ | ⟨cs, t, rfl, _⟩ <;> rfl
theorem GrowT.sl {v : AV} {l : List α} {o : Option Nat} (g : GrowT s1 P1 v l o) : IsSl s1 P1 v l := by
  rcases g with ⟨rfl, rfl, _⟩ | ⟨cs, t, rfl, _, hc⟩
  · exact .inl ⟨rfl, rfl⟩
  · exact .inr ⟨cs, _, rfl, hc⟩
variable {h : AHeap} {al : List Nat} {v1 v2 : AV} {l1 : List α} {l2 : List β}
theorem Two.nil : Two s1 s2 P1 P2 h h.al .nils [] .nils [] := ⟨[], none, none, rfl, .inl ⟨rfl, rfl, rfl⟩, .inl ⟨rfl, rfl, rfl⟩, by simp, by simp, by simp⟩
theorem Two.swap (t : Two s1 s2 P1 P2 h al v1 l1 v2 l2) : Two s2 s1 P2 P1 h al v2 l2 v1 l1 := by
  obtain ⟨ts, o1, o2, h1, h2, h3, h4, h5, h6⟩ := t.ex
  exact ⟨ts, o2, o1, h1, h3, h2, h5, h4, fun t e e' => h6 t e' e⟩
theorem Two.sl1 (t : Two s1 s2 P1 P2 h al v1 l1 v2 l2) : IsSl s1 P1 v1 l1 := by obtain ⟨ts, o1, o2, h1, h2, h3, h4, h5, h6⟩ := t.ex; exact h2.sl
theorem Two.sl2 (t : Two s1 s2 P1 P2 h al v1 l1 v2 l2) : IsSl s2 P2 v2 l2 := t.swap.sl1
theorem Two.le (t : Two s1 s2 P1 P2 h al v1 l1 v2 l2) : AHeap.le h (h.tok al) := by
  obtain ⟨ts, o1, o2, h1, h2, h3, h4, h5, h6⟩ := t.ex
  refine ⟨fun _ _ h => h, ?_⟩
  show h.al.Sublist al
  rw [h1]
  exact List.sublist_append_right _ _
end
section
variable {C : Con} {K : ASt → Prop} {env : Abs.Env} {loc : Abs.Loc} {h : AHeap} {i : Nat} {dst : Option Nat} {args : List Opd} {r : List AIns}
/-- An append of one element to one of two slices under way. -/
theorem aapp2 {α β : Type} {sz s2 mx : Nat} {P : List AV → α → Prop} {P2 : List AV → β → Prop} {h0 : AHeap} {v v2 : AV} {l : List α} {l2 : List β} {c : List AV} {y : α} {tg' : Tag} (ha : ASt.args ⟨env, loc, h⟩ (.app sz mx) args = some [v, .sl sz [c] tg']) (g : Two sz s2 P P2 h0 h.al v l v2 l2) (hc : P c y) (hmx : l.length + 1 ≤ mx)
    (hh : ∀ v' al, Two sz s2 P P2 h0 al v' (l ++ [y]) v2 l2 → AO C r ⟨env.put dst (some v'), loc, h.tok al⟩ K) : AO C (⟨i, none, dst, .app sz mx, args, []⟩ :: r) ⟨env, loc, h⟩ K := by
  obtain ⟨ts, o1, o2, e, g1, g2, h4, h5, h6⟩ := g.ex
  rcases g1 with ⟨rfl, rfl, rfl⟩ | ⟨cs, t, rfl, rfl, hcs⟩
  · refine aapp (tg := .full) (xs := []) ha (.inl ⟨rfl, rfl, rfl⟩) (by simp) (by simpa using hmx) (by simp) (by simp) fun t ht => ?_
    refine hh _ _ ⟨t :: ts, some t, o2, by simp [Tag.spend, e], .inr ⟨[c], t, rfl, rfl, .cons hc .nil⟩, g2, by simp, fun u hu => List.mem_cons_of_mem _ (h5 u hu), fun u hu hu' => ?_⟩
    cases hu
    exact ht (by rw [e]; exact List.mem_append_left _ (h5 _ hu'))
  · have htt : t ∈ ts := h4 t rfl
    refine aapp (tg := .tok t) (xs := cs) ha (.inr rfl) (by simp) (by rw [hcs.len]; simpa using hmx) (by simp) (by rw [e]; simp [htt]) fun t' ht => ?_
    refine hh _ _ ⟨t' :: ts.erase t, some t', o2, by simp [Tag.spend, e, List.erase_append_left _ htt], .inr ⟨cs ++ [c], t', rfl, rfl, hcs.snoc hc⟩, g2, by simp, fun u hu => List.mem_cons_of_mem _ ?_, fun u hu hu' => ?_⟩
    · have hne : u ≠ t := fun e => h6 t rfl (by rw [← e]; exact hu)
      exact (List.mem_erase_of_ne hne).2 (h5 u hu)
    · cases hu
      exact ht (by rw [e]; exact List.mem_append_left _ (h5 _ hu'))
end

/-- Events of the source, as they are used: few picks, numbers in their places. -/
def Event.good (e : Event) : Prop := e.picks ≠ [] ∧ e.picks.length ≤ 4 ∧ e.e.good
theorem Event.good.small {e : Event} (h : e.good) : e.small := ⟨h.1, by have := h.2.1; omega⟩

/-- The alerts under way, in a step's first loop. -/
structure O1 (l : List Alert) (es : List Event) (ks : List Int) (now : Int) (i : Nat) (out : List Alert) : Prop where
  len : out.length = i
  at_ : ∀ (j : Nat) (a : Alert), out[j]? = some a → ∃ b, l[j]? = some b ∧ a.id = b.id ∧ (0 ≤ a.tm ∧ a.tm ≤ now) ∧ a.ev.good ∧ (a.wd = false → ∃ (k : Nat) (e : Event), ks[j]? = some (k : Int) ∧ es[k]? = some e ∧ a.name = e.name)
theorem O1.snoc {l : List Alert} {es : List Event} {ks : List Int} {now : Int} {i : Nat} {out : List Alert} (o : O1 l es ks now i out) {a b : Alert} (hb : l[i]? = some b) (h1 : a.id = b.id) (h2 : 0 ≤ a.tm ∧ a.tm ≤ now) (h3 : a.ev.good) (h4 : a.wd = false → ∃ (k : Nat) (e : Event), ks[i]? = some (k : Int) ∧ es[k]? = some e ∧ a.name = e.name) :
    O1 l es ks now (i + 1) (out ++ [a]) := by
  refine ⟨by simp [o.len], fun j x hx => ?_⟩
  rcases Nat.lt_trichotomy j out.length with hj | hj | hj
  · rw [List.getElem?_append_left hj] at hx
    exact o.at_ j x hx
  · rw [List.getElem?_append_right (by omega), hj, Nat.sub_self] at hx
    simp at hx
    subst hx
    rw [hj, o.len]
    exact ⟨b, hb, h1, h2, h3, h4⟩
  · rw [List.getElem?_eq_none (by simp; omega)] at hx; cases hx

/-- What alerts are, between steps. -/
structure LInv (l : List Alert) (number now : Int) : Prop where
  ids : l.Pairwise fun a b => a.id < b.id
  num : ∀ a ∈ l, 0 ≤ a.id ∧ a.id < number
  tms : ∀ a ∈ l, 0 ≤ a.tm ∧ a.tm ≤ now
  good : ∀ a ∈ l, a.ev.good
  nms : l.Pairwise fun a b => a.wd = false → b.wd = false → a.name ≠ b.name

structure O2 (es : List Event) (ks : List Int) (number now : Int) (k : Nat) (out : List Alert) : Prop extends LInv out number now where
  frs : ∀ a ∈ out, a.wd = false → ∃ (j : Nat) (e : Event), es[j]? = some e ∧ a.name = e.name ∧ ((j : Int) ∈ ks ∨ j < k)

theorem O1.fin {l : List Alert} {es : List Event} {ks : List Int} {now number : Int} {tn : Nat} {out : List Alert} (o : O1 l es ks now l.length out) (hl : LInv l number now) (hf : FolOk l es.length ks) (hes : es.Pairwise fun a b => a.name ≠ b.name) : O2 es ks (number + tn) now 0 out := by
  have hgetr : ∀ {α : Type} {R : α → α → Prop} {l : List α}, l.Pairwise R → ∀ (i j : Nat) (a b : α), i < j → l[i]? = some a → l[j]? = some b → R a b := fun hp i j a b hij ha hb => by
    obtain ⟨hi, rfl⟩ := List.getElem?_eq_some_iff.1 ha
    obtain ⟨hj, rfl⟩ := List.getElem?_eq_some_iff.1 hb
    exact List.pairwise_iff_getElem.1 hp i j hi hj hij
  have hpw : ∀ {R : Alert → Alert → Prop}, (∀ (i j : Nat) (a b : Alert), i < j → out[i]? = some a → out[j]? = some b → R a b) → out.Pairwise R := fun h =>
    List.pairwise_iff_getElem.2 fun i j hi hj hij => h i j _ _ hij (List.getElem?_eq_getElem hi) (List.getElem?_eq_getElem hj)
  refine ⟨⟨hpw fun i j a b hij ha hb => ?_, fun a ha => ?_, fun a ha => ?_, fun a ha => ?_, hpw fun i j a b hij ha hb hwa hwb => ?_⟩, fun a ha hw => ?_⟩
  · obtain ⟨x, hx, e, _⟩ := o.at_ i a ha
    obtain ⟨y, hy, e', _⟩ := o.at_ j b hb
    rw [e, e']
    exact hgetr hl.ids i j x y hij hx hy
  · obtain ⟨i, hi⟩ := List.getElem?_of_mem ha
    obtain ⟨x, hx, e, _⟩ := o.at_ i a hi
    have := hl.num x (List.mem_of_getElem? hx)
    rw [e]; omega
  · obtain ⟨i, hi⟩ := List.getElem?_of_mem ha
    obtain ⟨x, hx, e, h2, _⟩ := o.at_ i a hi
    exact h2
  · obtain ⟨i, hi⟩ := List.getElem?_of_mem ha
    obtain ⟨x, hx, e, _, h3, _⟩ := o.at_ i a hi
    exact h3
  · obtain ⟨x, hx, _, _, _, h4⟩ := o.at_ i a ha
    obtain ⟨y, hy, _, _, _, h5⟩ := o.at_ j b hb
    obtain ⟨k, e, hk, he, hn⟩ := h4 hwa
    obtain ⟨k', e', hk', he', hn'⟩ := h5 hwb
    rw [hn, hn']
    have hne : k ≠ k' := fun e => by
      subst e
      have := hf.inj i j k hk hk' (by omega)
      omega
    rcases Nat.lt_or_gt_of_ne hne with hlt | hlt
    · exact hgetr hes k k' e e' hlt he he'
    · exact fun h => hgetr hes k' k e' e hlt he' he h.symm
  · obtain ⟨i, hi⟩ := List.getElem?_of_mem ha
    obtain ⟨x, hx, _, _, _, h4⟩ := o.at_ i a hi
    obtain ⟨k, e, hk, he, hn⟩ := h4 hw
    exact ⟨k, e, he, hn, .inl (List.mem_of_getElem? hk)⟩

theorem O2.skip {es : List Event} {ks : List Int} {number now : Int} {k : Nat} {out : List Alert} (o : O2 es ks number now k out) : O2 es ks number now (k + 1) out :=
  { o with frs := fun a ha hw => by obtain ⟨j, e, h1, h2, h3⟩ := o.frs a ha hw; exact ⟨j, e, h1, h2, h3.imp id fun h => by omega⟩ }
theorem O2.snoc {es : List Event} {ks : List Int} {number now : Int} {k : Nat} {out : List Alert} (o : O2 es ks number now k out) (hes : es.Pairwise fun a b => a.name ≠ b.name) {e : Event} (he : es[k]? = some e) (hk : (k : Int) ∉ ks) (hg : e.good) {lv : Int} (h0 : 0 ≤ number) (hnow : 0 ≤ now) :
    O2 es ks (number + 1) now (k + 1) (out ++ [⟨number, false, e.name, lv, e, now⟩]) := by
  refine ⟨⟨List.pairwise_append.2 ⟨o.ids, by simp, fun a ha b hb => ?_⟩, fun a ha => ?_, fun a ha => ?_, fun a ha => ?_, List.pairwise_append.2 ⟨o.nms, by simp, fun a ha b hb hwa hwb => ?_⟩⟩, fun a ha hw => ?_⟩
  · simp at hb; subst hb; exact (o.num a ha).2
  · rcases List.mem_append.1 ha with ha | ha
    · have := o.num a ha; omega
    · simp at ha; subst ha; simp only; omega
  · rcases List.mem_append.1 ha with ha | ha
    · exact o.tms a ha
    · simp at ha; subst ha; simp only; omega
  · rcases List.mem_append.1 ha with ha | ha
    · exact o.good a ha
    · simp at ha; subst ha; exact hg
  · simp at hb; subst hb
    obtain ⟨j, e', h1, h2, h3⟩ := o.frs a ha hwa
    rw [h2]
    have hne : j ≠ k := by
      rintro rfl
      rcases h3 with h3 | h3
      · exact hk h3
      · omega
    obtain ⟨hj, rfl⟩ := List.getElem?_eq_some_iff.1 h1
    obtain ⟨hkk, rfl⟩ := List.getElem?_eq_some_iff.1 he
    rcases Nat.lt_or_gt_of_ne hne with hlt | hlt
    · exact List.pairwise_iff_getElem.1 hes j k hj hkk hlt
    · exact fun h => List.pairwise_iff_getElem.1 hes k j hkk hj hlt h.symm
  · rcases List.mem_append.1 ha with ha | ha
    · obtain ⟨j, e', h1, h2, h3⟩ := o.frs a ha hw
      exact ⟨j, e', h1, h2, h3.imp id fun h => by omega⟩
    · simp at ha; subst ha
      exact ⟨k, e, he, rfl, .inr (by omega)⟩
end Go.Proofs.Ytkdphdcpofcnjaa

/- K19: contracts of seat 36: the reference's Step. -/
namespace Go.Proofs.Ytkdphdcpofcnjaa
open Go Abs
set_option linter.unusedSimpArgs false
set_option linter.unusedVariables false
set_option maxHeartbeats 2000000
attribute [local irreducible] Go.IntKind.wrap

/-- What the reference's Step answers: an error, or alerts that keep the rules. -/
def StepOk (l : List Alert) (es : List Event) (number now : Int) (u : AV) : Prop :=
  ∃ ov tv e, u = .tup [ov, tv, .int .i64 e] ∧ (ov.names = none ∧ tv.names = none) ∧ (e = 0 → ∃ (out : List Alert) (bs : List Bulletin), IsSl 38 IsAl ov out ∧ IsSl 30 IsBu tv bs ∧ LInv out (number + bs.length) now ∧ out.length ≤ l.length + es.length ∧ bs.length ≤ l.length + es.length)

theorem c20 {h : AHeap} {p : Policy} {t : Tag} {v w : AV} {l : List Alert} {es : List Event} {number now : Int} (hp : p.rules.length ≤ 100) (hv : IsSl 38 IsAl v l) (hw : IsSl 25 IsEv w es) (hl : l.length ≤ 200) (hes : es.length ≤ 200)
    (hge : ∀ e ∈ es, e.good) (hne : es.Pairwise fun a b => a.name ≠ b.name) (hli : LInv l number now) (hn0 : 0 ≤ number) (hn1 : number ≤ 100000) (hw0 : 0 ≤ now) :
    ACalls PR 20 [.agg (polc p t), v, .int .i64 number, w, .int .i64 now] h fun u h' => StepOk l es number now u ∧ h = h' := by
  refine fn_sound at20 ok20 (Nat.le_of_ble_eq_true rfl) (afn ?_)
  show AW _ C20 _ _
  unfold C20
  unfold polc
  have hse : ∀ e ∈ es, e.small := fun e he => (hge e he).small
  have hsa : ∀ a ∈ l, a.small := fun a ha => (hli.good a ha).small.2
  have hN : v.names = none ∧ w.names = none := ⟨hv.names, hw.names⟩
  refine nav ?_
  apply acall monoR rfl (by simp only [List.all_cons, List.all_nil, AV.plain, hN]; rfl) (c37 (p := p) (t := t) hp hv hw (by omega) (by omega) hse)
  rintro _ _ ⟨⟨e, rfl⟩, rfl⟩
  refine ⟨rfl, ?_⟩
  refine nav ?_
  refine acond rfl (fun hc => ?_) (fun hc => ?_)
  · have he : e ≠ 0 := by simpa using hc
    refine nav ?_
    apply qf rfl (by rfl) aheap_le
    exact ⟨⟨_, _, e, rfl, ⟨rfl, rfl⟩, fun h => absurd h he⟩, rfl⟩
  refine nav ?_
  apply acallpp monoR rfl (by simp only [List.all_cons, List.all_nil, AV.plain, hN]; rfl) (c38 hv hw (by omega) (by omega) hsa hse)
  rintro fv _ ⟨⟨ks, hks, hF, hkl⟩, rfl⟩
  refine ⟨rfl, by simp only [AV.plain, hks.names]; rfl, ?_⟩
  have hN : v.names = none ∧ w.names = none ∧ fv.names = none := ⟨hv.names, hw.names, hks.names⟩
  refine nav ?_
  refine aloop (fun q s => ∃ (i : Nat) (ov : AV) (out : List Alert) (tv : AV) (bs : List Bulletin) (al : List Nat), q + i = l.length ∧ O1 l es ks now i out ∧ bs.length ≤ i ∧ Two 38 30 IsAl IsBu h al ov out tv bs ∧
      s = ⟨Env.of [(1, some v), (2, some (.int .i64 number)), (3, some w), (4, some (.int .i64 now)), (5, some (.lp 5 0 0)), (14, some fv), (15, some ov), (16, some tv), (17, some (.int .i64 i))], Loc.of [(5, some (.arr 3 [polc p t]))], h.tok al⟩) l.length
    ⟨0, .nils, [], .nils, [], h.al, by omega, ⟨rfl, by simp⟩, by simp, Two.nil, rfl⟩ ?_
  rintro q s' ⟨i, ov, out, tv, bs, al, hq, hO1, hbs, hT, rfl⟩
  have hN : v.names = none ∧ w.names = none ∧ fv.names = none ∧ ov.names = none ∧ tv.names = none := ⟨hv.names, hw.names, hks.names, hT.sl1.names, hT.sl2.names⟩
  unfold polc
  refine nav ?_
  apply alenS rfl hv
  refine nav ?_
  refine acond rfl (fun hc => ?_) (fun hc => ?_)
  · have hlt : i < l.length := by have := of_decide_eq_true hc; omega
    have hla := List.getElem?_eq_getElem hlt
    have hki : ks[i]? = some ks[i] := List.getElem?_eq_getElem (by omega)
    have hag := hli.good _ (List.getElem_mem hlt)
    have hat := hli.tms _ (List.getElem_mem hlt)
    obtain ⟨cs, t1, c, rfl, hx, ta, hx2⟩ := hv.at hla
    have hxx : cs[i]? = some (alc l[i] ta) := by rw [hx, hx2]
    have hkr := hF.rng _ (List.mem_of_getElem? hki)
    generalize l[i] = a at *
    generalize ks[i] = k at *
    unfold alc at hxx
    apply askip
    apply qs_n
    apply aseq
    apply ablock
    apply aseq
    refine ajoin (fun s => s = ⟨Env.of [(1, some (.sl 38 cs t1)), (2, some (.int .i64 number)), (3, some w), (4, some (.int .i64 now)), (5, some (.lp 5 0 0)), (14, some fv), (15, some ov), (16, some tv), (17, some (.int .i64 i)), (18, some (.lp 18 0 0))], Loc.of [(5, some (.arr 3 [polc p t])), (18, some (.arr 38 [alc a ta]))], h.tok al⟩) (fun Q' hE hO => ?_) ?_
    · refine nav ?_
      exact hE _ rfl
    rintro _ rfl
    apply qs_n
    apply aseq
    refine ajoin (fun s => s = ⟨Env.of [(1, some (.sl 38 cs t1)), (2, some (.int .i64 number)), (3, some w), (4, some (.int .i64 now)), (5, some (.lp 5 0 0)), (14, some fv), (15, some ov), (16, some tv), (17, some (.int .i64 i)), (18, some (.lp 18 0 0)), (19, some (.int .i64 0))], Loc.of [(5, some (.arr 3 [polc p t])), (18, some (.arr 38 [alc a ta]))], h.tok al⟩) (fun Q' hE hO => ?_) ?_
    · refine nav ?_
      exact hE _ rfl
    rintro _ rfl
    apply qs_n
    apply aseq
    -- the name
    refine ajoin (fun s => ∃ (nm : Pick) (x : Option AV), (0 ≤ k → ∃ (kn : Nat) (e : Event), k = kn ∧ es[kn]? = some e ∧ nm = e.name) ∧ s = ⟨Env.of [(1, some (.sl 38 cs t1)), (2, some (.int .i64 number)), (3, some w), (4, some (.int .i64 now)), (5, some (.lp 5 0 0)), (14, some fv), (15, some ov), (16, some tv), (17, some (.int .i64 i)), (18, some (.lp 18 0 0)), (19, some (.int .i64 0)), (49, x)], Loc.of [(5, some (.arr 3 [polc p t])), (18, some (.arr 38 [alc ⟨a.id, a.wd, nm, a.level, a.ev, a.tm⟩ ta]))], h.tok al⟩) (fun Q' hE hO => ?_) ?_
    · unfold polc alc
      refine nav ?_
      apply aixS rfl rfl hks hki
      rintro _ rfl
      refine nav ?_
      refine acond rfl (fun hk0 => ?_) (fun hk0 => ?_)
      · have hk0' : 0 ≤ k := of_decide_eq_true hk0
        obtain ⟨kn, rfl⟩ : ∃ kn : Nat, k = kn := ⟨k.toNat, by omega⟩
        have hkn : kn < es.length := by omega
        have hek := List.getElem?_eq_getElem hkn
        refine nav ?_
        apply aixS rfl rfl hks hki
        rintro _ rfl
        refine nav ?_
        apply aixS rfl rfl hw hek
        rintro _ ⟨te, (rfl : _ = evc _ te)⟩
        unfold evc
        refine nav ?_
        exact hE _ ⟨es[kn].name, none, fun _ => ⟨kn, _, rfl, hek, rfl⟩, by simp only [Env.of, env_nil_none]; rfl⟩
      · refine nav ?_
        exact hE _ ⟨a.name, _, fun h => absurd h (of_decide_eq_false hk0), rfl⟩
    rintro s2 ⟨nm, x49, hnm, rfl⟩
    apply qs_n
    apply aseq
    refine ajoin (fun s => ∃ (a' : Alert) (ta' : Tag) (kd : Int) (x20 : Option AV) (c : Nat) (xc : Option AV), a'.id = a.id ∧ a'.tm = a.tm ∧ a'.ev.good ∧ (a'.wd = false → ∃ (kn : Nat) (e : Event), ks[i]? = some (kn : Int) ∧ es[kn]? = some e ∧ a'.name = e.name) ∧
        s = ⟨Env.of [(1, some (.sl 38 cs t1)), (2, some (.int .i64 number)), (3, some w), (4, some (.int .i64 now)), (5, some (.lp 5 0 0)), (14, some fv), (15, some ov), (16, some tv), (17, some (.int .i64 i)), (18, some (.lp 18 0 0)), (19, some (.int .i64 kd)), (20, x20), (c, xc)], Loc.of [(5, some (.arr 3 [polc p t])), (18, some (.arr 38 [alc a' ta']))], h.tok al⟩) (fun Q' hE hO => ?_) ?_
    · unfold polc alc
      refine nav ?_
      apply aixS rfl rfl hks hki
      rintro _ rfl
      refine nav ?_
      refine acond rfl (fun hwd => ?_) (fun hwd => ?_)
      · refine nav ?_
        exact hE _ ⟨⟨a.id, a.wd, nm, a.level, a.ev, a.tm⟩, ta, 0, _, 63, _, rfl, rfl, hag, fun h => absurd (hwd.symm.trans h) (by simp), rfl⟩
      · by_cases hk0 : k < 0
        · have hd : decide (k < 0) = true := decide_eq_true hk0
          repeat' (first | refine nat1 ?_ | (apply aeqs rfl (by rfl) (by rfl); intro be hbe) | (apply gaeqs rfl (by first | assumption | with_reducible rfl) rfl (by rfl) (by rfl); intro be hbe) | refine gpassS1 rfl rfl rfl rfl rfl (fun _ => ?_) (fun _ => ?_) | refine gpassS0 rfl rfl rfl rfl rfl (fun _ => ?_) (fun _ => ?_) | refine psplitA rfl (fun _ => ?_) (fun _ => ?_) | refine acond rfl (fun _ => ?_) (fun _ => ?_))
          all_goals first
            | exact hE _ ⟨⟨a.id, true, nm, a.level, a.ev, a.tm⟩, ta, 3, none, 63, none, rfl, rfl, hag, fun h => by simp at h, by simp only [Env.of, env_nil_none]; rfl⟩
            | (exfalso; simp_all; done)
        · have hd : decide (k < 0) = false := decide_eq_false hk0
          obtain ⟨kn, e, rfl, hek, rfl⟩ := hnm (by omega)
          obtain ⟨cs2, t2, c2, rfl, hx2', te, hc2⟩ := hw.at hek
          have hxe : cs2[kn]? = some (evc e te) := by rw [hx2', hc2]; rfl
          unfold evc at hxe
          have heg := hge e (List.mem_of_getElem? hek)
          have k39 : ACalls PR 39 [.agg (polc p t), .agg (evc e te)] (h.tok al) (SomeI (h.tok al)) := (c39 hp).mono fun _ _ ⟨⟨n, e, _⟩, e2⟩ => ⟨⟨n, e⟩, e2⟩
          have k40 := c40 (h := h.tok al) (p := p) (t := t) (v := a.ev) (te := ta) (w := e) (te' := te) hp
          repeat' (first | refine nat1 ?_ | (apply acallpp monoR rfl (by rfl) k39; rintro _ _ ⟨⟨_, rfl⟩, rfl⟩; refine ⟨rfl, rfl, ?_⟩) | (apply gcallpp rfl (by first | assumption | with_reducible rfl) monoR rfl (by rfl) k39; rintro _ _ ⟨⟨_, rfl⟩, rfl⟩; refine ⟨rfl, rfl, ?_⟩) | (refine gcallS1 rfl monoR rfl (by rfl) k39 (fun _ => ?_) (fun _ => ?_); rintro _ _ ⟨⟨_, rfl⟩, rfl⟩; refine ⟨rfl, rfl, ?_⟩) | (refine gcallS0 rfl monoR rfl (by rfl) k39 (fun _ => ?_) (fun _ => ?_); rintro _ _ ⟨⟨_, rfl⟩, rfl⟩; refine ⟨rfl, rfl, ?_⟩) | (apply acallpp monoR rfl (by rfl) k40; rintro _ _ ⟨⟨_, rfl⟩, rfl⟩; refine ⟨rfl, rfl, ?_⟩) | (apply gcallpp rfl (by first | assumption | with_reducible rfl) monoR rfl (by rfl) k40; rintro _ _ ⟨⟨_, rfl⟩, rfl⟩; refine ⟨rfl, rfl, ?_⟩) | (refine gcallS1 rfl monoR rfl (by rfl) k40 (fun _ => ?_) (fun _ => ?_); rintro _ _ ⟨⟨_, rfl⟩, rfl⟩; refine ⟨rfl, rfl, ?_⟩) | (refine gcallS0 rfl monoR rfl (by rfl) k40 (fun _ => ?_) (fun _ => ?_); rintro _ _ ⟨⟨_, rfl⟩, rfl⟩; refine ⟨rfl, rfl, ?_⟩) | (apply aeqs rfl (by rfl) (by rfl); intro be hbe) | (apply gaeqs rfl (by first | assumption | with_reducible rfl) rfl (by rfl) (by rfl); intro be hbe) | refine gpassS1 rfl rfl rfl rfl rfl (fun _ => ?_) (fun _ => ?_) | refine gpassS0 rfl rfl rfl rfl rfl (fun _ => ?_) (fun _ => ?_) | refine psplitA rfl (fun _ => ?_) (fun _ => ?_) | refine acond rfl (fun _ => ?_) (fun _ => ?_))
          all_goals first
            | exact hE _ ⟨⟨a.id, true, e.name, a.level, a.ev, a.tm⟩, ta, 3, none, 63, none, rfl, rfl, hag, fun h => by simp at h, by simp only [Env.of, env_nil_none]; rfl⟩
            | exact hE _ ⟨⟨a.id, a.wd, e.name, _, e, a.tm⟩, te, 2, none, 63, none, rfl, rfl, heg, fun h => ⟨kn, e, hki, hek, rfl⟩, by simp only [Env.of, env_nil_none]; rfl⟩
            | exact hE _ ⟨⟨a.id, a.wd, e.name, a.level, a.ev, a.tm⟩, ta, 0, _, 79, _, rfl, rfl, hag, fun h => ⟨kn, e, hki, hek, rfl⟩, rfl⟩
            | (exfalso; simp_all; done)
            | skip
    rintro s3 ⟨a', ta', kd, x20, cx, xc, hid, htm, hg', hnm', rfl⟩
    apply qs_n
    apply aseq
    refine ajoin (fun s => ∃ (tm : Int) (tv' : AV) (bs' : List Bulletin) (al' : List Nat) (x19 x110 : Option AV), (0 ≤ tm ∧ tm ≤ now) ∧ bs'.length ≤ i + 1 ∧ Two 38 30 IsAl IsBu h al' ov out tv' bs' ∧
        s = ⟨Env.of [(1, some (.sl 38 cs t1)), (2, some (.int .i64 number)), (3, some w), (4, some (.int .i64 now)), (5, some (.lp 5 0 0)), (14, some fv), (15, some ov), (16, some tv'), (17, some (.int .i64 i)), (18, some (.lp 18 0 0)), (19, x19), (110, x110)], Loc.of [(5, some (.arr 3 [polc p t])), (18, some (.arr 38 [alc ⟨a'.id, a'.wd, a'.name, a'.level, a'.ev, tm⟩ ta']))], h.tok al'⟩) (fun Q' hE hO => ?_) ?_
    · unfold polc alc
      refine nav ?_
      refine acond rfl (fun hk0 => ?_) (fun hk0 => ?_)
      · refine nav ?_
        apply alenS rfl hT.sl2
        refine naw ?_
        apply aapp2 (y := ⟨number + bs.length, kd, a'.id, now, a'.level, a'.ev⟩) rfl hT.swap ⟨ta', rfl⟩ (by omega)
        intro tv' al' hT'
        have hN : (AV.sl 38 cs t1).names = none ∧ w.names = none ∧ fv.names = none ∧ ov.names = none ∧ tv'.names = none := ⟨hv.names, hw.names, hks.names, hT.sl1.names, hT'.sl1.names⟩
        refine nav ?_
        exact hE _ ⟨now, tv', _, al', none, none, ⟨by omega, by omega⟩, by simp; omega, hT'.swap, by simp only [Env.of, env_nil_none]; rfl⟩
      · refine nav ?_
        exact hE _ ⟨a'.tm, tv, bs, al, _, _, by rw [htm]; exact hat, by omega, hT, rfl⟩
    rintro s4 ⟨tm, tv', bs', al', x19, x110, htm', hbs', hT', rfl⟩
    apply qs_n
    have hN : (AV.sl 38 cs t1).names = none ∧ w.names = none ∧ fv.names = none ∧ ov.names = none ∧ tv'.names = none := ⟨hv.names, hw.names, hks.names, hT.sl1.names, hT'.sl2.names⟩
    unfold polc alc
    refine nav ?_
    apply aapp2 (y := ⟨a'.id, a'.wd, a'.name, a'.level, a'.ev, tm⟩) rfl hT' ⟨ta', rfl⟩ (by rw [hO1.len]; omega)
    intro ov' al'' hT''
    have hN : (AV.sl 38 cs t1).names = none ∧ w.names = none ∧ fv.names = none ∧ ov'.names = none ∧ tv'.names = none := ⟨hv.names, hw.names, hks.names, hT''.sl1.names, hT'.sl2.names⟩
    refine naw ?_
    exact ql_n (q - 1) (by omega) ⟨i + 1, ov', _, tv', bs', al'', by omega, hO1.snoc (a := ⟨a'.id, a'.wd, a'.name, a'.level, a'.ev, tm⟩) hla hid htm' hg' hnm', hbs', hT'', rfl⟩
  · have hll : i = l.length := by have := of_decide_eq_false hc; have := hO1.len; omega
    subst hll
    have hO2 := hO1.fin (tn := bs.length) hli hF hne
    refine nav ?_
    refine aloop (fun q s => ∃ (k : Nat) (ov : AV) (out : List Alert) (tv : AV) (bs : List Bulletin) (al : List Nat), q + k = es.length ∧ O2 es ks (number + bs.length) now k out ∧ out.length ≤ l.length + k ∧ bs.length ≤ l.length + k ∧ Two 38 30 IsAl IsBu h al ov out tv bs ∧
        s = ⟨Env.of [(2, some (.int .i64 number)), (3, some w), (4, some (.int .i64 now)), (5, some (.lp 5 0 0)), (14, some fv), (15, some ov), (16, some tv), (21, some (.int .i64 k))], Loc.of [(5, some (.arr 3 [polc p t]))], h.tok al⟩) es.length
      ⟨0, ov, out, tv, bs, al, by omega, hO2, by rw [hO1.len]; omega, hbs, hT, rfl⟩ ?_
    clear hO2 hO1 hbs hT hN
    rintro q2 s2 ⟨k, ov, out, tv, bs, al, hq2, hO2, hol, hbs, hT, rfl⟩
    have hN : w.names = none ∧ fv.names = none ∧ ov.names = none ∧ tv.names = none := ⟨hw.names, hks.names, hT.sl1.names, hT.sl2.names⟩
    unfold polc
    refine nav ?_
    apply alenS rfl hw
    refine nav ?_
    refine acond rfl (fun hc => ?_) (fun hc => ?_)
    · have hlt : k < es.length := by have := of_decide_eq_true hc; omega
      have hek := List.getElem?_eq_getElem hlt
      have heg := hge _ (List.getElem_mem hlt)
      obtain ⟨cs2, t2, c2, rfl, hx2', te, hc2⟩ := hw.at hek
      have hxe : cs2[k]? = some (evc es[k] te) := by rw [hx2', hc2]; rfl
      generalize es[k] = e at *
      unfold evc at hxe
      have k39 : ACalls PR 39 [.agg (polc p t), .agg (evc e te)] (h.tok al) (SomeI (h.tok al)) := (c39 hp).mono fun _ _ ⟨⟨n, e, _⟩, e2⟩ => ⟨⟨n, e⟩, e2⟩
      have k42 := c42 (h := h.tok al) (p := p) (t := t) (v := e) (te := te) (now := now) hp
      refine nav ?_
      apply acallpp monoR rfl (by simp only [List.all_cons, List.all_nil, AV.plain, hN]; rfl) (c41 hks (by omega))
      rintro _ _ ⟨rfl, rfl⟩
      refine ⟨rfl, rfl, ?_⟩
      by_cases hmem : (k : Int) ∈ ks
      · rw [decide_eq_true hmem]
        repeat' (first | refine nat1 ?_ | (apply aeqs rfl (by rfl) (by rfl); intro be hbe) | (apply gaeqs rfl (by first | assumption | with_reducible rfl) rfl (by rfl) (by rfl); intro be hbe) | refine gpassS1 rfl rfl rfl rfl rfl (fun _ => ?_) (fun _ => ?_) | refine gpassS0 rfl rfl rfl rfl rfl (fun _ => ?_) (fun _ => ?_) | refine psplitA rfl (fun _ => ?_) (fun _ => ?_) | refine acond rfl (fun _ => ?_) (fun _ => ?_))
        exact ql_n (q2 - 1) (by omega) ⟨k + 1, ov, out, tv, bs, al, by omega, hO2.skip, by omega, by omega, hT, rfl⟩
      · rw [decide_eq_false hmem]
        repeat' (first | refine nat1 ?_ | (apply acallpp monoR rfl (by rfl) k42; rintro _ _ ⟨⟨_, rfl⟩, rfl⟩; refine ⟨rfl, rfl, ?_⟩) | (apply gcallpp rfl (by first | assumption | with_reducible rfl) monoR rfl (by rfl) k42; rintro _ _ ⟨⟨_, rfl⟩, rfl⟩; refine ⟨rfl, rfl, ?_⟩) | (refine gcallS1 rfl monoR rfl (by rfl) k42 (fun _ => ?_) (fun _ => ?_); rintro _ _ ⟨⟨_, rfl⟩, rfl⟩; refine ⟨rfl, rfl, ?_⟩) | (refine gcallS0 rfl monoR rfl (by rfl) k42 (fun _ => ?_) (fun _ => ?_); rintro _ _ ⟨⟨_, rfl⟩, rfl⟩; refine ⟨rfl, rfl, ?_⟩) | (apply aeqs rfl (by rfl) (by rfl); intro be hbe) | (apply gaeqs rfl (by first | assumption | with_reducible rfl) rfl (by rfl) (by rfl); intro be hbe) | refine gpassS1 rfl rfl rfl rfl rfl (fun _ => ?_) (fun _ => ?_) | refine gpassS0 rfl rfl rfl rfl rfl (fun _ => ?_) (fun _ => ?_) | refine psplitA rfl (fun _ => ?_) (fun _ => ?_) | refine acond rfl (fun _ => ?_) (fun _ => ?_))
        · exact ql_n (q2 - 1) (by omega) ⟨k + 1, ov, out, tv, bs, al, by omega, hO2.skip, by omega, by omega, hT, rfl⟩
        · apply alenS rfl hT.sl2
          refine naw ?_
          apply acallpp monoR rfl (by rfl) k39
          rintro _ _ ⟨⟨lv, rfl⟩, rfl⟩
          refine ⟨rfl, rfl, ?_⟩
          refine naw ?_
          apply aapp2 (y := ⟨number + bs.length, 1, number + bs.length, now, lv, e⟩) rfl hT.swap ⟨te, rfl⟩ (by omega)
          intro tv' al' hT'
          have hN : (AV.sl 25 cs2 t2).names = none ∧ fv.names = none ∧ ov.names = none ∧ tv'.names = none := ⟨rfl, hks.names, hT.sl1.names, hT'.sl1.names⟩
          refine naw ?_
          apply aapp2 (y := ⟨number + bs.length, false, e.name, lv, e, now⟩) rfl hT'.swap ⟨te, rfl⟩ (by omega)
          intro ov' al'' hT''
          have hN : (AV.sl 25 cs2 t2).names = none ∧ fv.names = none ∧ ov'.names = none ∧ tv'.names = none := ⟨rfl, hks.names, hT''.sl1.names, hT'.sl1.names⟩
          refine naw ?_
          have hO3 := hO2.snoc hne hek hmem heg (lv := lv) (by omega) hw0
          refine ql_n (q2 - 1) (by omega) ⟨k + 1, ov', _, tv', _, al'', by omega, ?_, by simp; omega, by simp; omega, hT'', rfl⟩
          rw [List.length_append, List.length_singleton, Int.natCast_add, ← Int.add_assoc]
          exact hO3
    · have hkl2 : k = es.length := by have := of_decide_eq_false hc; omega
      have hs1 := hT.sl1
      have hs2 := hT.sl2
      have hle := hT.le
      have hli' := hO2.toLInv
      have hfin : ∀ ov' tv' e', (e' = 0 → ov' = ov ∧ tv' = tv) → (ov'.names = none ∧ tv'.names = none) → StepOk l es number now (.tup [ov', tv', .int .i64 e']) := fun ov' tv' e' he hn => ⟨ov', tv', e', rfl, hn, fun h0 => by
        obtain ⟨rfl, rfl⟩ := he h0
        exact ⟨out, bs, hs1, hs2, hli', by omega, by omega⟩⟩
      clear hT hO2
      rcases hs1 with ⟨rfl, rfl⟩ | ⟨cs1, t1, rfl, hcs1⟩ <;> rcases hs2 with ⟨rfl, rfl⟩ | ⟨cs2, t2, rfl, hcs2⟩
      all_goals (
        repeat' (first | refine nat1 ?_ | (apply aeqs rfl (by rfl) (by rfl); intro be hbe) | (apply gaeqs rfl (by first | assumption | with_reducible rfl) rfl (by rfl) (by rfl); intro be hbe) | refine gpassS1 rfl rfl rfl rfl rfl (fun _ => ?_) (fun _ => ?_) | refine gpassS0 rfl rfl rfl rfl rfl (fun _ => ?_) (fun _ => ?_) | refine psplitA rfl (fun _ => ?_) (fun _ => ?_) | refine acond rfl (fun _ => ?_) (fun _ => ?_))
        all_goals first
          | (apply qf (h' := h) rfl (by rfl) hle; exact ⟨hfin _ _ 0 (fun _ => ⟨rfl, rfl⟩) ⟨rfl, rfl⟩, rfl⟩)
          | (apply qf (h' := h) rfl (by rfl) hle; exact ⟨hfin _ _ 8 (fun h => absurd h (by decide)) ⟨rfl, rfl⟩, rfl⟩)
          | (exfalso; simp_all; done))
end Go.Proofs.Ytkdphdcpofcnjaa

/- K20: contracts of seat 36: run. -/
namespace Go.Proofs.Ytkdphdcpofcnjaa
open Go Abs
set_option linter.unusedSimpArgs false
set_option linter.unusedVariables false
set_option maxHeartbeats 2000000
attribute [local irreducible] Go.IntKind.wrap

theorem incr_len {m : Nat} : ∀ {ds : List EvD} {a : Nat}, ds.Pairwise (fun a b => a.n < b.n) → (∀ d ∈ ds, a ≤ d.n ∧ d.n < m) → ds.length ≤ m - a
  | [], a, _, _ => by simp
  | d :: r, a, hp, h => by
    obtain ⟨h1, h2⟩ := List.pairwise_cons.1 hp
    have hd := h d (by simp)
    have := incr_len (m := m) (a := d.n + 1) h2 fun x hx => ⟨h1 x hx, (h x (by simp [hx])).2⟩
    simp only [List.length_cons]; omega

/-- Lists of events out of the source. -/
structure EvsOk (m : Nat) (es : List Event) (ds : List EvD) : Prop where
  eq : es = ds.map EvD.ev
  inc : ds.Pairwise fun a b => a.n < b.n
  ok : ∀ d ∈ ds, d.ok ∧ d.n < m
theorem EvsOk.len {m : Nat} {es : List Event} {ds : List EvD} (h : EvsOk m es ds) : es.length ≤ m := by
  rw [h.eq, List.length_map]
  have := incr_len (m := m) (a := 0) h.inc fun d hd => ⟨Nat.zero_le _, (h.ok d hd).2⟩
  omega
theorem EvsOk.good {m : Nat} {es : List Event} {ds : List EvD} (h : EvsOk m es ds) : ∀ e ∈ es, e.good := by
  intro e he
  rw [h.eq] at he
  obtain ⟨d, hd, rfl⟩ := List.mem_map.1 he
  obtain ⟨⟨h1, h2, h3, h4⟩, _⟩ := h.ok d hd
  refine ⟨?_, ?_, h4⟩
  · intro e0
    have : (List.map d.pick (List.range' d.i0 d.cnt)).length = 0 := by
      show d.ev.picks.length = 0
      rw [e0]; rfl
    simp at this
    omega
  · show (List.map d.pick (List.range' d.i0 d.cnt)).length ≤ 4
    simp; omega
theorem EvsOk.names {m : Nat} {es : List Event} {ds : List EvD} (h : EvsOk m es ds) : es.Pairwise fun a b => a.name ≠ b.name := by
  rw [h.eq, List.pairwise_map]
  refine List.pairwise_iff_getElem.2 fun i j hi hj hij hn => ?_
  have h1 := List.pairwise_iff_getElem.1 h.inc i j hi hj hij
  have h2 := (h.ok ds[i] (List.getElem_mem hi)).1.1
  have h3 := (h.ok ds[j] (List.getElem_mem hj)).1.1
  have h4 := congrArg Pick.time hn
  simp only [EvD.ev, EvD.pick, evPick, pickAt] at h4
  omega

theorem n10 {h : AHeap} {l : Nat} {S : Src} {k : Nat} {most : Nat} (hm : most ≤ 5) :
    ACalls PR 10 [.hp l 0 0, .int .i64 most] (h.set l (srcO S k)) (Left h l S fun v => ∃ es ds, IsSl 25 IsEv v es ∧ EvsOk most es ds) :=
  (c10 hm).mono fun v h' ⟨⟨ds, h1, h2, h3⟩, h4⟩ => ⟨⟨_, ds, h1, ⟨rfl, h2, h3⟩⟩, h4⟩

def RunOk (n : Nat) (u : AV) : Prop := ∃ (lv : AV) (l : List Alert) (number now : Int), u = .tup [lv, .int .i64 number, .int .i64 now] ∧ IsSl 38 IsAl lv l ∧ LInv l number now ∧ l.length ≤ 4 * n ∧ (0 ≤ number ∧ number ≤ 4 + 20 * n) ∧ (1000 ≤ now ∧ now ≤ 1000 + 400 * n)

theorem LInv.mono {l : List Alert} {number now now' : Int} (h : LInv l number now) (hn : now ≤ now') : LInv l number now' :=
  ⟨h.ids, h.num, fun a ha => ⟨(h.tms a ha).1, Int.le_trans (h.tms a ha).2 hn⟩, h.good, h.nms⟩

theorem c8 {h : AHeap} {l : Nat} {S : Src} {k : Nat} {p : Policy} {t : Tag} {n : Nat} (hp : p.good) (hn : n ≤ 4) :
    ACalls PR 8 [.hp l 0 0, .agg (polc p t), .int .i64 n] (h.set l (srcO S k)) (Left h l S (RunOk n)) := by
  refine fn_sound at8 ok8 (Nat.le_of_ble_eq_true rfl) (afn ?_)
  show AW _ C8 _ _
  unfold C8
  unfold polc
  refine nav ?_
  apply acall monoR rfl (by rfl) (n9 (by decide) (by decide))
  rintro _ _ ⟨⟨r0, rfl, hr0, hr1⟩, k1, rfl⟩
  refine ⟨rfl, ?_⟩
  refine nav ?_
  refine aloop (fun q s => ∃ (m : Nat) (lv : AV) (ls : List Alert) (number now : Int) (k : Nat), q + m = n ∧ IsSl 38 IsAl lv ls ∧ LInv ls number now ∧ ls.length ≤ 4 * m ∧ (0 ≤ number ∧ number ≤ 4 + 20 * m) ∧ (1000 ≤ now ∧ now ≤ 1000 + 400 * m) ∧
      s = ⟨Env.of [(0, some (.hp l 0 0)), (2, some (.int .i64 n)), (4, some (.lp 4 0 0)), (9, some lv), (10, some (.int .i64 number)), (11, some (.int .i64 now)), (12, some (.int .i64 m))], Loc.of [(4, some (.arr 3 [polc p t]))], h.set l (srcO S k)⟩) n
    ⟨0, .nils, [], r0, 1000, k1, by omega, .inl ⟨rfl, rfl⟩, ⟨.nil, by simp, by simp, by simp, .nil⟩, by simp, by omega, by omega, rfl⟩ ?_
  rintro q s' ⟨m, lv, ls, number, now, k2, hq, hls, hli, hll, hnum, hnow, rfl⟩
  have hN : lv.names = none := hls.names
  unfold polc
  refine nav ?_
  refine acond rfl (fun hc => ?_) (fun hc => ?_)
  · have hmn : m < n := by have := of_decide_eq_true hc; omega
    refine nav ?_
    apply acall monoR rfl (by rfl) (n9 (by decide) (by decide))
    rintro _ _ ⟨⟨r1, rfl, hr10, hr11⟩, k3, rfl⟩
    refine ⟨rfl, ?_⟩
    refine naw ?_
    apply acall monoR rfl (by rfl) (n10 (most := 4) (by decide))
    rintro ev _ ⟨⟨es, ds, hes, hok⟩, k4, rfl⟩
    refine ⟨by simp only [AV.plain, hes.names]; rfl, ?_⟩
    have hN : lv.names = none ∧ ev.names = none := ⟨hls.names, hes.names⟩
    have hel := hok.len
    have hpl := hp.1.2
    refine naw ?_
    apply acall monoR rfl (by simp only [List.all_cons, List.all_nil, AV.plain, hN]; rfl) (c20 (p := p) (t := t) (by omega) hls hes (by omega) (by omega) hok.good hok.names (hli.mono (now' := now + r1) (by omega)) (by omega) (by omega) (by omega))
    rintro _ _ ⟨⟨ov, tv, e, rfl, hon, hst⟩, rfl⟩
    refine ⟨rfl, ?_⟩
    have hN : lv.names = none ∧ ov.names = none ∧ tv.names = none := ⟨hls.names, hon.1, hon.2⟩
    refine naw ?_
    refine acond rfl (fun hc2 => ?_) (fun hc2 => ?_)
    · obtain ⟨out, bs, h1, h2, h3, h4, h5⟩ := hst (of_decide_eq_true hc2)
      refine naw ?_
      apply alenS rfl h2
      refine naw ?_
      exact ql_n (q - 1) (by omega) ⟨m + 1, ov, out, _, _, k4, by omega, h1, h3, by omega, by omega, by omega, rfl⟩
    · refine naw ?_
      exact ql_n (q - 1) (by omega) ⟨m + 1, lv, ls, number, _, k4, by omega, hls, hli.mono (by omega), by omega, by omega, by omega, rfl⟩
  · have hmn : m = n := by have := of_decide_eq_false hc; omega
    subst hmn
    refine naw ?_
    apply qf rfl (by simp only [List.all_cons, List.all_nil, AV.plain, hN]; rfl) aheap_le
    exact ⟨⟨lv, ls, number, now, rfl, hls, hli, hll, hnum, hnow⟩, k2, rfl⟩
end Go.Proofs.Ytkdphdcpofcnjaa

/- K21: contracts of seat 36: rule, geometry, magnitude. -/
namespace Go.Proofs.Ytkdphdcpofcnjaa
open Go Abs
set_option linter.unusedSimpArgs false
set_option linter.unusedVariables false
set_option maxHeartbeats 2000000
attribute [local irreducible] Go.IntKind.wrap

theorem c68 {h : AHeap} {r : Rule} (hr : r.good) : ACalls PR 68 [.agg (rulec r)] h fun u h' => u = .bool true ∧ h = h' := by
  obtain ⟨⟨h1, h2⟩, ⟨h3, h4⟩, ⟨h5, h6⟩, h7, h8⟩ := hr
  refine fn_sound at68 ok68 (Nat.le_of_ble_eq_true rfl) (afn ?_)
  show AW _ C68 _ _
  unfold C68
  unfold rulec
  repeat' (first | refine nat1 ?_ | (apply aeqs rfl (by rfl) (by rfl); intro be hbe) | (apply gaeqs rfl (by first | assumption | with_reducible rfl) rfl (by rfl) (by rfl); intro be hbe) | refine gpassS1 rfl rfl rfl rfl rfl (fun _ => ?_) (fun _ => ?_) | refine gpassS0 rfl rfl rfl rfl rfl (fun _ => ?_) (fun _ => ?_) | refine psplitA rfl (fun _ => ?_) (fun _ => ?_) | refine acond rfl (fun _ => ?_) (fun _ => ?_))
  all_goals first
    | (exfalso; simp_all <;> omega)
    | (apply qf rfl (by rfl) aheap_le; refine ⟨?_, rfl⟩; simp only [resV, AV.bool.injEq, decide_eq_true_eq]; simp; omega)
theorem c44 {h : AHeap} {p : Policy} {t : Tag} (hp : p.good) : ACalls PR 44 [.agg (polc p t)] h fun u h' => u = .int .i64 0 ∧ h = h' := by
  obtain ⟨⟨h1, h2⟩, hr, ⟨h3, h4⟩, h5, h6⟩ := hp
  refine fn_sound at44 ok44 (Nat.le_of_ble_eq_true rfl) (afn ?_)
  show AW _ C44 _ _
  unfold C44
  unfold polc
  repeat' (first | refine nat1 ?_ | (apply aeqs rfl (by rfl) (by rfl); intro be hbe) | (apply gaeqs rfl (by first | assumption | with_reducible rfl) rfl (by rfl) (by rfl); intro be hbe) | refine gpassS1 rfl rfl rfl rfl rfl (fun _ => ?_) (fun _ => ?_) | refine gpassS0 rfl rfl rfl rfl rfl (fun _ => ?_) (fun _ => ?_) | refine psplitA rfl (fun _ => ?_) (fun _ => ?_) | refine acond rfl (fun _ => ?_) (fun _ => ?_))
  all_goals try (exfalso; simp_all <;> omega)
  all_goals (
    refine aloop (fun q s => ∃ k : Nat, q + k = p.rules.length ∧ s = ⟨Env.of [(32, some (.sl 4 (p.rules.map Rule.enc) t)), (33, some (.int .i64 p.rules.length)), (34, some (.int .i64 k))], Loc.of [], h⟩) p.rules.length ⟨0, by omega, by rw [List.length_map]; rfl⟩ ?_
    rintro q s' ⟨k, hq, rfl⟩
    refine nav ?_
    refine acond rfl (fun hc => ?_) (fun hc => ?_)
    · have hk : k < p.rules.length := by have := of_decide_eq_true hc; simpa using this
      obtain ⟨r, hrk, he⟩ := map_get (f := Rule.enc) hk
      simp only [Rule.enc] at he
      have k68 := c68 (h := h) (hr r (List.mem_of_getElem? hrk))
      repeat' (first | refine nat1 ?_ | (apply acallpp monoR rfl (by rfl) k68; rintro _ _ ⟨rfl, rfl⟩; refine ⟨rfl, rfl, ?_⟩) | (apply gcallpp rfl (by first | assumption | with_reducible rfl) monoR rfl (by rfl) k68; rintro _ _ ⟨rfl, rfl⟩; refine ⟨rfl, rfl, ?_⟩) | (refine gcallS1 rfl monoR rfl (by rfl) k68 (fun _ => ?_) (fun _ => ?_); rintro _ _ ⟨rfl, rfl⟩; refine ⟨rfl, rfl, ?_⟩) | (refine gcallS0 rfl monoR rfl (by rfl) k68 (fun _ => ?_) (fun _ => ?_); rintro _ _ ⟨rfl, rfl⟩; refine ⟨rfl, rfl, ?_⟩) | (apply aeqs rfl (by rfl) (by rfl); intro be hbe) | (apply gaeqs rfl (by first | assumption | with_reducible rfl) rfl (by rfl) (by rfl); intro be hbe) | refine gpassS1 rfl rfl rfl rfl rfl (fun _ => ?_) (fun _ => ?_) | refine gpassS0 rfl rfl rfl rfl rfl (fun _ => ?_) (fun _ => ?_) | refine psplitA rfl (fun _ => ?_) (fun _ => ?_) | refine acond rfl (fun _ => ?_) (fun _ => ?_))
      all_goals first
        | exact ql_n (q - 1) (by omega) ⟨k + 1, by omega, rfl⟩
        | (exfalso; simp_all; done)
    · refine nav ?_
      apply qf rfl (by rfl) aheap_le
      exact ⟨rfl, rfl⟩)
theorem c51 {h : AHeap} {r : Rule} {v : Event} {t : Tag} : ACalls PR 51 [.agg (rulec r), .agg (evc v t)] h fun u h' => u = .bool (meets r v) ∧ h = h' := by
  refine fn_sound at51 ok51 (Nat.le_of_ble_eq_true rfl) (afn ?_)
  show AW _ C51 _ _
  unfold C51
  unfold rulec evc
  repeat' (first | refine nat1 ?_ | (apply aeqs rfl (by rfl) (by rfl); intro be hbe) | (apply gaeqs rfl (by first | assumption | with_reducible rfl) rfl (by rfl) (by rfl); intro be hbe) | refine gpassS1 rfl rfl rfl rfl rfl (fun _ => ?_) (fun _ => ?_) | refine gpassS0 rfl rfl rfl rfl rfl (fun _ => ?_) (fun _ => ?_) | refine psplitA rfl (fun _ => ?_) (fun _ => ?_) | refine acond rfl (fun _ => ?_) (fun _ => ?_))
  all_goals first
    | (apply qf rfl (by rfl) aheap_le; refine ⟨?_, rfl⟩; simp_all [resV, meets] <;> omega)
    | (exfalso; simp_all; done)
theorem c54 {h : AHeap} {x y x' y' : Int} : ACalls PR 54 [.agg [.int .i64 x, .int .i64 y], .agg [.int .i64 x', .int .i64 y']] h fun u h' => u = .bool (decide (max x x' ≤ min y y')) ∧ h = h' := by
  refine fn_sound at54 ok54 (Nat.le_of_ble_eq_true rfl) (afn ?_)
  show AW _ C54 _ _
  unfold C54
  repeat' (first | refine nat1 ?_ | (apply aeqs rfl (by rfl) (by rfl); intro be hbe) | (apply gaeqs rfl (by first | assumption | with_reducible rfl) rfl (by rfl) (by rfl); intro be hbe) | refine gpassS1 rfl rfl rfl rfl rfl (fun _ => ?_) (fun _ => ?_) | refine gpassS0 rfl rfl rfl rfl rfl (fun _ => ?_) (fun _ => ?_) | refine psplitA rfl (fun _ => ?_) (fun _ => ?_) | refine acond rfl (fun _ => ?_) (fun _ => ?_))
  apply qf rfl (by rfl) aheap_le
  exact ⟨rfl, rfl⟩
theorem c74 {h : AHeap} {x y z : Int} : ACalls PR 74 [.agg [.int .i64 x, .int .i64 y, .int .i64 z]] h fun u h' => u = .agg [.int .i64 x, .int .i64 y, .int .i64 z] ∧ h = h' := by
  refine fn_sound at74 ok74 (Nat.le_of_ble_eq_true rfl) (afn ?_)
  show AW _ C74 _ _
  unfold C74
  repeat' (first | refine nat1 ?_ | (apply aeqs rfl (by rfl) (by rfl); intro be hbe) | (apply gaeqs rfl (by first | assumption | with_reducible rfl) rfl (by rfl) (by rfl); intro be hbe) | refine gpassS1 rfl rfl rfl rfl rfl (fun _ => ?_) (fun _ => ?_) | refine gpassS0 rfl rfl rfl rfl rfl (fun _ => ?_) (fun _ => ?_) | refine psplitA rfl (fun _ => ?_) (fun _ => ?_) | refine acond rfl (fun _ => ?_) (fun _ => ?_))
  apply qf rfl (by rfl) aheap_le
  exact ⟨rfl, rfl⟩
end Go.Proofs.Ytkdphdcpofcnjaa

/- K22: contracts of seat 36: distances. -/
namespace Go.Proofs.Ytkdphdcpofcnjaa
open Go Abs
set_option linter.unusedSimpArgs false
set_option linter.unusedVariables false
set_option maxHeartbeats 2000000
attribute [local irreducible] Go.IntKind.wrap

theorem c73 {h : AHeap} {x y z : Int} (hx : -1000 ≤ x ∧ x ≤ 1000) (hy : -1000 ≤ y ∧ y ≤ 1000) (hz : -1000 ≤ z ∧ z ≤ 1000) : ACalls PR 73 [.agg [.int .i64 x, .int .i64 y, .int .i64 z]] h fun u h' => u = .bool true ∧ h = h' := by
  refine fn_sound at73 ok73 (Nat.le_of_ble_eq_true rfl) (afn ?_)
  show AW _ C73 _ _
  unfold C73
  have k74 := c74 (h := h) (x := x) (y := y) (z := z)
  repeat' (first | refine nat1 ?_ | (apply acallpp monoR rfl (by rfl) k74; rintro _ _ ⟨rfl, rfl⟩; refine ⟨rfl, rfl, ?_⟩) | (apply gcallpp rfl (by first | assumption | with_reducible rfl) monoR rfl (by rfl) k74; rintro _ _ ⟨rfl, rfl⟩; refine ⟨rfl, rfl, ?_⟩) | (refine gcallS1 rfl monoR rfl (by rfl) k74 (fun _ => ?_) (fun _ => ?_); rintro _ _ ⟨rfl, rfl⟩; refine ⟨rfl, rfl, ?_⟩) | (refine gcallS0 rfl monoR rfl (by rfl) k74 (fun _ => ?_) (fun _ => ?_); rintro _ _ ⟨rfl, rfl⟩; refine ⟨rfl, rfl, ?_⟩) | (apply aeqs rfl (by rfl) (by rfl); intro be hbe) | (apply gaeqs rfl (by first | assumption | with_reducible rfl) rfl (by rfl) (by rfl); intro be hbe) | refine gpassS1 rfl rfl rfl rfl rfl (fun _ => ?_) (fun _ => ?_) | refine gpassS0 rfl rfl rfl rfl rfl (fun _ => ?_) (fun _ => ?_) | refine psplitA rfl (fun _ => ?_) (fun _ => ?_) | refine acond rfl (fun _ => ?_) (fun _ => ?_))
  refine aloop (fun q s => ∃ k : Nat, q + k = 3 ∧ s = ⟨Env.of [(3, some (.lp 3 0 0)), (8, some (.agg [.int .i64 x, .int .i64 y, .int .i64 z])), (9, some (.int .i64 k))], Loc.of [(3, some (.arr 3 [[.int .i64 (-1048576), .int .i64 (-1048576), .int .i64 (-16384)]]))], h⟩) 3 ⟨0, rfl, rfl⟩ ?_
  rintro q s' ⟨k, hq, rfl⟩
  refine nav ?_
  refine acond rfl (fun hc => ?_) (fun hc => ?_)
  · have hk : k < 3 := by have := of_decide_eq_true hc; omega
    have hk4 : k = 0 ∨ k = 1 ∨ k = 2 := by omega
    rcases hk4 with rfl | rfl | rfl
    all_goals (
      repeat' (first | refine nat1 ?_ | (apply aeqs rfl (by rfl) (by rfl); intro be hbe) | (apply gaeqs rfl (by first | assumption | with_reducible rfl) rfl (by rfl) (by rfl); intro be hbe) | refine gpassS1 rfl rfl rfl rfl rfl (fun _ => ?_) (fun _ => ?_) | refine gpassS0 rfl rfl rfl rfl rfl (fun _ => ?_) (fun _ => ?_) | refine psplitA rfl (fun _ => ?_) (fun _ => ?_) | refine acond rfl (fun _ => ?_) (fun _ => ?_))
      all_goals first
        | exact ql_n (q - 1) (by omega) ⟨1, by omega, rfl⟩
        | exact ql_n (q - 1) (by omega) ⟨2, by omega, rfl⟩
        | exact ql_n (q - 1) (by omega) ⟨3, by omega, rfl⟩
        | (exfalso; simp_all <;> omega))
  · refine nav ?_
    apply qf rfl (by rfl) aheap_le
    exact ⟨rfl, rfl⟩

theorem sq_bound {d : Int} (h : -100 ≤ d ∧ d ≤ 100) : 0 ≤ d * d ∧ d * d ≤ 10000 := by
  rcases Int.le_total 0 d with h0 | h0
  · exact ⟨Int.mul_nonneg h0 h0, by have := Int.mul_le_mul h.2 h.2 h0 (by omega); omega⟩
  · have e : d * d = (-d) * (-d) := (Int.neg_mul_neg d d).symm
    rw [e]
    exact ⟨Int.mul_nonneg (by omega) (by omega), by have := Int.mul_le_mul (show -d ≤ 100 by omega) (show -d ≤ 100 by omega) (by omega) (by omega); omega⟩

def sqd (x y z x' y' z' : Int) : Int := (x - x') * (x - x') + (y - y') * (y - y') + (z - z') * (z - z')

theorem c52 {h : AHeap} {x y z x' y' z' : Int} (hx : -50 ≤ x ∧ x ≤ 50) (hy : -50 ≤ y ∧ y ≤ 50) (hz : -50 ≤ z ∧ z ≤ 50) (hx' : -50 ≤ x' ∧ x' ≤ 50) (hy' : -50 ≤ y' ∧ y' ≤ 50) (hz' : -50 ≤ z' ∧ z' ≤ 50) :
    ACalls PR 52 [.agg [.int .i64 x, .int .i64 y, .int .i64 z], .agg [.int .i64 x', .int .i64 y', .int .i64 z']] h fun u h' => u = .int .i64 (sqd x y z x' y' z') ∧ h = h' := by
  refine fn_sound at52 ok52 (Nat.le_of_ble_eq_true rfl) (afn ?_)
  show AW _ C52 _ _
  unfold C52
  have k73 := c73 (h := h) (x := x) (y := y) (z := z) (by omega) (by omega) (by omega)
  have k73' := c73 (h := h) (x := x') (y := y') (z := z') (by omega) (by omega) (by omega)
  have k74 := c74 (h := h) (x := x) (y := y) (z := z)
  have k74' := c74 (h := h) (x := x') (y := y') (z := z')
  have hA := sq_bound (d := x - x') (by omega)
  have hB := sq_bound (d := y - y') (by omega)
  have hC := sq_bound (d := z - z') (by omega)
  repeat' (first | refine nat1 ?_ | (apply acallpp monoR rfl (by rfl) k73; rintro _ _ ⟨rfl, rfl⟩; refine ⟨rfl, rfl, ?_⟩) | (apply gcallpp rfl (by first | assumption | with_reducible rfl) monoR rfl (by rfl) k73; rintro _ _ ⟨rfl, rfl⟩; refine ⟨rfl, rfl, ?_⟩) | (refine gcallS1 rfl monoR rfl (by rfl) k73 (fun _ => ?_) (fun _ => ?_); rintro _ _ ⟨rfl, rfl⟩; refine ⟨rfl, rfl, ?_⟩) | (refine gcallS0 rfl monoR rfl (by rfl) k73 (fun _ => ?_) (fun _ => ?_); rintro _ _ ⟨rfl, rfl⟩; refine ⟨rfl, rfl, ?_⟩) | (apply acallpp monoR rfl (by rfl) k73'; rintro _ _ ⟨rfl, rfl⟩; refine ⟨rfl, rfl, ?_⟩) | (apply gcallpp rfl (by first | assumption | with_reducible rfl) monoR rfl (by rfl) k73'; rintro _ _ ⟨rfl, rfl⟩; refine ⟨rfl, rfl, ?_⟩) | (refine gcallS1 rfl monoR rfl (by rfl) k73' (fun _ => ?_) (fun _ => ?_); rintro _ _ ⟨rfl, rfl⟩; refine ⟨rfl, rfl, ?_⟩) | (refine gcallS0 rfl monoR rfl (by rfl) k73' (fun _ => ?_) (fun _ => ?_); rintro _ _ ⟨rfl, rfl⟩; refine ⟨rfl, rfl, ?_⟩) | (apply acallpp monoR rfl (by rfl) k74; rintro _ _ ⟨rfl, rfl⟩; refine ⟨rfl, rfl, ?_⟩) | (apply gcallpp rfl (by first | assumption | with_reducible rfl) monoR rfl (by rfl) k74; rintro _ _ ⟨rfl, rfl⟩; refine ⟨rfl, rfl, ?_⟩) | (refine gcallS1 rfl monoR rfl (by rfl) k74 (fun _ => ?_) (fun _ => ?_); rintro _ _ ⟨rfl, rfl⟩; refine ⟨rfl, rfl, ?_⟩) | (refine gcallS0 rfl monoR rfl (by rfl) k74 (fun _ => ?_) (fun _ => ?_); rintro _ _ ⟨rfl, rfl⟩; refine ⟨rfl, rfl, ?_⟩) | (apply acallpp monoR rfl (by rfl) k74'; rintro _ _ ⟨rfl, rfl⟩; refine ⟨rfl, rfl, ?_⟩) | (apply gcallpp rfl (by first | assumption | with_reducible rfl) monoR rfl (by rfl) k74'; rintro _ _ ⟨rfl, rfl⟩; refine ⟨rfl, rfl, ?_⟩) | (refine gcallS1 rfl monoR rfl (by rfl) k74' (fun _ => ?_) (fun _ => ?_); rintro _ _ ⟨rfl, rfl⟩; refine ⟨rfl, rfl, ?_⟩) | (refine gcallS0 rfl monoR rfl (by rfl) k74' (fun _ => ?_) (fun _ => ?_); rintro _ _ ⟨rfl, rfl⟩; refine ⟨rfl, rfl, ?_⟩) | (apply aeqs rfl (by rfl) (by rfl); intro be hbe) | (apply gaeqs rfl (by first | assumption | with_reducible rfl) rfl (by rfl) (by rfl); intro be hbe) | refine gpassS1 rfl rfl rfl rfl rfl (fun _ => ?_) (fun _ => ?_) | refine gpassS0 rfl rfl rfl rfl rfl (fun _ => ?_) (fun _ => ?_) | refine psplitA rfl (fun _ => ?_) (fun _ => ?_) | refine acond rfl (fun _ => ?_) (fun _ => ?_))
  all_goals try (exfalso; simp_all; done)
  refine aloop (fun q s => ∃ (k : Nat) (sm : Int), q + k = 3 ∧ ((k = 0 ∧ sm = 0) ∨ (k = 1 ∧ sm = 0 + (x - x') * (x - x')) ∨ (k = 2 ∧ sm = 0 + (x - x') * (x - x') + (y - y') * (y - y')) ∨ (k = 3 ∧ sm = 0 + (x - x') * (x - x') + (y - y') * (y - y') + (z - z') * (z - z'))) ∧
     s = ⟨Env.of [(5, some (.int .i64 sm)), (6, some (.lp 6 0 0)), (20, some (.agg [.int .i64 x, .int .i64 y, .int .i64 z])), (21, some (.int .i64 k))], Loc.of [(6, some (.arr 3 [[.int .i64 x', .int .i64 y', .int .i64 z']]))], h⟩) 3 ⟨0, 0, rfl, .inl ⟨rfl, rfl⟩, rfl⟩ ?_
  rintro q s' ⟨k, sm, hq, hs, rfl⟩
  rcases hs with ⟨rfl, rfl⟩ | ⟨rfl, rfl⟩ | ⟨rfl, rfl⟩ | ⟨rfl, rfl⟩
  · repeat' (first | refine nat1 ?_ | (apply aeqs rfl (by rfl) (by rfl); intro be hbe) | (apply gaeqs rfl (by first | assumption | with_reducible rfl) rfl (by rfl) (by rfl); intro be hbe) | refine gpassS1 rfl rfl rfl rfl rfl (fun _ => ?_) (fun _ => ?_) | refine gpassS0 rfl rfl rfl rfl rfl (fun _ => ?_) (fun _ => ?_) | refine psplitA rfl (fun _ => ?_) (fun _ => ?_) | refine acond rfl (fun _ => ?_) (fun _ => ?_))
    · exact ql_n (q - 1) (by omega) ⟨1, _, by omega, .inr (.inl ⟨rfl, rfl⟩), rfl⟩
    · exfalso; simp_all
  · repeat' (first | refine nat1 ?_ | (apply aeqs rfl (by rfl) (by rfl); intro be hbe) | (apply gaeqs rfl (by first | assumption | with_reducible rfl) rfl (by rfl) (by rfl); intro be hbe) | refine gpassS1 rfl rfl rfl rfl rfl (fun _ => ?_) (fun _ => ?_) | refine gpassS0 rfl rfl rfl rfl rfl (fun _ => ?_) (fun _ => ?_) | refine psplitA rfl (fun _ => ?_) (fun _ => ?_) | refine acond rfl (fun _ => ?_) (fun _ => ?_))
    · exact ql_n (q - 1) (by omega) ⟨2, _, by omega, .inr (.inr (.inl ⟨rfl, rfl⟩)), rfl⟩
    · exfalso; simp_all
  · repeat' (first | refine nat1 ?_ | (apply aeqs rfl (by rfl) (by rfl); intro be hbe) | (apply gaeqs rfl (by first | assumption | with_reducible rfl) rfl (by rfl) (by rfl); intro be hbe) | refine gpassS1 rfl rfl rfl rfl rfl (fun _ => ?_) (fun _ => ?_) | refine gpassS0 rfl rfl rfl rfl rfl (fun _ => ?_) (fun _ => ?_) | refine psplitA rfl (fun _ => ?_) (fun _ => ?_) | refine acond rfl (fun _ => ?_) (fun _ => ?_))
    · exact ql_n (q - 1) (by omega) ⟨3, _, by omega, .inr (.inr (.inr ⟨rfl, rfl⟩)), rfl⟩
    · exfalso; simp_all
  · refine nav ?_
    apply qf rfl (by rfl) aheap_le
    exact ⟨by simp only [resV, sqd, Int.zero_add], rfl⟩

def gap (a b : Int) : Int := if a < b then b - a else a - b
theorem c53 {h : AHeap} {a b : Int} (ha : 0 ≤ a ∧ a ≤ 1000000) (hb : 0 ≤ b ∧ b ≤ 1000000) : ACalls PR 53 [.int .i64 a, .int .i64 b] h fun u h' => u = .int .u64 (gap a b) ∧ h = h' := by
  refine fn_sound at53 ok53 (Nat.le_of_ble_eq_true rfl) (afn ?_)
  show AW _ C53 _ _
  unfold C53
  refine nav ?_
  refine acond rfl (fun hc => ?_) (fun hc => ?_)
  · have hlt : a < b := of_decide_eq_true hc
    refine nav ?_
    rw [Go.IntWalk.u64_in a (by omega), Go.IntWalk.u64_in b (by omega), Go.IntWalk.u64_in (b - a) (by omega)]
    apply qf rfl (by rfl) aheap_le
    exact ⟨by simp only [resV, gap, if_pos hlt], rfl⟩
  · have hlt : ¬ a < b := of_decide_eq_false hc
    refine nav ?_
    rw [Go.IntWalk.u64_in a (by omega), Go.IntWalk.u64_in b (by omega), Go.IntWalk.u64_in (a - b) (by omega)]
    apply qf rfl (by rfl) aheap_le
    exact ⟨by simp only [resV, gap, if_neg hlt], rfl⟩
end Go.Proofs.Ytkdphdcpofcnjaa
