/- AlertKept: for every list of numbers the law answers true, and the list reads as it did. No condition. -/
import Derived.Test.YtkdphdcpofcnjaaK5
/- K42: seat 36: AlertKept's contract. -/
namespace Go.Proofs.Ytkdphdcpofcnjaa
open Go Abs
set_option linter.unusedSimpArgs false
set_option linter.unusedVariables false
set_option maxHeartbeats 2000000
attribute [local irreducible] Go.IntKind.wrap

section
variable {C : Con} {K : ASt → Prop} {env : Abs.Env} {loc : Abs.Loc} {h : AHeap} {i : Nat} {dst : Option Nat} {args : List Opd} {r : List AIns}
/-- 'x[m:n]'. -/
theorem gaslc {g : Nat} {b w : Bool} {sz m n : Nat} {z z' : Int} {xs : List (List AV)} {t : Tag} {kd kd' : IntKind} (hg : env g = some (.bool b)) (hb : b = w) (ha : ASt.args ⟨env, loc, h⟩ (.slc sz true true false) args = some [.sl sz xs t, .int kd z, .int kd' z']) (hz : z = (m : Nat)) (hz' : z' = (n : Nat)) (h1 : m ≤ n) (h2 : n ≤ xs.length)
    (hh : AO C r ⟨env.put dst (some (.sl sz ((xs.take n).drop m) .no)), loc, h⟩ K) : AO C (⟨i, some (g, w), dst, .slc sz true true false, args, []⟩ :: r) ⟨env, loc, h⟩ K := by
  subst hz hz'
  exact gpass1 hg hb rfl ha (by simp [pval, slcV, bounds3, chkB, h1, h2]) hh
end
theorem IsSl.part {α : Type} {s : Nat} {P : List AV → α → Prop} {cs : List (List AV)} {i : Nat} {c : List AV} {x : α} (hc : cs[i]? = some c) (hx : P c x) : IsSl s P (.sl s ((cs.take (i + 1)).drop i) .no) [x] := by
  refine .inr ⟨_, _, rfl, ?_⟩
  have : (cs.take (i + 1)).drop i = [c] := by
    obtain ⟨hi, rfl⟩ := List.getElem?_eq_some_iff.1 hc
    rw [List.take_add_one, List.drop_append_of_le_length (by simp; omega), hc]
    simp
  rw [this]
  exact .cons hx .nil

/-- How many bulletins issue an alert. -/
def issued (bs : List Bulletin) : Nat := (bs.filter fun b => decide (b.kind = 1)).length
theorem issued_app (a b : List Bulletin) : issued (a ++ b) = issued a + issued b := by simp [issued]
theorem issued_succ {bs : List Bulletin} {k : Nat} {b : Bulletin} (h : bs[k]? = some b) : issued (bs.take (k + 1)) = issued (bs.take k) + if b.kind = 1 then 1 else 0 := by
  rw [List.take_add_one, issued_app, h]
  congr 1
  simp only [issued, Option.toList_some, List.filter_cons, List.filter_nil]
  by_cases hk : b.kind = 1 <;> simp [hk]
theorem issued_le (bs : List Bulletin) : issued bs ≤ bs.length := List.length_filter_le _ _
section
variable {p : Policy} {es : List Event} {now n0 : Int} {l : List Alert} {ks : List Int}
theorem S1_iss (hl : ks.length = l.length) : ∀ {i : Nat}, i ≤ l.length → issued (S1 p es now n0 l ks i).bs = 0
  | 0, _ => rfl
  | i + 1, h => by
    have ha : l[i]? = some l[i] := List.getElem?_eq_getElem (by omega)
    have hk : ks[i]? = some ks[i] := List.getElem?_eq_getElem (by omega)
    rw [S1_succ ha hk]
    have ih := S1_iss hl (i := i) (by omega)
    unfold f1
    rcases stepA_cases (p := p) (es := es) (now := now) (a := l[i]) (k := ks[i]) with ⟨_, e⟩ | ⟨_, nm, e, _⟩ | ⟨_, kn, ev, _, _, _, ⟨_, _, e⟩ | ⟨_, e⟩⟩
    · rw [e]; exact ih
    · rw [e]; simp only; rw [issued_app, ih]; rfl
    · rw [e]; simp only; rw [issued_app, ih]; rfl
    · rw [e]; exact ih
theorem S2_iss (hl : ks.length = l.length) : ∀ {k : Nat}, k ≤ es.length → (S2 p es now n0 l ks k).out.length = l.length + issued (S2 p es now n0 l ks k).bs
  | 0, _ => by
    show (S1 p es now n0 l ks l.length).out.length = l.length + issued (S1 p es now n0 l ks l.length).bs
    rw [S1_iss hl (Nat.le_refl _), (S1_len hl (Nat.le_refl _)).1]
    rfl
  | k + 1, h => by
    have he : es[k]? = some es[k] := List.getElem?_eq_getElem (by omega)
    rw [S2_succ he]
    have ih := S2_iss hl (k := k) (by omega)
    unfold f2
    split
    · exact ih
    · simp only
      rw [issued_app, List.length_append, ih]
      show l.length + issued _ + 1 = l.length + (issued _ + 1)
      omega
theorem stepA_keep {a : Alert} {k : Int} : (stepA p es now a k).1.id = a.id ∧ (a.wd = true → (stepA p es now a k).1 = a) := by
  rcases stepA_cases (p := p) (es := es) (now := now) (a := a) (k := k) with ⟨_, e⟩ | ⟨hw, nm, e, _⟩ | ⟨hw, kn, ev, _, _, _, ⟨_, _, e⟩ | ⟨_, e⟩⟩
  · rw [e]; exact ⟨rfl, fun _ => rfl⟩
  all_goals (rw [e]; exact ⟨rfl, fun h => by rw [hw] at h; cases h⟩)
end

theorem c4 {h : AHeap} {rv : AV} {xs : List Int} (hrv : IsInts rv xs) : ACalls PR 4 [rv] h fun u _ => u = .bool true := by
  refine fn_sound at4 ok4 (Nat.le_of_ble_eq_true rfl) (afn ?_)
  show AW _ C4 _ _
  unfold C4
  have hN : rv.names = none := by rcases hrv with ⟨rfl, _⟩ | ⟨t, rfl⟩ <;> rfl
  refine nav ?_
  apply acall monoR rfl (by simp only [List.all_cons, List.all_nil, AV.plain, hN]; rfl) (c6 hrv)
  rintro _ _ ⟨l, S, hl, rfl, rfl⟩
  refine ⟨rfl, ?_⟩
  refine nav ?_
  apply acall monoR rfl (by rfl) c7
  rintro _ _ ⟨⟨p, tp, rfl, hp⟩, k1, rfl⟩
  refine ⟨rfl, ?_⟩
  unfold Policy.enc
  refine nav ?_
  apply acall monoR rfl (by rfl) (n9 (by decide) (by decide))
  rintro _ _ ⟨⟨r, rfl, hr0, hr1⟩, k2, rfl⟩
  refine ⟨rfl, ?_⟩
  obtain ⟨n, rfl⟩ : ∃ n : Nat, r = n := ⟨r.toNat, by omega⟩
  refine nav ?_
  apply acall monoR rfl (by rfl) (c8 (p := p) (t := tp) (n := n) hp (by omega))
  rintro _ _ ⟨⟨lv, ls, number, now, rfl, hls, hli, hll, hnum, hnow⟩, k3, rfl⟩
  refine ⟨rfl, ?_⟩
  have hN : lv.names = none := hls.names
  refine nav ?_
  apply acall monoR rfl (by rfl) (n10 (most := 5) (by decide))
  rintro wv _ ⟨⟨es, ds, hw, hD⟩, k4, rfl⟩
  have hN : lv.names = none ∧ wv.names = none := ⟨hls.names, hw.names⟩
  refine ⟨by simp only [AV.plain, hN]; rfl, ?_⟩
  have hel := hD.len
  refine naw ?_
  apply acall monoR rfl (by rfl) (n9 (by decide) (by decide))
  rintro _ _ ⟨⟨dt, rfl, hd0, hd1⟩, k5, rfl⟩
  refine ⟨rfl, ?_⟩
  generalize h.set l (srcO S k5) = H
  refine naw ?_
  apply acallpp monoR rfl (by simp only [List.all_cons, List.all_nil, AV.plain, hN]; rfl) (c11 (p := p) (t := tp) hp hls hw (hli.mono (by omega)) (by omega) (by omega) (hD.evv (by decide)) hD.good hD.names (by omega) (by omega))
  rintro _ _ ⟨⟨ov, bv, ks, rfl, hov, hbv, hF, hkl, hNm⟩, rfl⟩
  have hinv := S2_inv (p := p) (es := es) (now := now + dt) (n0 := number) (l := ls) (ks := ks) hkl (hli.mono (by omega)) hD.good (by omega) (by omega) hF hD.names
  obtain ⟨hs1, hs2⟩ := S2_len (p := p) (es := es) (now := now + dt) (n0 := number) hkl (Nat.le_refl es.length)
  have hO := S2_Out (p := p) (es := es) (now := now + dt) (n0 := number) (l := ls) (ks := ks) hkl (Nat.le_refl es.length)
  have hiss := S2_iss (p := p) (es := es) (now := now + dt) (n0 := number) (l := ls) (ks := ks) hkl (Nat.le_refl es.length)
  have hlo := hO.len
  generalize S2 p es (now + dt) number ls ks es.length = st at *
  obtain ⟨out, bs⟩ := st
  simp only at hov hbv hinv hs1 hs2 hO hiss hlo
  have hN : lv.names = none ∧ wv.names = none ∧ ov.names = none ∧ bv.names = none := ⟨hls.names, hw.names, hov.names, hbv.names⟩
  refine ⟨rfl, rfl, ?_⟩
  refine naw ?_
  have hz : (!decide ((0 : Int) = 0)) = false := rfl
  have hnt : (!true) = false := rfl
  repeat' (first | refine nat1 ?_ | (apply aeqs rfl (by rfl) (by rfl); intro be hbe) | (apply gaeqs rfl (by first | assumption | with_reducible rfl) rfl (by rfl) (by rfl); intro be hbe) | refine gpassS1 rfl rfl rfl rfl rfl (fun _ => ?_) (fun _ => ?_) | refine gpassS0 rfl rfl rfl rfl rfl (fun _ => ?_) (fun _ => ?_) | refine psplitA rfl (fun _ => ?_) (fun _ => ?_) | refine acond rfl (fun _ => ?_) (fun _ => ?_))
  apply gcallpp rfl (by assumption) monoR rfl (by simp only [List.all_cons, List.all_nil, AV.plain, hN]; rfl) (c14 hov hinv (by omega) (by omega) (by omega))
  rintro _ _ ⟨rfl, rfl⟩
  refine ⟨rfl, rfl, ?_⟩
  repeat' (first | refine nat1 ?_ | (apply aeqs rfl (by rfl) (by rfl); intro be hbe) | (apply gaeqs rfl (by first | assumption | with_reducible rfl) rfl (by rfl) (by rfl); intro be hbe) | refine gpassS1 rfl rfl rfl rfl rfl (fun _ => ?_) (fun _ => ?_) | refine gpassS0 rfl rfl rfl rfl rfl (fun _ => ?_) (fun _ => ?_) | refine psplitA rfl (fun _ => ?_) (fun _ => ?_) | refine acond rfl (fun _ => ?_) (fun _ => ?_))
  apply galenS rfl (by assumption) rfl hov
  repeat' (first | refine nat1 ?_ | (apply aeqs rfl (by rfl) (by rfl); intro be hbe) | (apply gaeqs rfl (by first | assumption | with_reducible rfl) rfl (by rfl) (by rfl); intro be hbe) | refine gpassS1 rfl rfl rfl rfl rfl (fun _ => ?_) (fun _ => ?_) | refine gpassS0 rfl rfl rfl rfl rfl (fun _ => ?_) (fun _ => ?_) | refine psplitA rfl (fun _ => ?_) (fun _ => ?_) | refine acond rfl (fun _ => ?_) (fun _ => ?_))
  apply galenS rfl (by assumption) rfl hls
  have hlt0 : decide ((out.length : Int) < (ls.length : Int)) = false := decide_eq_false (by omega)
  repeat' (first | refine nat1 ?_ | (apply aeqs rfl (by rfl) (by rfl); intro be hbe) | (apply gaeqs rfl (by first | assumption | with_reducible rfl) rfl (by rfl) (by rfl); intro be hbe) | refine gpassS1 rfl rfl rfl rfl rfl (fun _ => ?_) (fun _ => ?_) | refine gpassS0 rfl rfl rfl rfl rfl (fun _ => ?_) (fun _ => ?_) | refine psplitA rfl (fun _ => ?_) (fun _ => ?_) | refine acond rfl (fun _ => ?_) (fun _ => ?_))
  apply alenS rfl hbv
  refine naw ?_
  refine aloop (fun q s => ∃ k : Nat, q + k = bs.length ∧ s = ⟨Env.of [(5, some lv), (8, some wv), (9, some ov), (12, some (.int .i64 (issued (bs.take k)))), (62, some bv), (63, some (.int .i64 bs.length)), (64, some (.int .i64 k))], Loc.of [], H⟩) bs.length ⟨0, by omega, rfl⟩ ?_
  rintro q s' ⟨k, hq, rfl⟩
  refine nav ?_
  refine acond rfl (fun hc => ?_) (fun hc => ?_)
  · have hlt : k < bs.length := by have := of_decide_eq_true hc; omega
    have hbk := List.getElem?_eq_getElem hlt
    have hsc := issued_succ hbk
    have hle := issued_le (bs.take k)
    rw [List.length_take] at hle
    obtain ⟨cs, t, c, rfl, hx, tb, hx2⟩ := hbv.at hbk
    have hxx : cs[k]? = some (buc bs[k] tb) := by rw [hx, hx2]
    generalize bs[k] = b at *
    unfold buc at hxx
    by_cases hkd : b.kind = 1
    · rw [if_pos hkd] at hsc
      have hdk : decide (b.kind = 1) = true := decide_eq_true hkd
      repeat' (first | refine nat1 ?_ | (apply aeqs rfl (by rfl) (by rfl); intro be hbe) | (apply gaeqs rfl (by first | assumption | with_reducible rfl) rfl (by rfl) (by rfl); intro be hbe) | refine gpassS1 rfl rfl rfl rfl rfl (fun _ => ?_) (fun _ => ?_) | refine gpassS0 rfl rfl rfl rfl rfl (fun _ => ?_) (fun _ => ?_) | refine psplitA rfl (fun _ => ?_) (fun _ => ?_) | refine acond rfl (fun _ => ?_) (fun _ => ?_))
      refine ql_n (q - 1) (by omega) ⟨k + 1, by omega, ?_⟩
      rw [hsc]
      rfl
    · rw [if_neg hkd] at hsc
      have hdk : decide (b.kind = 1) = false := decide_eq_false hkd
      repeat' (first | refine nat1 ?_ | (apply aeqs rfl (by rfl) (by rfl); intro be hbe) | (apply gaeqs rfl (by first | assumption | with_reducible rfl) rfl (by rfl) (by rfl); intro be hbe) | refine gpassS1 rfl rfl rfl rfl rfl (fun _ => ?_) (fun _ => ?_) | refine gpassS0 rfl rfl rfl rfl rfl (fun _ => ?_) (fun _ => ?_) | refine psplitA rfl (fun _ => ?_) (fun _ => ?_) | refine acond rfl (fun _ => ?_) (fun _ => ?_))
      refine ql_n (q - 1) (by omega) ⟨k + 1, by omega, ?_⟩
      rw [hsc]
      rfl
  · have hkb : k = bs.length := by have := of_decide_eq_false hc; omega
    subst hkb
    rw [List.take_length]
    have hile := issued_le bs
    clear hc hq
    refine nav ?_
    apply alenS rfl hls
    refine naw ?_
    refine aloop (fun q s => ∃ k : Nat, q + k = ls.length ∧ s = ⟨Env.of [(5, some lv), (8, some wv), (9, some ov), (12, some (.int .i64 (issued bs))), (75, some (.int .i64 ls.length)), (76, some (.int .i64 k))], Loc.of [], H⟩) ls.length ⟨0, by omega, rfl⟩ ?_
    rintro q s' ⟨i, hq, rfl⟩
    refine nav ?_
    refine acond rfl (fun hc => ?_) (fun hc => ?_)
    · have hlt : i < ls.length := by have := of_decide_eq_true hc; omega
      have hla := List.getElem?_eq_getElem hlt
      have hki : ks[i]? = some ks[i] := List.getElem?_eq_getElem (by omega)
      have hob := hO.old i _ _ hla hki
      obtain ⟨hid, hwk⟩ := stepA_keep (p := p) (es := es) (now := now + dt) (a := ls[i]) (k := ks[i])
      have hag := hli.good _ (List.getElem_mem hlt)
      obtain ⟨cs1, t1, c1, rfl, hx1, ta1, hx1'⟩ := hls.at hla
      obtain ⟨cs2, t2, c2, rfl, hx2, ta2, hx2'⟩ := hov.at hob
      generalize (stepA p es (now + dt) ls[i] ks[i]).1 = b at *
      generalize ls[i] = a at *
      have hxa : cs1[i]? = some (alc a ta1) := by rw [hx1, hx1']
      have hxb : cs2[i]? = some (alc b ta2) := by rw [hx2, hx2']
      have hcl1 : cs1.length = ls.length := by rcases hls with ⟨h, _⟩ | ⟨c, t, h, h2⟩; cases h; cases h; exact h2.len
      have hcl2 : cs2.length = out.length := by rcases hov with ⟨h, _⟩ | ⟨c, t, h, h2⟩; cases h; cases h; exact h2.len
      have hp1 : IsSl 38 IsAl (.sl 38 ((cs1.take (i + 1)).drop i) .no) [a] := IsSl.part hx1 ⟨ta1, hx1'⟩
      have hp2 : IsSl 38 IsAl (.sl 38 ((cs2.take (i + 1)).drop i) .no) [b] := IsSl.part hx2 ⟨ta2, hx2'⟩
      have hne : (!decide (a.id = b.id)) = false := by simp [hid]
      unfold alc at hxa hxb
      cases hwd : a.wd
      · rw [hwd] at hxa
        have hff : (false : Bool) = false := rfl
        repeat' (first | refine nat1 ?_ | (apply aeqs rfl (by rfl) (by rfl); intro be hbe) | (apply gaeqs rfl (by first | assumption | with_reducible rfl) rfl (by rfl) (by rfl); intro be hbe) | refine gpassS1 rfl rfl rfl rfl rfl (fun _ => ?_) (fun _ => ?_) | refine gpassS0 rfl rfl rfl rfl rfl (fun _ => ?_) (fun _ => ?_) | refine psplitA rfl (fun _ => ?_) (fun _ => ?_) | refine acond rfl (fun _ => ?_) (fun _ => ?_))
        refine ql_n (q - 1) (by omega) ⟨i + 1, by omega, rfl⟩
      · have hba := hwk hwd
        subst hba
        rw [hwd] at hxa
        have htt : (true : Bool) = true := rfl
        have k12 := c12 (h := H) hp1 hp2 (by simp) (by simp only [List.mem_singleton]; rintro x rfl; exact hag.small.2)
        repeat' (first | refine nat1 ?_ | (apply aeqs rfl (by rfl) (by rfl); intro be hbe) | (apply gaeqs rfl (by first | assumption | with_reducible rfl) rfl (by rfl) (by rfl); intro be hbe) | refine gpassS1 rfl rfl rfl rfl rfl (fun _ => ?_) (fun _ => ?_) | refine gpassS0 rfl rfl rfl rfl rfl (fun _ => ?_) (fun _ => ?_) | refine psplitA rfl (fun _ => ?_) (fun _ => ?_) | refine acond rfl (fun _ => ?_) (fun _ => ?_))
        apply gaslc (m := i) (n := i + 1) rfl htt rfl rfl (show (i : Int) + 1 = ((i + 1 : Nat) : Int) by omega) (by omega) (by omega)
        repeat' (first | refine nat1 ?_ | (apply aeqs rfl (by rfl) (by rfl); intro be hbe) | (apply gaeqs rfl (by first | assumption | with_reducible rfl) rfl (by rfl) (by rfl); intro be hbe) | refine gpassS1 rfl rfl rfl rfl rfl (fun _ => ?_) (fun _ => ?_) | refine gpassS0 rfl rfl rfl rfl rfl (fun _ => ?_) (fun _ => ?_) | refine psplitA rfl (fun _ => ?_) (fun _ => ?_) | refine acond rfl (fun _ => ?_) (fun _ => ?_))
        apply gaslc (m := i) (n := i + 1) rfl htt rfl rfl (show (i : Int) + 1 = ((i + 1 : Nat) : Int) by omega) (by omega) (by omega)
        repeat' (first | refine nat1 ?_ | (apply acallpp monoR rfl (by rfl) k12; rintro _ _ ⟨rfl, rfl⟩; refine ⟨rfl, rfl, ?_⟩) | (apply gcallpp rfl (by first | assumption | with_reducible rfl) monoR rfl (by rfl) k12; rintro _ _ ⟨rfl, rfl⟩; refine ⟨rfl, rfl, ?_⟩) | (refine gcallS1 rfl monoR rfl (by rfl) k12 (fun _ => ?_) (fun _ => ?_); rintro _ _ ⟨rfl, rfl⟩; refine ⟨rfl, rfl, ?_⟩) | (refine gcallS0 rfl monoR rfl (by rfl) k12 (fun _ => ?_) (fun _ => ?_); rintro _ _ ⟨rfl, rfl⟩; refine ⟨rfl, rfl, ?_⟩) | (apply aeqs rfl (by rfl) (by rfl); intro be hbe) | (apply gaeqs rfl (by first | assumption | with_reducible rfl) rfl (by rfl) (by rfl); intro be hbe) | refine gpassS1 rfl rfl rfl rfl rfl (fun _ => ?_) (fun _ => ?_) | refine gpassS0 rfl rfl rfl rfl rfl (fun _ => ?_) (fun _ => ?_) | refine psplitA rfl (fun _ => ?_) (fun _ => ?_) | refine acond rfl (fun _ => ?_) (fun _ => ?_))
        refine ql_n (q - 1) (by omega) ⟨i + 1, by omega, rfl⟩
    · clear hc hq
      refine nav ?_
      apply alenS rfl hw
      apply amkl rfl rfl rfl (by omega)
      refine nav ?_
      apply acallpp monoR rfl (by simp only [List.all_cons, List.all_nil, AV.plain, hN]; rfl) (c15 hov hw (by omega) (by omega) (fun a ha => (hinv.good a ha).small.2) (fun e he => (hD.good e he).small) hinv.nms hD.names)
      rintro fv _ ⟨⟨ks2, hks2, hF2, hkl2, hNm2⟩, rfl⟩
      have hN : lv.names = none ∧ wv.names = none ∧ ov.names = none ∧ bv.names = none ∧ fv.names = none := ⟨hls.names, hw.names, hov.names, hbv.names, hks2.names⟩
      refine ⟨rfl, by simp only [AV.plain, hN]; rfl, ?_⟩
      refine nav ?_
      apply alenS rfl hks2
      refine naw ?_
      refine aloop (fun q s => ∃ (i : Nat) (sn : List Bool), q + i = ks2.length ∧ (sn.length = es.length ∧ ∀ j : Nat, sn[j]? = some true ↔ (j < es.length ∧ (j : Int) ∈ ks2.take i)) ∧ s = ⟨Env.of [(5, some lv), (8, some wv), (9, some ov), (12, some (.int .i64 (issued bs))), (16, some (.lm 114 1 0 es.length)), (17, some fv), (118, some fv), (119, some (.int .i64 ks2.length)), (120, some (.int .i64 i))], Loc.of [(114, some (.arr 1 (bls sn)))], H⟩) ks2.length
        ⟨0, List.replicate es.length false, by omega, ⟨by simp, fun j => by simp [List.getElem?_replicate]⟩, by simp [bls]⟩ ?_
      rintro q s' ⟨i, sn, hq, hT, rfl⟩
      refine nav ?_
      refine acond rfl (fun hc => ?_) (fun hc => ?_)
      · have hlt : i < ks2.length := by have := of_decide_eq_true hc; omega
        have hki := List.getElem?_eq_getElem hlt
        have hkr := hF2.rng _ (List.mem_of_getElem? hki)
        have hob : out[i]? = some out[i] := List.getElem?_eq_getElem (by omega)
        have hwdk := hF2.wd i _ _ hki hob
        have hinj := fun j h0 hj => hF2.inj i j _ hki hj h0
        generalize ks2[i] = k at *
        have hd1 : decide (k < -1) = false := decide_eq_false (by omega)
        have hd2 : decide (k ≥ (es.length : Int)) = false := decide_eq_false (by omega)
        obtain ⟨cs2, t2, c2, rfl, hx2, ta2, hx2'⟩ := hov.at hob
        generalize out[i] = b at *
        have hxb : cs2[i]? = some (alc b ta2) := by rw [hx2, hx2']
        unfold alc at hxb
        by_cases hk0 : 0 ≤ k
        · obtain ⟨kn, rfl⟩ : ∃ kn : Nat, k = kn := ⟨k.toNat, by omega⟩
          have hkn : kn < es.length := by omega
          have hks : kn < sn.length := by rw [hT.1]; exact hkn
          have hd3 : decide ((kn : Int) ≥ 0) = true := decide_eq_true (by omega)
          have hd4 : decide ((i : Int) < (out.length : Int)) = true := decide_eq_true (by omega)
          have hwdb := hwdk hk0
          have hcl2 : cs2.length = out.length := by rcases hov with ⟨h, _⟩ | ⟨c, t, h, h2⟩; cases h; cases h; exact h2.len
          have hd5 : decide ((i : Int) < (cs2.length : Int)) = true := decide_eq_true (by omega)
          have hsn : sn[kn] = false := by
            cases hs : sn[kn]
            · rfl
            · have := ((hT.2 kn).1 (by rw [List.getElem?_eq_getElem hks, hs])).2
              obtain ⟨j, hj⟩ := List.getElem?_of_mem this
              rw [List.getElem?_take] at hj
              split at hj
              · have := hinj j hk0 hj; omega
              · cases hj
          have hbk : (bls sn)[0 + kn]? = some [.bool false] := by rw [Nat.zero_add, bls_get hks, hsn]
          rw [hwdb] at hxb
          have hff : (false : Bool) = false := rfl
          have htt : (true : Bool) = true := rfl
          refine nav ?_
          apply aixS rfl rfl hks2 hki
          rintro _ rfl
          repeat' (first | refine nat1 ?_ | (apply aeqs rfl (by rfl) (by rfl); intro be hbe) | (apply gaeqs rfl (by first | assumption | with_reducible rfl) rfl (by rfl) (by rfl); intro be hbe) | refine gpassS1 rfl rfl rfl rfl rfl (fun _ => ?_) (fun _ => ?_) | refine gpassS0 rfl rfl rfl rfl rfl (fun _ => ?_) (fun _ => ?_) | refine psplitA rfl (fun _ => ?_) (fun _ => ?_) | refine acond rfl (fun _ => ?_) (fun _ => ?_))
          apply galenS rfl (by assumption) rfl hw
          repeat' (first | refine nat1 ?_ | (apply aeqs rfl (by rfl) (by rfl); intro be hbe) | (apply gaeqs rfl (by first | assumption | with_reducible rfl) rfl (by rfl) (by rfl); intro be hbe) | refine gpassS1 rfl rfl rfl rfl rfl (fun _ => ?_) (fun _ => ?_) | refine gpassS0 rfl rfl rfl rfl rfl (fun _ => ?_) (fun _ => ?_) | refine psplitA rfl (fun _ => ?_) (fun _ => ?_) | refine acond rfl (fun _ => ?_) (fun _ => ?_))
          apply gaixl rfl (by assumption) rfl rfl hkn
          repeat' (first | refine nat1 ?_ | (apply aeqs rfl (by rfl) (by rfl); intro be hbe) | (apply gaeqs rfl (by first | assumption | with_reducible rfl) rfl (by rfl) (by rfl); intro be hbe) | refine gpassS1 rfl rfl rfl rfl rfl (fun _ => ?_) (fun _ => ?_) | refine gpassS0 rfl rfl rfl rfl rfl (fun _ => ?_) (fun _ => ?_) | refine psplitA rfl (fun _ => ?_) (fun _ => ?_) | refine acond rfl (fun _ => ?_) (fun _ => ?_))
          apply galdl rfl (by assumption) rfl rfl hbk rfl
          repeat' (first | refine nat1 ?_ | (apply aeqs rfl (by rfl) (by rfl); intro be hbe) | (apply gaeqs rfl (by first | assumption | with_reducible rfl) rfl (by rfl) (by rfl); intro be hbe) | refine gpassS1 rfl rfl rfl rfl rfl (fun _ => ?_) (fun _ => ?_) | refine gpassS0 rfl rfl rfl rfl rfl (fun _ => ?_) (fun _ => ?_) | refine psplitA rfl (fun _ => ?_) (fun _ => ?_) | refine acond rfl (fun _ => ?_) (fun _ => ?_))
          apply aixl rfl rfl hkn
          repeat' (first | refine nat1 ?_ | (apply aeqs rfl (by rfl) (by rfl); intro be hbe) | (apply gaeqs rfl (by first | assumption | with_reducible rfl) rfl (by rfl) (by rfl); intro be hbe) | refine gpassS1 rfl rfl rfl rfl rfl (fun _ => ?_) (fun _ => ?_) | refine gpassS0 rfl rfl rfl rfl rfl (fun _ => ?_) (fun _ => ?_) | refine psplitA rfl (fun _ => ?_) (fun _ => ?_) | refine acond rfl (fun _ => ?_) (fun _ => ?_))
          apply astE rfl (by rfl) (by rfl) rfl hbk (by simp)
          refine naw ?_
          refine ql_n (q - 1) (by omega) ⟨i + 1, sn.set kn true, by omega, ⟨by rw [List.length_set]; exact hT.1, fun j => ?_⟩, ?_⟩
          · rw [List.take_add_one, hki]
            by_cases hj : j = kn
            · subst hj
              rw [List.getElem?_set_self hks]
              simp [hkn]
            · rw [List.getElem?_set_ne (by omega), hT.2 j]
              simp; omega
          · rw [← bls_set]
            simp only [Nat.zero_add]
            rfl
        · have hd3 : decide (k ≥ 0) = false := decide_eq_false hk0
          have hff : (false : Bool) = false := rfl
          refine nav ?_
          apply aixS rfl rfl hks2 hki
          rintro _ rfl
          repeat' (first | refine nat1 ?_ | (apply aeqs rfl (by rfl) (by rfl); intro be hbe) | (apply gaeqs rfl (by first | assumption | with_reducible rfl) rfl (by rfl) (by rfl); intro be hbe) | refine gpassS1 rfl rfl rfl rfl rfl (fun _ => ?_) (fun _ => ?_) | refine gpassS0 rfl rfl rfl rfl rfl (fun _ => ?_) (fun _ => ?_) | refine psplitA rfl (fun _ => ?_) (fun _ => ?_) | refine acond rfl (fun _ => ?_) (fun _ => ?_))
          apply galenS rfl (by assumption) rfl hw
          repeat' (first | refine nat1 ?_ | (apply aeqs rfl (by rfl) (by rfl); intro be hbe) | (apply gaeqs rfl (by first | assumption | with_reducible rfl) rfl (by rfl) (by rfl); intro be hbe) | refine gpassS1 rfl rfl rfl rfl rfl (fun _ => ?_) (fun _ => ?_) | refine gpassS0 rfl rfl rfl rfl rfl (fun _ => ?_) (fun _ => ?_) | refine psplitA rfl (fun _ => ?_) (fun _ => ?_) | refine acond rfl (fun _ => ?_) (fun _ => ?_))
          refine ql_n (q - 1) (by omega) ⟨i + 1, sn, by omega, ⟨hT.1, fun j => ?_⟩, rfl⟩
          rw [List.take_add_one, hki, hT.2 j]
          simp; omega
      · have hd1 : decide ((out.length : Int) = (ls.length : Int) + (issued bs : Int)) = true := decide_eq_true (by omega)
        have hd2 : decide ((ks2.length : Int) = (out.length : Int)) = true := decide_eq_true (by omega)
        refine nav ?_
        apply alenS rfl hov
        refine nav ?_
        apply alenS rfl hls
        refine naw ?_
        apply galenS rfl (by assumption) rfl hks2
        repeat' (first | refine nat1 ?_ | (apply aeqs rfl (by rfl) (by rfl); intro be hbe) | (apply gaeqs rfl (by first | assumption | with_reducible rfl) rfl (by rfl) (by rfl); intro be hbe) | refine gpassS1 rfl rfl rfl rfl rfl (fun _ => ?_) (fun _ => ?_) | refine gpassS0 rfl rfl rfl rfl rfl (fun _ => ?_) (fun _ => ?_) | refine psplitA rfl (fun _ => ?_) (fun _ => ?_) | refine acond rfl (fun _ => ?_) (fun _ => ?_))
        apply galenS rfl (by assumption) rfl hov
        repeat' (first | refine nat1 ?_ | (apply acallpp monoR rfl (by rfl) c13; rintro _ _ ⟨rfl, rfl⟩; refine ⟨rfl, rfl, ?_⟩) | (apply gcallpp rfl (by first | assumption | with_reducible rfl) monoR rfl (by rfl) c13; rintro _ _ ⟨rfl, rfl⟩; refine ⟨rfl, rfl, ?_⟩) | (refine gcallS1 rfl monoR rfl (by rfl) c13 (fun _ => ?_) (fun _ => ?_); rintro _ _ ⟨rfl, rfl⟩; refine ⟨rfl, rfl, ?_⟩) | (refine gcallS0 rfl monoR rfl (by rfl) c13 (fun _ => ?_) (fun _ => ?_); rintro _ _ ⟨rfl, rfl⟩; refine ⟨rfl, rfl, ?_⟩) | (apply aeqs rfl (by rfl) (by rfl); intro be hbe) | (apply gaeqs rfl (by first | assumption | with_reducible rfl) rfl (by rfl) (by rfl); intro be hbe) | refine gpassS1 rfl rfl rfl rfl rfl (fun _ => ?_) (fun _ => ?_) | refine gpassS0 rfl rfl rfl rfl rfl (fun _ => ?_) (fun _ => ?_) | refine psplitA rfl (fun _ => ?_) (fun _ => ?_) | refine acond rfl (fun _ => ?_) (fun _ => ?_))
        apply qf rfl (by rfl) aheap_le
        exact rfl
end Go.Proofs.Ytkdphdcpofcnjaa

/- K45: seat 36: AlertKept: for every list of numbers the law returns true, and the list reads as it did. -/
namespace Go.Proofs.Ytkdphdcpofcnjaa
open Go Abs Go.ChangeShapes Go.WideShapes Go.ChangeAt Go.RowKit
set_option linter.unusedSimpArgs false
set_option linter.unusedVariables false

set_option maxRecDepth 100000 in
theorem alertKept_lifted (os : Os) (started : os.Started) (H : Type) (enc : TypeId × Value → H) :
    ReturnsInHanded {} Try.checked os 4 .any (Rows.alertKeptSpec.pre6 enc Try.prog Try.f4 Rows.alertKeptRow.domain false) (Rows.alertKeptSpec.post enc Try.prog Try.f4 false true false false) := by
  refine returnsInHanded_of_change (C := Try.checked) law_own started (by kernel_rfl) Try.func4
    (ChangeSpec.witness6 (enc := enc) (C := Try.checked) false ⟨#[], #[.slice none 0 0], []⟩ 8 (by kernel_rfl) (by kernel_rfl) (by kernel_rfl) (by kernel_rfl)) ?_
  intro W base args ds gs before hval0 hW hcnd _
  have hval : ∀ (j : Nat) t v, Try.f4.params[j]? = some t → args[j]? = some v → Value.okWide Try.prog W .any base t v := hval0
  have hW' := hW
  obtain ⟨p, q, hA0, hV, rfl, hfz, hnd⟩ := hW
  have hA : DataW.TrodAll enc Try.prog W 0 (fun _ => true) true Try.f4.params.toList args.toList ds p := hA0
  rw [Try.params4] at hA hval
  obtain ⟨v0, d0, rfl, rfl, h0⟩ := trodAll_one hA
  obtain ⟨rfl, rfl⟩ := trodVars_none hV
  obtain ⟨rv, xs, hrv, hrel⟩ := ints_arg (by exact hval 0 22 v0 rfl rfl) h0
  have hlt : ∀ x ∈ p, x.block < W.heap.size := fun x hx => hW'.lt x (by simpa using hx)
  refine (law_run (c4 hrv) (vrels_one hrel)).mono fun e W' ⟨he, hk⟩ => ?_
  subst he
  clear hA0 hval0
  simp only [List.append_nil] at hW'
  exact ⟨_, rfl, post_of_kept (pa := p) (pv := []) hW' (fun _ _ _ => trodAll_mk1 (shut_bool Try.underlying4 _))
    (fun sp hsp => trodAll_mk1 (WideElems.Trod_stays law_laidOut (by kernel_rfl) (of_decide_eq_true (by kernel_rfl)) h0 (fun x hx => kept_same hk (hlt x hx)) (fun x hx => hsp x hx))) (fun _ _ => rfl) (by simp)
    hk (ok_one (by kernel_rfl) rfl (okWide_bool_mk Try.underlying4 _))⟩

theorem alertKept_holds : Rows.AlertKeptSaid :=
  OpenClaim.holds_of_wide 4 Try.f4 rfl rfl rfl rfl rfl rfl rfl ⟨rfl, rfl, rfl, rfl, rfl⟩ rfl rfl rfl rfl rfl (by kernel_rfl) Try.func4 (by kernel_rfl)
    (of_decide_eq_true (by kernel_rfl)) (by unfold Func.isWrapper; first | (rw [if_pos (by decide +kernel)]; kernel_rfl) | (rw [if_neg (by decide +kernel)]; exact ⟨rfl, rfl⟩))
    (fun os started H enc _ => alertKept_lifted os started H enc)
end Go.Proofs.Ytkdphdcpofcnjaa
