/- Part of the proofs of the statements on alerts: texts that the last text is built on. -/
import Derived.Test.YtkdphdcpofcnjaaI2
/- K1: contracts of seat 36: numbers out of the source. -/
namespace Go.Proofs.Ytkdphdcpofcnjaa
/-- A wrapper, so that no search takes it. -/
structure Wr (p : Prop) : Prop where
  out : p
theorem nav {G G' : Prop} (k : G') (h : Wr G' → G := by intro hk; (repeat (first | apply abuild rfl (by simp only [buildV, elemsV, List.replicate_succ, List.replicate_zero, List.set_cons_succ, Nat.lt_add_one, Nat.zero_lt_succ, Nat.reduceLT, Nat.reduceMul, wrObj, wrElem, Loc.of, Loc.set, AV.cells, AV.fit, AV.one, List.length_cons, List.length_nil, List.take_succ_cons, List.take_zero, List.drop_succ_cons, List.drop_zero, List.cons_append, List.nil_append, List.getElem?_cons_zero, List.set_cons_zero, Nat.reduceAdd, Nat.reduceLeDiff, Nat.reduceEqDiff, and_self, if_true, Option.map_some, Option.bind_some, List.drop_nil, List.take_nil, List.append_nil]; rfl) | apply abslice rfl (by simp only [buildV, elemsV, List.replicate_succ, List.replicate_zero, List.set_cons_succ, Nat.lt_add_one, Nat.zero_lt_succ, Nat.reduceLT, Nat.reduceMul, wrObj, wrElem, Loc.of, Loc.set, AV.cells, AV.fit, AV.one, List.length_cons, List.length_nil, List.take_succ_cons, List.take_zero, List.drop_succ_cons, List.drop_zero, List.cons_append, List.nil_append, List.getElem?_cons_zero, List.set_cons_zero, Nat.reduceAdd, Nat.reduceLeDiff, Nat.reduceEqDiff, and_self, if_true, Option.map_some, Option.bind_some, List.drop_nil, List.take_nil, List.append_nil]; rfl) | apply apassE rfl rfl rfl rfl | apply ast rfl (by rfl) (by rfl) (by simp only [buildV, elemsV, List.replicate_succ, List.replicate_zero, List.set_cons_succ, Nat.lt_add_one, Nat.zero_lt_succ, Nat.reduceLT, Nat.reduceMul, wrObj, wrElem, Loc.of, Loc.set, AV.cells, AV.fit, AV.one, List.length_cons, List.length_nil, List.take_succ_cons, List.take_zero, List.drop_succ_cons, List.drop_zero, List.cons_append, List.nil_append, List.getElem?_cons_zero, List.set_cons_zero, Nat.reduceAdd, Nat.reduceLeDiff, Nat.reduceEqDiff, and_self, if_true, Option.map_some, Option.bind_some, List.drop_nil, List.take_nil, List.append_nil]; rfl) | apply astk rfl (by rfl) (by rfl) (by simp only [buildV, elemsV, List.replicate_succ, List.replicate_zero, List.set_cons_succ, Nat.lt_add_one, Nat.zero_lt_succ, Nat.reduceLT, Nat.reduceMul, wrObj, wrElem, Loc.of, Loc.set, AV.cells, AV.fit, AV.one, List.length_cons, List.length_nil, List.take_succ_cons, List.take_zero, List.drop_succ_cons, List.drop_zero, List.cons_append, List.nil_append, List.getElem?_cons_zero, List.set_cons_zero, Nat.reduceAdd, Nat.reduceLeDiff, Nat.reduceEqDiff, and_self, if_true, Option.map_some, Option.bind_some, List.drop_nil, List.take_nil, List.append_nil]; rfl) (by rfl) | apply aseq | apply aregion | apply askip | apply aret | apply aexit | apply ablock | apply qs_n | apply qs_e | apply qs_r | apply qb_n | apply qb_e rfl | apply qb_o rfl | apply qb_r | apply ql_e | apply ql_r | apply acondT rfl (by assumption) | apply acondF rfl (by assumption) | apply aend (by repeat (first | exact KeepR.nil | apply KeepR.some rfl | apply KeepR.none rfl)) (by repeat (first | exact LKeepR.nil | apply LKeepR.some rfl | apply LKeepR.none rfl)) (by first | rfl | (simp only [namesOk, hN]; rfl)) | apply gpassE rfl (by assumption) rfl rfl rfl rfl | apply gpass0 rfl (by assumption) rfl | apply apassU rfl | apply apickT rfl (by assumption) rfl | apply apickF rfl (by assumption) rfl | apply aldh rfl (by first | assumption | exact AHeap.os_set _ _ _) (by first | assumption | rfl) rfl | apply aixR rfl (by with_reducible rfl) (by assumption) | apply gaixR rfl (by assumption) rfl (by with_reducible rfl) (by assumption) | apply aixmR rfl (by with_reducible rfl) (by assumption) | apply aixm0 rfl (by with_reducible rfl) (by assumption) | apply aix0 rfl (by with_reducible rfl) (by assumption))); exact hk.out) : G := h ⟨k⟩
theorem naw {G G' : Prop} (k : G') (h : Wr G' → G := by intro hk; (repeat (first | apply aadd rfl (by omega) (by omega) | apply asub rfl (by omega) (by omega) | apply amul rfl (by omega) (by omega) | apply gaadd rfl (by first | assumption | with_reducible rfl) rfl (by omega) (by omega) | apply gasub rfl (by first | assumption | with_reducible rfl) rfl (by omega) (by omega) | apply gamul rfl (by first | assumption | with_reducible rfl) rfl (by omega) (by omega) | apply abuild rfl (by simp only [buildV, elemsV, List.replicate_succ, List.replicate_zero, List.set_cons_succ, Nat.lt_add_one, Nat.zero_lt_succ, Nat.reduceLT, Nat.reduceMul, wrObj, wrElem, Loc.of, Loc.set, AV.cells, AV.fit, AV.one, List.length_cons, List.length_nil, List.take_succ_cons, List.take_zero, List.drop_succ_cons, List.drop_zero, List.cons_append, List.nil_append, List.getElem?_cons_zero, List.set_cons_zero, Nat.reduceAdd, Nat.reduceLeDiff, Nat.reduceEqDiff, and_self, if_true, Option.map_some, Option.bind_some, List.drop_nil, List.take_nil, List.append_nil]; rfl) | apply abslice rfl (by simp only [buildV, elemsV, List.replicate_succ, List.replicate_zero, List.set_cons_succ, Nat.lt_add_one, Nat.zero_lt_succ, Nat.reduceLT, Nat.reduceMul, wrObj, wrElem, Loc.of, Loc.set, AV.cells, AV.fit, AV.one, List.length_cons, List.length_nil, List.take_succ_cons, List.take_zero, List.drop_succ_cons, List.drop_zero, List.cons_append, List.nil_append, List.getElem?_cons_zero, List.set_cons_zero, Nat.reduceAdd, Nat.reduceLeDiff, Nat.reduceEqDiff, and_self, if_true, Option.map_some, Option.bind_some, List.drop_nil, List.take_nil, List.append_nil]; rfl) | apply apassE rfl rfl rfl rfl | apply ast rfl (by rfl) (by rfl) (by simp only [buildV, elemsV, List.replicate_succ, List.replicate_zero, List.set_cons_succ, Nat.lt_add_one, Nat.zero_lt_succ, Nat.reduceLT, Nat.reduceMul, wrObj, wrElem, Loc.of, Loc.set, AV.cells, AV.fit, AV.one, List.length_cons, List.length_nil, List.take_succ_cons, List.take_zero, List.drop_succ_cons, List.drop_zero, List.cons_append, List.nil_append, List.getElem?_cons_zero, List.set_cons_zero, Nat.reduceAdd, Nat.reduceLeDiff, Nat.reduceEqDiff, and_self, if_true, Option.map_some, Option.bind_some, List.drop_nil, List.take_nil, List.append_nil]; rfl) | apply astk rfl (by rfl) (by rfl) (by simp only [buildV, elemsV, List.replicate_succ, List.replicate_zero, List.set_cons_succ, Nat.lt_add_one, Nat.zero_lt_succ, Nat.reduceLT, Nat.reduceMul, wrObj, wrElem, Loc.of, Loc.set, AV.cells, AV.fit, AV.one, List.length_cons, List.length_nil, List.take_succ_cons, List.take_zero, List.drop_succ_cons, List.drop_zero, List.cons_append, List.nil_append, List.getElem?_cons_zero, List.set_cons_zero, Nat.reduceAdd, Nat.reduceLeDiff, Nat.reduceEqDiff, and_self, if_true, Option.map_some, Option.bind_some, List.drop_nil, List.take_nil, List.append_nil]; rfl) (by rfl) | apply aseq | apply aregion | apply askip | apply aret | apply aexit | apply ablock | apply qs_n | apply qs_e | apply qs_r | apply qb_n | apply qb_e rfl | apply qb_o rfl | apply qb_r | apply ql_e | apply ql_r | apply acondT rfl (by assumption) | apply acondF rfl (by assumption) | apply aend (by repeat (first | apply aadd rfl (by omega) (by omega) | apply asub rfl (by omega) (by omega) | apply amul rfl (by omega) (by omega) | apply gaadd rfl (by first | assumption | with_reducible rfl) rfl (by omega) (by omega) | apply gasub rfl (by first | assumption | with_reducible rfl) rfl (by omega) (by omega) | apply gamul rfl (by first | assumption | with_reducible rfl) rfl (by omega) (by omega) | exact KeepR.nil | apply KeepR.some rfl | apply KeepR.none rfl)) (by repeat (first | apply aadd rfl (by omega) (by omega) | apply asub rfl (by omega) (by omega) | apply amul rfl (by omega) (by omega) | apply gaadd rfl (by first | assumption | with_reducible rfl) rfl (by omega) (by omega) | apply gasub rfl (by first | assumption | with_reducible rfl) rfl (by omega) (by omega) | apply gamul rfl (by first | assumption | with_reducible rfl) rfl (by omega) (by omega) | exact LKeepR.nil | apply LKeepR.some rfl | apply LKeepR.none rfl)) (by first | rfl | (simp only [namesOk, hN]; rfl)) | apply gpassE rfl (by assumption) rfl rfl rfl rfl | apply gpass0 rfl (by assumption) rfl | apply apassU rfl | apply apickT rfl (by assumption) rfl | apply apickF rfl (by assumption) rfl | apply aldh rfl (by first | assumption | exact AHeap.os_set _ _ _) (by first | assumption | rfl) rfl | apply aixR rfl (by with_reducible rfl) (by assumption) | apply gaixR rfl (by assumption) rfl (by with_reducible rfl) (by assumption) | apply aixmR rfl (by with_reducible rfl) (by assumption) | apply aixm0 rfl (by with_reducible rfl) (by assumption) | apply aix0 rfl (by with_reducible rfl) (by assumption))); exact hk.out) : G := h ⟨k⟩
theorem nat1 {G G' : Prop} (k : G') (h : Wr G' → G := by intro hk; (first | apply aadd rfl (by omega) (by omega) | apply asub rfl (by omega) (by omega) | apply amul rfl (by omega) (by omega) | apply gaadd rfl (by first | assumption | with_reducible rfl) rfl (by omega) (by omega) | apply gasub rfl (by first | assumption | with_reducible rfl) rfl (by omega) (by omega) | apply gamul rfl (by first | assumption | with_reducible rfl) rfl (by omega) (by omega) | apply abuild rfl (by simp only [buildV, elemsV, List.replicate_succ, List.replicate_zero, List.set_cons_succ, Nat.lt_add_one, Nat.zero_lt_succ, Nat.reduceLT, Nat.reduceMul, wrObj, wrElem, Loc.of, Loc.set, AV.cells, AV.fit, AV.one, List.length_cons, List.length_nil, List.take_succ_cons, List.take_zero, List.drop_succ_cons, List.drop_zero, List.cons_append, List.nil_append, List.getElem?_cons_zero, List.set_cons_zero, Nat.reduceAdd, Nat.reduceLeDiff, Nat.reduceEqDiff, and_self, if_true, Option.map_some, Option.bind_some, List.drop_nil, List.take_nil, List.append_nil]; rfl) | apply abslice rfl (by simp only [buildV, elemsV, List.replicate_succ, List.replicate_zero, List.set_cons_succ, Nat.lt_add_one, Nat.zero_lt_succ, Nat.reduceLT, Nat.reduceMul, wrObj, wrElem, Loc.of, Loc.set, AV.cells, AV.fit, AV.one, List.length_cons, List.length_nil, List.take_succ_cons, List.take_zero, List.drop_succ_cons, List.drop_zero, List.cons_append, List.nil_append, List.getElem?_cons_zero, List.set_cons_zero, Nat.reduceAdd, Nat.reduceLeDiff, Nat.reduceEqDiff, and_self, if_true, Option.map_some, Option.bind_some, List.drop_nil, List.take_nil, List.append_nil]; rfl) | apply apassE rfl rfl rfl rfl | apply ast rfl (by rfl) (by rfl) (by simp only [buildV, elemsV, List.replicate_succ, List.replicate_zero, List.set_cons_succ, Nat.lt_add_one, Nat.zero_lt_succ, Nat.reduceLT, Nat.reduceMul, wrObj, wrElem, Loc.of, Loc.set, AV.cells, AV.fit, AV.one, List.length_cons, List.length_nil, List.take_succ_cons, List.take_zero, List.drop_succ_cons, List.drop_zero, List.cons_append, List.nil_append, List.getElem?_cons_zero, List.set_cons_zero, Nat.reduceAdd, Nat.reduceLeDiff, Nat.reduceEqDiff, and_self, if_true, Option.map_some, Option.bind_some, List.drop_nil, List.take_nil, List.append_nil]; rfl) | apply astk rfl (by rfl) (by rfl) (by simp only [buildV, elemsV, List.replicate_succ, List.replicate_zero, List.set_cons_succ, Nat.lt_add_one, Nat.zero_lt_succ, Nat.reduceLT, Nat.reduceMul, wrObj, wrElem, Loc.of, Loc.set, AV.cells, AV.fit, AV.one, List.length_cons, List.length_nil, List.take_succ_cons, List.take_zero, List.drop_succ_cons, List.drop_zero, List.cons_append, List.nil_append, List.getElem?_cons_zero, List.set_cons_zero, Nat.reduceAdd, Nat.reduceLeDiff, Nat.reduceEqDiff, and_self, if_true, Option.map_some, Option.bind_some, List.drop_nil, List.take_nil, List.append_nil]; rfl) (by rfl) | apply aseq | apply aregion | apply askip | apply aret | apply aexit | apply ablock | apply qs_n | apply qs_e | apply qs_r | apply qb_n | apply qb_e rfl | apply qb_o rfl | apply qb_r | apply ql_e | apply ql_r | apply acondT rfl (by assumption) | apply acondF rfl (by assumption) | apply aend (by repeat (first | apply aadd rfl (by omega) (by omega) | apply asub rfl (by omega) (by omega) | apply amul rfl (by omega) (by omega) | apply gaadd rfl (by first | assumption | with_reducible rfl) rfl (by omega) (by omega) | apply gasub rfl (by first | assumption | with_reducible rfl) rfl (by omega) (by omega) | apply gamul rfl (by first | assumption | with_reducible rfl) rfl (by omega) (by omega) | exact KeepR.nil | apply KeepR.some rfl | apply KeepR.none rfl)) (by repeat (first | apply aadd rfl (by omega) (by omega) | apply asub rfl (by omega) (by omega) | apply amul rfl (by omega) (by omega) | apply gaadd rfl (by first | assumption | with_reducible rfl) rfl (by omega) (by omega) | apply gasub rfl (by first | assumption | with_reducible rfl) rfl (by omega) (by omega) | apply gamul rfl (by first | assumption | with_reducible rfl) rfl (by omega) (by omega) | exact LKeepR.nil | apply LKeepR.some rfl | apply LKeepR.none rfl)) (by first | rfl | (simp only [namesOk, hN]; rfl)) | apply gpassE rfl (by assumption) rfl rfl rfl rfl | apply gpass0 rfl (by assumption) rfl | apply apassU rfl | apply apickT rfl (by assumption) rfl | apply apickF rfl (by assumption) rfl | apply aldh rfl (by first | assumption | exact AHeap.os_set _ _ _) (by first | assumption | rfl) rfl | apply aixR rfl (by with_reducible rfl) (by assumption) | apply gaixR rfl (by assumption) rfl (by with_reducible rfl) (by assumption) | apply aixmR rfl (by with_reducible rfl) (by assumption) | apply aixm0 rfl (by with_reducible rfl) (by assumption) | apply aix0 rfl (by with_reducible rfl) (by assumption) | apply aeqsT rfl (by rfl) (by rfl) | apply gaeqsT rfl (by first | assumption | with_reducible rfl) rfl (by rfl) (by rfl) | apply galdh rfl (by first | assumption | with_reducible rfl) rfl (by first | assumption | exact AHeap.os_set _ _ _) (by first | assumption | rfl) rfl | apply aixz rfl (by omega) (by assumption) | apply gaixz rfl (by first | assumption | with_reducible rfl) rfl (by omega) (by assumption) | apply gpassE rfl (by first | assumption | with_reducible rfl) rfl rfl rfl rfl | apply gpass0 rfl (by first | assumption | with_reducible rfl) rfl | apply apickT rfl (by first | assumption | with_reducible rfl) rfl | apply apickF rfl (by first | assumption | with_reducible rfl) rfl | apply acondT rfl (by first | assumption | with_reducible rfl) | apply acondF rfl (by first | assumption | with_reducible rfl) | apply gpickT rfl (by first | assumption | with_reducible rfl) rfl (by first | assumption | with_reducible rfl) rfl | apply gpickF rfl (by first | assumption | with_reducible rfl) rfl (by first | assumption | with_reducible rfl) rfl); (repeat (first | apply aadd rfl (by omega) (by omega) | apply asub rfl (by omega) (by omega) | apply amul rfl (by omega) (by omega) | apply gaadd rfl (by first | assumption | with_reducible rfl) rfl (by omega) (by omega) | apply gasub rfl (by first | assumption | with_reducible rfl) rfl (by omega) (by omega) | apply gamul rfl (by first | assumption | with_reducible rfl) rfl (by omega) (by omega) | apply abuild rfl (by simp only [buildV, elemsV, List.replicate_succ, List.replicate_zero, List.set_cons_succ, Nat.lt_add_one, Nat.zero_lt_succ, Nat.reduceLT, Nat.reduceMul, wrObj, wrElem, Loc.of, Loc.set, AV.cells, AV.fit, AV.one, List.length_cons, List.length_nil, List.take_succ_cons, List.take_zero, List.drop_succ_cons, List.drop_zero, List.cons_append, List.nil_append, List.getElem?_cons_zero, List.set_cons_zero, Nat.reduceAdd, Nat.reduceLeDiff, Nat.reduceEqDiff, and_self, if_true, Option.map_some, Option.bind_some, List.drop_nil, List.take_nil, List.append_nil]; rfl) | apply abslice rfl (by simp only [buildV, elemsV, List.replicate_succ, List.replicate_zero, List.set_cons_succ, Nat.lt_add_one, Nat.zero_lt_succ, Nat.reduceLT, Nat.reduceMul, wrObj, wrElem, Loc.of, Loc.set, AV.cells, AV.fit, AV.one, List.length_cons, List.length_nil, List.take_succ_cons, List.take_zero, List.drop_succ_cons, List.drop_zero, List.cons_append, List.nil_append, List.getElem?_cons_zero, List.set_cons_zero, Nat.reduceAdd, Nat.reduceLeDiff, Nat.reduceEqDiff, and_self, if_true, Option.map_some, Option.bind_some, List.drop_nil, List.take_nil, List.append_nil]; rfl) | apply apassE rfl rfl rfl rfl | apply ast rfl (by rfl) (by rfl) (by simp only [buildV, elemsV, List.replicate_succ, List.replicate_zero, List.set_cons_succ, Nat.lt_add_one, Nat.zero_lt_succ, Nat.reduceLT, Nat.reduceMul, wrObj, wrElem, Loc.of, Loc.set, AV.cells, AV.fit, AV.one, List.length_cons, List.length_nil, List.take_succ_cons, List.take_zero, List.drop_succ_cons, List.drop_zero, List.cons_append, List.nil_append, List.getElem?_cons_zero, List.set_cons_zero, Nat.reduceAdd, Nat.reduceLeDiff, Nat.reduceEqDiff, and_self, if_true, Option.map_some, Option.bind_some, List.drop_nil, List.take_nil, List.append_nil]; rfl) | apply astk rfl (by rfl) (by rfl) (by simp only [buildV, elemsV, List.replicate_succ, List.replicate_zero, List.set_cons_succ, Nat.lt_add_one, Nat.zero_lt_succ, Nat.reduceLT, Nat.reduceMul, wrObj, wrElem, Loc.of, Loc.set, AV.cells, AV.fit, AV.one, List.length_cons, List.length_nil, List.take_succ_cons, List.take_zero, List.drop_succ_cons, List.drop_zero, List.cons_append, List.nil_append, List.getElem?_cons_zero, List.set_cons_zero, Nat.reduceAdd, Nat.reduceLeDiff, Nat.reduceEqDiff, and_self, if_true, Option.map_some, Option.bind_some, List.drop_nil, List.take_nil, List.append_nil]; rfl) (by rfl) | apply aseq | apply aregion | apply askip | apply aret | apply aexit | apply ablock | apply qs_n | apply qs_e | apply qs_r | apply qb_n | apply qb_e rfl | apply qb_o rfl | apply qb_r | apply ql_e | apply ql_r | apply acondT rfl (by assumption) | apply acondF rfl (by assumption) | apply aend (by repeat (first | apply aadd rfl (by omega) (by omega) | apply asub rfl (by omega) (by omega) | apply amul rfl (by omega) (by omega) | apply gaadd rfl (by first | assumption | with_reducible rfl) rfl (by omega) (by omega) | apply gasub rfl (by first | assumption | with_reducible rfl) rfl (by omega) (by omega) | apply gamul rfl (by first | assumption | with_reducible rfl) rfl (by omega) (by omega) | exact KeepR.nil | apply KeepR.some rfl | apply KeepR.none rfl)) (by repeat (first | apply aadd rfl (by omega) (by omega) | apply asub rfl (by omega) (by omega) | apply amul rfl (by omega) (by omega) | apply gaadd rfl (by first | assumption | with_reducible rfl) rfl (by omega) (by omega) | apply gasub rfl (by first | assumption | with_reducible rfl) rfl (by omega) (by omega) | apply gamul rfl (by first | assumption | with_reducible rfl) rfl (by omega) (by omega) | exact LKeepR.nil | apply LKeepR.some rfl | apply LKeepR.none rfl)) (by first | rfl | (simp only [namesOk, hN]; rfl)) | apply gpassE rfl (by assumption) rfl rfl rfl rfl | apply gpass0 rfl (by assumption) rfl | apply apassU rfl | apply apickT rfl (by assumption) rfl | apply apickF rfl (by assumption) rfl | apply aldh rfl (by first | assumption | exact AHeap.os_set _ _ _) (by first | assumption | rfl) rfl | apply aixR rfl (by with_reducible rfl) (by assumption) | apply gaixR rfl (by assumption) rfl (by with_reducible rfl) (by assumption) | apply aixmR rfl (by with_reducible rfl) (by assumption) | apply aixm0 rfl (by with_reducible rfl) (by assumption) | apply aix0 rfl (by with_reducible rfl) (by assumption) | apply aeqsT rfl (by rfl) (by rfl) | apply gaeqsT rfl (by first | assumption | with_reducible rfl) rfl (by rfl) (by rfl) | apply galdh rfl (by first | assumption | with_reducible rfl) rfl (by first | assumption | exact AHeap.os_set _ _ _) (by first | assumption | rfl) rfl | apply aixz rfl (by omega) (by assumption) | apply gaixz rfl (by first | assumption | with_reducible rfl) rfl (by omega) (by assumption) | apply gpassE rfl (by first | assumption | with_reducible rfl) rfl rfl rfl rfl | apply gpass0 rfl (by first | assumption | with_reducible rfl) rfl | apply apickT rfl (by first | assumption | with_reducible rfl) rfl | apply apickF rfl (by first | assumption | with_reducible rfl) rfl | apply acondT rfl (by first | assumption | with_reducible rfl) | apply acondF rfl (by first | assumption | with_reducible rfl) | apply gpickT rfl (by first | assumption | with_reducible rfl) rfl (by first | assumption | with_reducible rfl) rfl | apply gpickF rfl (by first | assumption | with_reducible rfl) rfl (by first | assumption | with_reducible rfl) rfl)); exact hk.out) : G := h ⟨k⟩
set_option linter.unusedSimpArgs false
set_option linter.unusedVariables false
open Go Abs
noncomputable abbrev PR := Go.Proofs.Try.prog
theorem monoR : Monotone (ACalls PR) := acalls_mono PR

def ints (xs : List Int) : List (List AV) := xs.map fun x => [.int .i64 x]
theorem ints_get {xs : List Int} {k : Nat} (h : k < xs.length) : (ints xs)[k]? = some [.int .i64 (xs[k])] := by
  simp [ints, List.getElem?_map, List.getElem?_eq_getElem h]
theorem ints_len (xs : List Int) : (ints xs).length = xs.length := by simp [ints]
theorem set_set (h : AHeap) (l : Nat) (a b : Option AObj) : (h.set l a).set l b = h.set l b := by
  unfold AHeap.set; congr 1; funext j; by_cases e : j = l <;> simp [e]

/-- A list of numbers, by its value. -/
def IsInts (rv : AV) (xs : List Int) : Prop := (rv = .nils ∧ xs = []) ∨ ∃ t, rv = .sl 1 (ints xs) t
/-- The source: its numbers; how many are used up stands beside it. -/
structure Src where
  rv : AV
  xs : List Int
  ok : IsInts rv xs
  small : xs.length < 2 ^ 62
def srcO (S : Src) (n : Nat) : Option AObj := some (.arr 2 [[S.rv, .int .i64 n]])
def rawS (S : Src) (n : Nat) : Int × Nat := if n < S.xs.length then (S.xs.getD n 0, n + 1) else (0, n)

theorem c22 {h : AHeap} {l : Nat} {S : Src} {n : Nat} :
    ACalls PR 22 [.hp l 0 0] (h.set l (srcO S n)) fun v h' => v = .int .i64 (rawS S n).1 ∧ h' = h.set l (srcO S (rawS S n).2) := by
  obtain ⟨rv, xs, hok, hl⟩ := S
  have ho : (h.set l (some (.arr 2 [[rv, .int .i64 n]]))).os l = some (.arr 2 [[rv, .int .i64 n]]) := AHeap.os_set _ _ _
  refine fn_sound at22 ok22 (by show 1 ≤ 31; decide) (afn ?_)
  show AW _ C22 _ _
  unfold C22
  simp only [srcO] at ho ⊢
  rcases hok with ⟨rfl, rfl⟩ | ⟨t, rfl⟩
  · refine nav ?_
    refine acondT rfl (by simp) ?_
    refine nav ?_
    apply qf rfl (by rfl) aheap_le
    exact ⟨by simp only [rawS]; rfl, by simp [rawS]⟩
  · refine nav ?_
    refine acond rfl (fun hc => ?_) (fun hc => ?_)
    · have hlt : ¬ n < xs.length := by simpa [ints_len] using hc
      refine nav ?_
      apply qf rfl (by rfl) aheap_le
      exact ⟨by simp only [rawS, if_neg hlt]; rfl, by simp only [rawS, if_neg hlt]⟩
    · have hlt : n < xs.length := by simpa [ints_len] using hc
      refine nav ?_
      rw [wrap64 (by omega) (by omega)]
      apply asth rfl (by rfl) (by rfl) (by simp only [ho]; rfl)
      refine nav ?_
      rw [show ((n : Int) + 1 - 1) = n from by omega, wrap64 (by omega) (by omega)]
      have he := ints_get hlt
      refine nav ?_
      apply qf rfl (by rfl) aheap_le
      simp only [rawS, if_pos hlt]
      rw [set_set]
      refine ⟨by simp [resV, List.getD, List.getElem?_eq_getElem hlt], rfl⟩

def modS (x n : Int) : Int := if n < 1 then 0 else if x.tmod n < 0 then x.tmod n + n else x.tmod n

theorem c21 {h : AHeap} {x n : Int} (hn : n ≤ 9223372036854775807) : ACalls PR 21 [.int .i64 x, .int .i64 n] h fun v h' => v = .int .i64 (modS x n) ∧ h' = h := by
  refine fn_sound at21 ok21 (by show 2 ≤ 16; decide) (afn ?_)
  show AW _ C21 _ _
  unfold C21
  refine nav ?_
  refine acond rfl (fun hc => ?_) (fun hc => ?_)
  · have hlt : n < 1 := of_decide_eq_true hc
    refine nav ?_
    apply qf rfl (by rfl) aheap_le
    exact ⟨by simp only [modS, if_pos hlt]; rfl, by simp only [modS, if_pos hlt]⟩
  · have hlt : ¬ n < 1 := of_decide_eq_false hc
    have hn0 : n ≠ 0 := by omega
    have hb := Int.tmod_lt_of_pos x (show 0 < n by omega)
    have hb2 : -n < x.tmod n := by
      have := Int.tmod_lt_of_pos (-x) (show 0 < n by omega)
      rw [Int.neg_tmod] at this
      omega
    refine nav ?_
    apply arem rfl hn0
    refine nav ?_
    refine acond rfl (fun hd => ?_) (fun hd => ?_)
    · have hneg : x.tmod n < 0 := of_decide_eq_true hd
      refine nav ?_
      rw [wrap64 (by omega) (by omega)]
      apply qf rfl (by rfl) aheap_le
      exact ⟨by simp only [modS, if_neg hlt, if_pos hneg]; rfl, by simp only [modS, if_neg hlt, if_pos hneg]⟩
    · have hneg : ¬ x.tmod n < 0 := of_decide_eq_false hd
      refine nav ?_
      apply qf rfl (by rfl) aheap_le
      exact ⟨by simp only [modS, if_neg hlt, if_neg hneg]; rfl, by simp only [modS, if_neg hlt, if_neg hneg]⟩

theorem c9 {h : AHeap} {l : Nat} {S : Src} {k : Nat} {n : Int} (hn : n ≤ 9223372036854775807) :
    ACalls PR 9 [.hp l 0 0, .int .i64 n] (h.set l (srcO S k)) fun v h' => v = .int .i64 (modS (rawS S k).1 n) ∧ h' = h.set l (srcO S (rawS S k).2) := by
  refine fn_sound at9 ok9 (by show 2 ≤ 9; decide) (afn ?_)
  show AW _ C9 _ _
  unfold C9
  refine nav ?_
  apply acall monoR rfl (by rfl) c22
  rintro _ _ ⟨rfl, rfl⟩
  refine ⟨rfl, ?_⟩
  refine nav ?_
  apply acallq rfl monoR (by rfl) (c21 hn) (fun u h' hu => hu) (by rfl)
  refine nav ?_
  apply qf rfl (by rfl) aheap_le
  exact ⟨rfl, rfl⟩

theorem modS_in {x n : Int} (hn : 1 ≤ n) : 0 ≤ modS x n ∧ modS x n < n := by
  have hb := Int.tmod_lt_of_pos x (show 0 < n by omega)
  have hb2 : -n < x.tmod n := by
    have := Int.tmod_lt_of_pos (-x) (show 0 < n by omega)
    rw [Int.neg_tmod] at this
    omega
  unfold modS
  split
  · omega
  · split <;> omega

/-- What the source's functions leave: the source, further on. -/
def Left (h : AHeap) (l : Nat) (S : Src) (R : AV → Prop) (v : AV) (h' : AHeap) : Prop := R v ∧ ∃ k, h' = h.set l (srcO S k)

theorem n9 {h : AHeap} {l : Nat} {S : Src} {k : Nat} {n : Int} (h1 : 1 ≤ n) (hn : n ≤ 9223372036854775807) :
    ACalls PR 9 [.hp l 0 0, .int .i64 n] (h.set l (srcO S k)) (Left h l S fun v => ∃ r, v = .int .i64 r ∧ 0 ≤ r ∧ r < n) :=
  (c9 hn).mono fun v h' ⟨e1, e2⟩ => ⟨⟨_, e1, modS_in h1⟩, _, e2⟩
end Go.Proofs.Ytkdphdcpofcnjaa

/- K2: contracts of seat 36: New, Pick, Place, Source. -/
namespace Go.Proofs.Ytkdphdcpofcnjaa
set_option linter.unusedSimpArgs false
set_option linter.unusedVariables false
open Go Abs

theorem c19 {h : AHeap} {l : Nat} {S : Src} {k : Nat} {xs : List Int} {t : Tag} (hne : xs ≠ []) (hl : xs.length ≤ 1000) :
    ACalls PR 19 [.hp l 0 0, .sl 1 (ints xs) t] (h.set l (srcO S k)) (Left h l S fun v => ∃ x ∈ xs, v = .int .i64 x) := by
  have hpos : 0 < xs.length := List.length_pos_iff.2 hne
  refine fn_sound at19 ok19 (by show 2 ≤ 12; decide) (afn ?_)
  show AW _ C19 _ _
  unfold C19
  refine nav ?_
  have hll := ints_len xs
  apply acall monoR rfl (by rfl) (n9 (by rw [hll]; omega) (by rw [hll]; omega))
  rintro _ _ ⟨⟨r, rfl, h0, h1⟩, k', rfl⟩
  refine ⟨rfl, ?_⟩
  obtain ⟨j, rfl⟩ : ∃ j : Nat, r = j := ⟨r.toNat, by omega⟩
  have hj : j < xs.length := by rw [hll] at h1; omega
  have he := ints_get hj
  refine nav ?_
  apply qf rfl (by rfl) aheap_le
  exact ⟨⟨_, List.getElem_mem hj, rfl⟩, _, rfl⟩

theorem c43 {h : AHeap} {l : Nat} {S : Src} {k : Nat} {m : Int} (h0 : 0 ≤ m) (h1 : m ≤ 1000000) :
    ACalls PR 43 [.hp l 0 0, .int .i64 m] (h.set l (srcO S k)) (Left h l S fun v => ∃ x y z, v = .agg [.int .i64 x, .int .i64 y, .int .i64 z] ∧ (-m ≤ x ∧ x ≤ m) ∧ (-m ≤ y ∧ y ≤ m) ∧ 0 ≤ z ∧ z ≤ m) := by
  refine fn_sound at43 ok43 (by show 2 ≤ 24; decide) (afn ?_)
  show AW _ C43 _ _
  unfold C43
  refine nav ?_
  rw [wrap64 (a := 2 * m) (by omega) (by omega), wrap64 (by omega) (by omega)]
  apply acall monoR rfl (by rfl) (n9 (by omega) (by omega))
  rintro _ _ ⟨⟨x, rfl, hx0, hx1⟩, k1, rfl⟩
  refine ⟨rfl, ?_⟩
  refine nav ?_
  rw [wrap64 (a := 2 * m) (by omega) (by omega), wrap64 (a := 2 * m + 1) (by omega) (by omega), wrap64 (by omega) (by omega)]
  apply acall monoR rfl (by rfl) (n9 (by omega) (by omega))
  rintro _ _ ⟨⟨y, rfl, hy0, hy1⟩, k2, rfl⟩
  refine ⟨rfl, ?_⟩
  refine nav ?_
  rw [wrap64 (a := m + 1) (by omega) (by omega), wrap64 (by omega) (by omega)]
  apply acall monoR rfl (by rfl) (n9 (by omega) (by omega))
  rintro _ _ ⟨⟨z, rfl, hz0, hz1⟩, k3, rfl⟩
  refine ⟨rfl, ?_⟩
  refine nav ?_
  apply qf rfl (by rfl) aheap_le
  exact ⟨⟨_, _, _, rfl, by omega, by omega, by omega, by omega⟩, _, rfl⟩

def sbytes (s : List UInt8) : ByteArray := ⟨s.toArray⟩
/-- The stations' names. -/
def stations : List (List AV) := [[.str ⟨#[83, 49]⟩], [.str ⟨#[83, 50]⟩], [.str ⟨#[83, 51]⟩], [.str ⟨#[83, 52]⟩], [.str ⟨#[83, 53]⟩], [.str ⟨#[83, 54]⟩]]
def srcCells (j : Nat) : List AV := [.str ⟨#[65, 66]⟩, .str ⟨#[83, 49 + j.toUInt8]⟩, .str ⟨#[48, 48]⟩, .str ⟨#[66, 72, 90]⟩]

theorem c31 {h : AHeap} {n : Int} (h0 : 0 ≤ n) : ACalls PR 31 [.int .i64 n] h fun v h' => (∃ j : Nat, v = .agg (srcCells j) ∧ j < 6 ∧ (j : Int) = n % 6) ∧ h' = h := by
  refine fn_sound at31 ok31 (by show 1 ≤ 9; decide) (afn ?_)
  show AW _ C31 _ _
  unfold C31
  refine nav ?_
  apply acallq rfl monoR (by rfl) (c21 (by decide)) (fun u h' hu => hu) (by rfl)
  have hm : modS n 6 = n % 6 := by
    unfold modS
    rw [if_neg (by decide), Int.tmod_eq_emod_of_nonneg h0, if_neg (by omega)]
  rw [hm]
  obtain ⟨j, hj⟩ : ∃ j : Nat, n % 6 = j := ⟨(n % 6).toNat, by omega⟩
  have hj6 : j < 6 := by omega
  rw [hj]
  have he : ∃ e, stations[j]? = some e ∧ e = [.str ⟨#[83, 49 + j.toUInt8]⟩] := by
    match j, hj6 with
    | 0, _ => exact ⟨_, rfl, rfl⟩
    | 1, _ => exact ⟨_, rfl, rfl⟩
    | 2, _ => exact ⟨_, rfl, rfl⟩
    | 3, _ => exact ⟨_, rfl, rfl⟩
    | 4, _ => exact ⟨_, rfl, rfl⟩
    | 5, _ => exact ⟨_, rfl, rfl⟩
  obtain ⟨e, he, rfl⟩ := he
  apply aix rfl he
  refine nav ?_
  apply qf rfl (by rfl) aheap_le
  exact ⟨⟨j, rfl, hj6, rfl⟩, rfl⟩
end Go.Proofs.Ytkdphdcpofcnjaa

/- K3: contracts of seat 36: Policy. -/
namespace Go.Proofs.Ytkdphdcpofcnjaa
set_option linter.unusedSimpArgs false
set_option linter.unusedVariables false
open Go Abs

structure Rule where
  mag : Int
  picks : Int
  misfit : Int
  window : Int
def Rule.enc (r : Rule) : List AV := [.int .i64 r.mag, .int .i64 r.picks, .int .i64 r.misfit, .int .i64 r.window]
def Rule.good (r : Rule) : Prop := (-1000 ≤ r.mag ∧ r.mag ≤ 2000) ∧ (1 ≤ r.picks ∧ r.picks ≤ 4) ∧ (0 ≤ r.misfit ∧ r.misfit ≤ 10000) ∧ (0 ≤ r.window ∧ r.window ≤ 100000)
structure Policy where
  rules : List Rule
  distance : Int
  every : Int
def Policy.good (p : Policy) : Prop := (1 ≤ p.rules.length ∧ p.rules.length ≤ 3) ∧ (∀ r ∈ p.rules, r.good) ∧ (0 ≤ p.distance ∧ p.distance ≤ 1000) ∧ (0 ≤ p.every ∧ p.every ≤ 500)
def Policy.enc (p : Policy) (t : Tag) : List AV := [.sl 4 (p.rules.map Rule.enc) t, .int .i64 p.distance, .int .i64 p.every]

theorem mem_small {P : Int → Prop} {xs : List Int} (h : ∀ x ∈ xs, P x) {x : Int} (hx : x ∈ xs) : P x := h x hx

theorem c7 {h : AHeap} {l : Nat} {S : Src} {k : Nat} :
    ACalls PR 7 [.hp l 0 0] (h.set l (srcO S k)) (Left h l S fun v => ∃ p t, v = .agg (Policy.enc p t) ∧ p.good) := by
  refine fn_sound at7 ok7 (by show 1 ≤ 38; decide) (afn ?_)
  show AW _ C7 _ _
  unfold C7
  refine nav ?_
  apply acall monoR rfl (by rfl) (c19 (xs := [0, 2, 10, 1000]) (t := .full) (by decide) (by decide))
  rintro _ _ ⟨⟨d, hd, rfl⟩, k1, rfl⟩
  refine ⟨rfl, ?_⟩
  refine nav ?_
  apply acall monoR rfl (by rfl) (c19 (xs := [0, 0, 50, 500]) (t := .full) (by decide) (by decide))
  rintro _ _ ⟨⟨e, he, rfl⟩, k2, rfl⟩
  refine ⟨rfl, ?_⟩
  refine nav ?_
  apply acall monoR rfl (by rfl) (n9 (by decide) (by decide))
  rintro _ _ ⟨⟨n, rfl, hn0, hn1⟩, k3, rfl⟩
  refine ⟨rfl, ?_⟩
  refine nav ?_
  rw [wrap64 (by omega) (by omega)]
  obtain ⟨N, hN⟩ : ∃ N : Nat, 1 + n = N := ⟨(1 + n).toNat, by omega⟩
  rw [hN]
  refine aloop (fun q s => ∃ (rs : List Rule) (rv : AV) (al : List Nat) (k : Nat), q + rs.length = N ∧ (∀ r ∈ rs, r.good) ∧ ((rs = [] ∧ rv = .nils ∧ al = h.al) ∨ ∃ t, rv = .sl 4 (rs.map Rule.enc) (.tok t) ∧ al = t :: h.al) ∧
    s = ⟨Env.of [(0, some (.hp l 0 0)), (2, some (.lp 2 0 0)), (3, some (.lp 3 0 0)), (4, some (.int .i64 q))], Loc.of [(2, some (.arr 3 [[.nils, .int .i64 0, .int .i64 0]])), (3, some (.arr 3 [[rv, .int .i64 d, .int .i64 e]]))], (h.tok al).set l (srcO S k)⟩) N
    ⟨[], .nils, h.al, k3, by simp, by simp, .inl ⟨rfl, rfl, rfl⟩, rfl⟩ ?_
  rintro q s' ⟨rs, rv, al, k, hq, hg, hrv, rfl⟩
  have hfit : rv.fit = true ∧ rv.cells = [rv] := by rcases hrv with ⟨_, rfl, _⟩ | ⟨t, rfl, _⟩ <;> exact ⟨rfl, rfl⟩
  refine nav ?_
  refine acond rfl (fun hc => ?_) (fun hc => ?_)
  · have hq0 : 0 < q := by have := of_decide_eq_true hc; omega
    refine nav ?_
    apply acall monoR rfl (by rfl) (n9 (by decide) (by decide))
    rintro _ _ ⟨⟨r1, rfl, hr10, hr11⟩, k4, rfl⟩
    refine ⟨rfl, ?_⟩
    refine nav ?_
    apply acall monoR rfl (by rfl) (n9 (by decide) (by decide))
    rintro _ _ ⟨⟨r2, rfl, hr20, hr21⟩, k5, rfl⟩
    refine ⟨rfl, ?_⟩
    refine nav ?_
    apply acall monoR rfl (by rfl) (c19 (xs := [0, 10, 100, 10000]) (t := .full) (by decide) (by decide))
    rintro _ _ ⟨⟨r3, hr3, rfl⟩, k6, rfl⟩
    refine ⟨rfl, ?_⟩
    refine nav ?_
    apply acall monoR rfl (by rfl) (c19 (xs := [0, 500, 2000, 100000]) (t := .full) (by decide) (by decide))
    rintro _ _ ⟨⟨r4, hr4, rfl⟩, k7, rfl⟩
    refine ⟨rfl, ?_⟩
    refine nav ?_
    rw [wrap64 (by omega) (by omega), wrap64 (by omega) (by omega)]
    have hnew : Rule.good ⟨r1 - 100, 1 + r2, r3, r4⟩ := by
      refine ⟨⟨by simp only; omega, by simp only; omega⟩, ⟨by simp only; omega, by simp only; omega⟩, ?_, ?_⟩
      · simp only [List.mem_cons, List.not_mem_nil, or_false] at hr3; rcases hr3 with rfl | rfl | rfl | rfl <;> exact ⟨by simp only; omega, by simp only; omega⟩
      · simp only [List.mem_cons, List.not_mem_nil, or_false] at hr4; rcases hr4 with rfl | rfl | rfl | rfl <;> exact ⟨by simp only; omega, by simp only; omega⟩
    have hlen : rs.length ≤ 3 := by omega
    obtain ⟨tg, htg, hrx, hal, hsp⟩ : ∃ tg : Tag, tg ≠ .no ∧ ((rv = .nils ∧ rs.map Rule.enc = [] ∧ tg = .full) ∨ rv = .sl 4 (rs.map Rule.enc) tg) ∧ (∀ t, tg = .tok t → t ∈ al) ∧ tg.spend al = h.al := by
      rcases hrv with ⟨rfl, rfl, rfl⟩ | ⟨t, rfl, rfl⟩
      · exact ⟨.full, by simp, .inl ⟨rfl, rfl, rfl⟩, by simp, rfl⟩
      · exact ⟨.tok t, by simp, .inr rfl, by simp, by simp [Tag.spend]⟩
    apply aapp (tg := tg) (xs := rs.map Rule.enc) (ys := [Rule.enc ⟨r1 - 100, 1 + r2, r3, r4⟩]) (tg' := .full) rfl hrx (by simp) (by simp; omega) htg hal
    intro t ht
    refine nav ?_
    have hsp' : tg.spend ((h.tok al).set l (srcO S k7)).al = h.al := hsp
    rw [wrap64 (by omega) (by omega), hsp', show ((q : Int) - 1) = ((q - 1 : Nat) : Int) from by omega,
      show rs.map Rule.enc ++ [Rule.enc ⟨r1 - 100, 1 + r2, r3, r4⟩] = (rs ++ [(⟨r1 - 100, 1 + r2, r3, r4⟩ : Rule)]).map Rule.enc from by simp]
    refine ql_n (q - 1) (by omega) ⟨rs ++ [⟨r1 - 100, 1 + r2, r3, r4⟩], _, t :: h.al, k7, by simp; omega, fun r hr => ?_, .inr ⟨t, rfl, rfl⟩, rfl⟩
    rcases List.mem_append.1 hr with hr | hr
    · exact hg r hr
    · simp only [List.mem_singleton] at hr; subst hr; exact hnew
  · have hq0 : q = 0 := by have := of_decide_eq_false hc; omega
    subst hq0
    have hrs : rs ≠ [] := fun e => by subst e; simp at hq; omega
    obtain ⟨t, rfl, rfl⟩ : ∃ t, rv = .sl 4 (rs.map Rule.enc) (.tok t) ∧ al = t :: h.al := by
      rcases hrv with ⟨e, _⟩ | e
      · exact absurd e hrs
      · exact e
    refine nav ?_
    apply qf (h' := h.set l (srcO S k)) rfl (by rfl) ⟨fun _ _ h => h, List.sublist_cons_self _ _⟩
    refine ⟨⟨⟨rs, d, e⟩, .tok t, rfl, ⟨?_, ?_⟩, hg, ?_, ?_⟩, k, rfl⟩
    · have := List.length_pos_iff.2 hrs; exact this
    · simp only; omega
    · simp only [List.mem_cons, List.not_mem_nil, or_false] at hd; rcases hd with rfl | rfl | rfl | rfl <;> exact ⟨by simp only; omega, by simp only; omega⟩
    · simp only [List.mem_cons, List.not_mem_nil, or_false] at he; rcases he with rfl | rfl | rfl | rfl <;> exact ⟨by simp only; omega, by simp only; omega⟩
end Go.Proofs.Ytkdphdcpofcnjaa

/- K4: contracts of seat 36: New. -/
namespace Go.Proofs.Ytkdphdcpofcnjaa
set_option linter.unusedVariables false
open Go Abs
set_option linter.unusedSimpArgs false

theorem ints_take (xs : List Int) (n : Nat) : (ints xs).take n = ints (xs.take n) := by simp [ints, List.map_take]

theorem c6 {h : AHeap} {rv : AV} {xs : List Int} (hrv : IsInts rv xs) :
    ACalls PR 6 [rv] h fun v h' => ∃ (l : Nat) (S : Src), h.os l = none ∧ v = .hp l 0 0 ∧ h' = h.set l (srcO S 0) := by
  refine fn_sound at6 ok6 (by show 1 ≤ 10; decide) (afn ?_)
  show AW _ C6 _ _
  unfold C6
  rcases hrv with ⟨rfl, rfl⟩ | ⟨t, rfl⟩
  · refine nav ?_
    apply aboxh rfl (by rfl)
    intro l hl
    refine nav ?_
    apply qf rfl (by rfl) aheap_le
    exact ⟨l, ⟨.nils, [], .inl ⟨rfl, rfl⟩, by simp⟩, hl, rfl, rfl⟩
  · refine nav ?_
    obtain ⟨m, hm, hm1, hm2⟩ : ∃ m : Nat, (if false = true then max ((ints xs).length : Int) 2000 else min ((ints xs).length : Int) 2000) = m ∧ m ≤ (ints xs).length ∧ m ≤ 2000 := by
      refine ⟨min (ints xs).length 2000, ?_, Nat.min_le_left _ _, Nat.min_le_right _ _⟩
      simp only [Bool.false_eq_true, if_false]
      omega
    rw [hm]
    apply aslc_hi rfl hm1
    rw [ints_take]
    refine nav ?_
    apply aboxh rfl (by rfl)
    intro l hl
    refine nav ?_
    apply qf rfl (by rfl) aheap_le
    exact ⟨l, ⟨.sl 1 (ints (xs.take m)) .no, xs.take m, .inr ⟨_, rfl⟩, by simp; omega⟩, hl, rfl, rfl⟩
end Go.Proofs.Ytkdphdcpofcnjaa

/- K5: contracts of seat 36: Event. -/
namespace Go.Proofs.Ytkdphdcpofcnjaa
set_option linter.unusedVariables false
open Go Abs
set_option linter.unusedSimpArgs false
set_option maxHeartbeats 4000000

structure Pick where
  net : ByteArray
  sta : ByteArray
  loc : ByteArray
  cha : ByteArray
  time : Int
  early : Int
  late : Int
  amp : Int
  pol : Int
def Pick.enc (p : Pick) : List AV := [.str p.net, .str p.sta, .str p.loc, .str p.cha, .int .i64 p.time, .int .i64 p.early, .int .i64 p.late, .int .i64 p.amp, .int .i64 p.pol]
/-- The j-th station's pick. -/
def pickAt (j : Nat) (t e l a : Int) : Pick := ⟨⟨#[65, 66]⟩, ⟨#[83, 49 + j.toUInt8]⟩, ⟨#[48, 48]⟩, ⟨#[66, 72, 90]⟩, t, e, l, a, 0⟩

/-- What keep.Event answers: its cells but for the picks; these lie in a mutable array. -/
structure EvN where
  px : Int
  py : Int
  pz : Int
  time : Int
  misfit : Int
  low : Int
  high : Int
  count : Int
def EvN.good (e : EvN) : Prop := (-20 ≤ e.px ∧ e.px ≤ 20) ∧ (-20 ≤ e.py ∧ e.py ≤ 20) ∧ (0 ≤ e.pz ∧ e.pz ≤ 20) ∧ (0 ≤ e.time ∧ e.time ≤ 2000) ∧ (0 ≤ e.misfit ∧ e.misfit ≤ 500) ∧ (0 ≤ e.count ∧ e.count ≤ 2) ∧ (0 ≤ e.low ∧ e.low ≤ e.high ∧ e.high ≤ 1000)
def EvN.rest (e : EvN) : List AV := [.int .i64 e.px, .int .i64 e.py, .int .i64 e.pz, .int .i64 e.time, .int .i64 e.misfit, .int .i64 0, .int .i64 e.px, .int .i64 e.py, .int .i64 e.pz, .int .i64 e.px, .int .i64 e.py, .int .i64 e.pz, .int .i64 e.low, .int .i64 e.high, .int .i64 e.count]

theorem set_comm' (h : AHeap) {l l' : Nat} (hne : l ≠ l') (a b : Option AObj) : (h.set l a).set l' b = (h.set l' b).set l a := by
  unfold AHeap.set
  congr 1
  funext j
  by_cases e : j = l
  · subst e; simp [hne]
  · by_cases e2 : j = l'
    · subst e2; simp [Ne.symm hne]
    · simp [e, e2]

theorem set_none (h : AHeap) {l : Nat} (hl : h.os l = none) : h.set l none = h := by
  unfold AHeap.set
  have : (fun j => if j = l then none else h.os j) = h.os := by
    funext j
    by_cases e : j = l
    · subst e; simp [hl]
    · simp [e]
  rw [this]
theorem os_ne (h : AHeap) {l j : Nat} (o : Option AObj) (hne : j ≠ l) : (h.set l o).os j = h.os j := by simp [AHeap.set, hne]

theorem rows_snoc {rows : List (List AV)} {n : Nat} {row : List AV} (h3 : rows.length = n) (h5 : ∀ (j : Nat) (r : List AV), rows[j]? = some r → ∃ t e l a, r = (pickAt j t e l a).enc) (hrow : ∃ t e l a, row = (pickAt n t e l a).enc) :
    ∀ (j : Nat) (r : List AV), (rows ++ [row])[j]? = some r → ∃ t e l a, r = (pickAt j t e l a).enc := fun j r hj => by
  by_cases hlt : j < rows.length
  · rw [List.getElem?_append_left hlt] at hj; exact h5 j r hj
  · rw [List.getElem?_append_right (by omega)] at hj
    have hj0 : j - rows.length = 0 := by
      have := (List.getElem?_eq_some_iff.1 hj).1
      simp at this; omega
    rw [hj0] at hj
    simp at hj
    subst hj
    have : j = n := by omega
    subst this; exact hrow

/-- The cells of the event under way. -/
def evCells (nm : List AV) (pv : AV) (rest : List AV) : List AV := nm ++ pv :: rest
def zs9 : List AV := [.str ⟨#[]⟩, .str ⟨#[]⟩, .str ⟨#[]⟩, .str ⟨#[]⟩, .int .i64 0, .int .i64 0, .int .i64 0, .int .i64 0, .int .i64 0]
def zs15 : List AV := [.int .i64 0, .int .i64 0, .int .i64 0, .int .i64 0, .int .i64 0, .int .i64 0, .int .i64 0, .int .i64 0, .int .i64 0, .int .i64 0, .int .i64 0, .int .i64 0, .int .i64 0, .int .i64 0, .int .i64 0]

/-- The picks under way: none, or a mutable array. -/
def PicksAt (h : AHeap) (l : Nat) (S : Src) (n : Nat) (pv : AV) (H : AHeap) : Prop :=
  (n = 0 ∧ pv = .nils ∧ ∃ k, H = h.set l (srcO S k)) ∨
  ∃ (l2 c : Nat) (rows rest : List (List AV)) (k : Nat), pv = .hm l2 9 0 n c ∧ rows.length = n ∧ c = n + rest.length ∧ (∀ (j : Nat) (r : List AV), rows[j]? = some r → ∃ t e l a, r = (pickAt j t e l a).enc) ∧ l2 ≠ l ∧ h.os l2 = none ∧
    H = (h.set l2 (some (.arr 9 (rows ++ rest)))).set l (srcO S k)

theorem PicksAt.src {h : AHeap} {l : Nat} {S : Src} {n : Nat} {pv : AV} {H : AHeap} (p : PicksAt h l S n pv H) : ∃ h0 k, H = AHeap.set h0 l (srcO S k) ∧ ∀ k', PicksAt h l S n pv (h0.set l (srcO S k')) := by
  rcases p with ⟨h1, h2, k, rfl⟩ | ⟨l2, c, rows, rest, k, h1, h2, h3, h4, h5, h6, rfl⟩
  · exact ⟨h, k, rfl, fun k' => .inl ⟨h1, h2, k', rfl⟩⟩
  · exact ⟨_, k, rfl, fun k' => .inr ⟨l2, c, rows, rest, k', h1, h2, h3, h4, h5, h6, rfl⟩⟩

theorem c23 {h : AHeap} {l : Nat} {S : Src} {k : Nat} (hl0 : h.os l = none) :
    ACalls PR 23 [.hp l 0 0, .int .i64 1] (h.set l (srcO S k)) fun v h' => ∃ (nm : Pick) (e : EvN) (l2 c : Nat) (n : Nat) (rows rest : List (List AV)) (k' : Nat),
      v = .agg (nm.enc ++ .hm l2 9 0 n c :: e.rest) ∧ e.good ∧ (1 ≤ n ∧ n ≤ 4) ∧ rows.length = n ∧ c = n + rest.length ∧ (∀ j r, rows[j]? = some r → ∃ t e l a, r = (pickAt j t e l a).enc) ∧
      l2 ≠ l ∧ h.os l2 = none ∧ h' = (h.set l (srcO S k')).set l2 (some (.arr 9 (rows ++ rest))) := by
  refine fn_sound at23 ok23 (by show 2 ≤ 98; decide) (afn ?_)
  show AW _ C23 _ _
  unfold C23
  refine nav ?_
  apply acall monoR rfl (by rfl) (n9 (by decide) (by decide))
  rintro _ _ ⟨⟨t0, rfl, ht0, ht1⟩, k1, rfl⟩
  refine ⟨rfl, ?_⟩
  refine nav ?_
  rw [wrap64 (by omega) (by omega)]
  refine aloop (fun q s => ∃ (n : Nat) (pv : AV) (H : AHeap), q + n = 4 ∧ PicksAt h l S n pv H ∧
    s = ⟨Env.of [(0, some (.hp l 0 0)), (1, some (.int .i64 1)), (4, some (.lp 4 0 0)), (5, some (.lp 5 0 0)), (6, some (.int .i64 (1000 + t0))), (7, some (.int .i64 n))], Loc.of [(4, some (.arr 25 [zs9 ++ .nils :: zs15])), (5, some (.arr 25 [zs9 ++ pv :: zs15]))], H⟩) 4
    ⟨0, .nils, _, rfl, .inl ⟨rfl, rfl, k1, rfl⟩, rfl⟩ ?_
  rintro q s' ⟨n, pv, H, hq, hp, rfl⟩
  have hpv : pv.fit = true ∧ pv.cells = [pv] := by rcases hp with ⟨_, rfl, _⟩ | ⟨l2, c, rows, rest, k, rfl, _⟩ <;> exact ⟨rfl, rfl⟩
  obtain ⟨h0, k2, rfl, hset⟩ := hp.src
  refine nav ?_
  apply acall monoR rfl (by rfl) (n9 (by decide) (by decide))
  rintro _ _ ⟨⟨r, rfl, hr0, hr1⟩, k3, rfl⟩
  refine ⟨rfl, ?_⟩
  refine nav ?_
  rw [wrap64 (by omega) (by omega)]
  refine acond rfl (fun hc => ?_) (fun hc => ?_)
  · have hn4 : n < 4 := by have := of_decide_eq_true hc; omega
    refine nav ?_
    apply acallpp monoR rfl (by rfl) (c31 (by omega))
    rintro _ _ ⟨⟨j, rfl, hj6, hjn⟩, rfl⟩
    have hjn' : j = n := by omega
    subst hjn'
    refine ⟨rfl, rfl, ?_⟩
    unfold srcCells
    refine nav ?_
    apply acall monoR rfl (by rfl) (n9 (by decide) (by decide))
    rintro _ _ ⟨⟨r2, rfl, hr20, hr21⟩, k4, rfl⟩
    refine ⟨rfl, ?_⟩
    refine nav ?_
    have hp4 := hset k4
    generalize hH : h0.set l (srcO S k4) = H at hp4 ⊢
    rcases hp4 with ⟨rfl, rfl, k', rfl⟩ | ⟨l2, c, rows, rest, k', rfl, h3, h4, h5, h6, h7, rfl⟩
    · apply aappm0 rfl (.inl rfl) (by simp) (by simp)
      intro l2 c hl2 hc2
      refine nav ?_
      have hne : l2 ≠ l := by
        rintro rfl
        simp [AHeap.os_set, srcO] at hl2
      have hl2' : h.os l2 = none := by simpa [AHeap.set, hne] using hl2
      rw [wrap64 (a := ((0 : Nat) : Int) + 1) (by omega) (by omega)]
      have hc2' : 1 ≤ c := hc2
      refine ql_n (q - 1) (by omega) ⟨1, _, _, by omega, .inr ⟨l2, c, [_], _, k', rfl, rfl, ?_, fun j r hj => ?_, hne, hl2', set_comm' h (Ne.symm hne) _ _⟩, rfl⟩
      · simp only [List.length_replicate, List.length_cons, List.length_nil]; omega
      · cases j with
        | zero => simp only [List.getElem?_cons_zero, Option.some.injEq] at hj; subst hj; exact ⟨_, _, _, _, rfl⟩
        | succ j => simp at hj
    · have ho : ((h.set l2 (some (.arr 9 (rows ++ rest)))).set l (srcO S k')).os l2 = some (.arr 9 (rows ++ rest)) := by rw [os_ne _ _ h6, AHeap.os_set]
      have htk : (rows ++ rest).take j = rows := by rw [← h3, List.take_left]
      apply aappm1 (l := l2) (xs := rows ++ rest) rfl ho (by omega) (by simp [h3]; omega) (by simp) (by simp; omega)
      · intro hroom
        rw [htk, show (rows ++ rest).drop (j + [_].length) = rest.drop 1 from by rw [List.drop_append]; simp [h3]]
        refine nav ?_
        rw [wrap64 (a := (j : Int) + 1) (by omega) (by omega), set_comm' _ (Ne.symm h6), set_set]
        have hr1' : j + 1 ≤ c := hroom
        refine ql_n (q - 1) (by omega) ⟨j + 1, _, _, by omega, .inr ⟨l2, c, rows ++ [_], rest.drop 1, k', rfl, by simp [h3], by simp; omega, fun j' r' hj' => ?_, h6, h7, rfl⟩, rfl⟩
        exact rows_snoc h3 h5 ⟨_, _, _, _, rfl⟩ j' r' hj'
      · intro hroom l3 c3 hl3 hc3
        rw [htk]
        have hl3l : l3 ≠ l := by rintro rfl; simp [AHeap.os_set, srcO] at hl3
        have hl32 : l3 ≠ l2 := by rintro rfl; rw [ho] at hl3; cases hl3
        have hl3' : h.os l3 = none := by rw [os_ne _ _ hl3l, os_ne _ _ hl32] at hl3; exact hl3
        refine nav ?_
        rw [wrap64 (a := (j : Int) + 1) (by omega) (by omega), set_comm' _ (Ne.symm h6), set_set, set_none _ h7, set_comm' _ (Ne.symm hl3l)]
        have hc3' : j + 1 ≤ c3 := hc3
        refine ql_n (q - 1) (by omega) ⟨j + 1, _, _, by omega, .inr ⟨l3, c3, rows ++ [_], _, k', rfl, by simp [h3], ?_, fun j' r' hj' => ?_, hl3l, hl3', rfl⟩, rfl⟩
        · simp only [List.length_replicate, List.length_cons, List.length_nil]; omega
        · exact rows_snoc h3 h5 ⟨_, _, _, _, rfl⟩ j' r' hj'
  · have hn1 : 1 ≤ n := by have := of_decide_eq_false hc; omega
    have hp3 := hset k3
    generalize hH : h0.set l (srcO S k3) = H at hp3 ⊢
    obtain ⟨l2, c, rows, rest, k', rfl, h3, h4, h5, h6, h7, rfl⟩ : ∃ (l2 c : Nat) (rows rest : List (List AV)) (k : Nat), pv = .hm l2 9 0 n c ∧ rows.length = n ∧ c = n + rest.length ∧ (∀ (j : Nat) (r : List AV), rows[j]? = some r → ∃ t e l a, r = (pickAt j t e l a).enc) ∧ l2 ≠ l ∧ h.os l2 = none ∧
      H = (h.set l2 (some (.arr 9 (rows ++ rest)))).set l (srcO S k) := by
      rcases hp3 with ⟨rfl, _⟩ | hp3
      · omega
      · exact hp3
    have ho : ((h.set l2 (some (.arr 9 (rows ++ rest)))).set l (srcO S k')).os l2 = some (.arr 9 (rows ++ rest)) := by rw [os_ne _ _ h6, AHeap.os_set]
    have hn0 : 0 < n := hn1
    obtain ⟨row0, hrow0⟩ : ∃ r, (rows ++ rest)[0]? = some r := by
      cases rows with
      | nil => simp at h3; omega
      | cons r rs => exact ⟨r, rfl⟩
    obtain ⟨t', e', l', a', rfl⟩ := h5 0 row0 (by rw [← hrow0, List.getElem?_append_left (by omega)])
    simp only [Pick.enc, pickAt] at hrow0
    unfold zs9 zs15
    simp only [List.cons_append, List.nil_append]
    refine naw ?_
    apply acall monoR rfl (by rfl) (c43 (by decide) (by decide))
    rintro _ _ ⟨⟨px, py, pz, rfl, ⟨hpx0, hpx1⟩, ⟨hpy0, hpy1⟩, hpz0, hpz1⟩, k5, rfl⟩
    refine ⟨rfl, ?_⟩
    refine naw ?_
    apply acall monoR rfl (by rfl) (n9 (by decide) (by decide))
    rintro _ _ ⟨⟨r5, rfl, hr50, hr51⟩, k6, rfl⟩
    refine ⟨rfl, ?_⟩
    refine naw ?_
    apply acall monoR rfl (by rfl) (c19 (xs := [0, 0, 5, 500]) (t := .full) (by decide) (by decide))
    rintro _ _ ⟨⟨mf, hmf, rfl⟩, k7, rfl⟩
    refine ⟨rfl, ?_⟩
    refine naw ?_
    apply acall monoR rfl (by rfl) (n9 (by decide) (by decide))
    rintro _ _ ⟨⟨r6, rfl, hr60, hr61⟩, k8, rfl⟩
    refine ⟨rfl, ?_⟩
    have hmf' : 0 ≤ mf ∧ mf ≤ 500 := by simp only [List.mem_cons, List.not_mem_nil, or_false] at hmf; omega
    refine naw ?_
    refine acond rfl (fun hc2 => ?_) (fun hc2 => ?_)
    · refine naw ?_
      apply acall monoR rfl (by rfl) (n9 (by decide) (by decide))
      rintro _ _ ⟨⟨r7, rfl, hr70, hr71⟩, k9, rfl⟩
      refine ⟨rfl, ?_⟩
      refine naw ?_
      apply acall monoR rfl (by rfl) (n9 (by decide) (by decide))
      rintro _ _ ⟨⟨r8, rfl, hr80, hr81⟩, k10, rfl⟩
      refine ⟨rfl, ?_⟩
      refine naw ?_
      apply qf rfl (by rfl) aheap_le
      exact ⟨pickAt 0 t' e' l' a', ⟨px, py, pz, 1000 + t0 - r5, mf, r7, r7 + r8, r6⟩, l2, c, n, rows, rest, k10, rfl, by simp only [EvN.good]; omega, by omega, h3, h4, h5, h6, h7, set_comm' _ h6 _ _⟩
    · refine naw ?_
      apply qf rfl (by rfl) aheap_le
      exact ⟨pickAt 0 t' e' l' a', ⟨px, py, pz, 1000 + t0 - r5, mf, 0, 0, r6⟩, l2, c, n, rows, rest, k8, rfl, by simp only [EvN.good]; omega, by omega, h3, h4, h5, h6, h7, set_comm' _ h6 _ _⟩
end Go.Proofs.Ytkdphdcpofcnjaa

/- K6: contracts of seat 36: Events. -/
namespace Go.Proofs.Ytkdphdcpofcnjaa
set_option linter.unusedVariables false
open Go Abs
set_option linter.unusedSimpArgs false
set_option maxHeartbeats 4000000

/-- Two lists, element by element. -/
inductive All2 {α β : Type} (P : α → β → Prop) : List α → List β → Prop
  | nil : All2 P [] []
  | cons {x : α} {y : β} {a : List α} {b : List β} (h : P x y) (t : All2 P a b) : All2 P (x :: a) (y :: b)
section
variable {α β γ : Type} {P : α → β → Prop}
theorem All2.snoc {a : List α} {b : List β} {x : α} {y : β} (h : All2 P a b) (hx : P x y) : All2 P (a ++ [x]) (b ++ [y]) := by
  induction h with
  | nil => exact .cons hx .nil
  | cons h1 _ ih => exact .cons h1 ih
theorem All2.len {a : List α} {b : List β} (h : All2 P a b) : a.length = b.length := by
  induction h with
  | nil => rfl
  | cons _ _ ih => simp [ih]
theorem All2.get {a : List α} {b : List β} (h : All2 P a b) : ∀ (k : Nat) {y : β}, b[k]? = some y → ∃ x, a[k]? = some x ∧ P x y := by
  induction h with
  | nil => intro k y hy; simp at hy
  | cons h1 _ ih =>
    intro k y hy
    cases k with
    | zero => simp at hy; subst hy; exact ⟨_, rfl, h1⟩
    | succ k => simp at hy; obtain ⟨x, h2, h3⟩ := ih k hy; exact ⟨x, by simpa using h2, h3⟩
theorem All2.get' {a : List α} {b : List β} (h : All2 P a b) {k : Nat} (hk : k < a.length) : ∃ x y, a[k]? = some x ∧ b[k]? = some y ∧ P x y := by
  have hk' : k < b.length := by rw [← h.len]; exact hk
  obtain ⟨x, h1, h2⟩ := h.get k (List.getElem?_eq_getElem hk')
  exact ⟨x, _, h1, List.getElem?_eq_getElem hk', h2⟩
theorem All2.ofMap {f : β → α} (l : List β) (h : ∀ y ∈ l, P (f y) y) : All2 P (l.map f) l := by
  induction l with
  | nil => exact .nil
  | cons y l ih => exact .cons (h y (by simp)) (ih fun z hz => h z (by simp [hz]))
theorem All2.of_get {a : List α} : ∀ {b : List β}, a.length = b.length → (∀ (k : Nat) x y, a[k]? = some x → b[k]? = some y → P x y) → All2 P a b := by
  induction a with
  | nil => intro b hl h; cases b with
    | nil => exact .nil
    | cons y b => simp at hl
  | cons x a ih => intro b hl h; cases b with
    | nil => simp at hl
    | cons y b => exact .cons (h 0 x y rfl rfl) (ih (by simpa using hl) fun k x y h1 h2 => h (k + 1) x y (by simpa using h1) (by simpa using h2))
theorem All2.set {a : List α} {b : List β} (h : All2 P a b) (k : Nat) {x : α} {y : β} (hx : P x y) : All2 P (a.set k x) (b.set k y) := by
  induction h generalizing k with
  | nil => exact .nil
  | cons h1 t ih => cases k with
    | zero => exact .cons hx t
    | succ k => exact .cons h1 (ih k)
theorem All2.mono {Q : α → β → Prop} {a : List α} {b : List β} (h : All2 P a b) (hPQ : ∀ x y, P x y → Q x y) : All2 Q a b := by
  induction h with
  | nil => exact .nil
  | cons h1 _ ih => exact .cons (hPQ _ _ h1) ih
end

structure Event where
  name : Pick
  picks : List Pick
  e : EvN
/-- An event's cells. -/
def IsEv (c : List AV) (v : Event) : Prop := ∃ t, c = v.name.enc ++ .sl 9 (v.picks.map Pick.enc) t :: v.e.rest
/-- A slice's value, by what its elements are. -/
def IsSl {α : Type} (s : Nat) (P : List AV → α → Prop) (v : AV) (l : List α) : Prop := (v = .nils ∧ l = []) ∨ ∃ cs t, v = .sl s cs t ∧ All2 P cs l

/-- An event of the source, by its numbers. -/
structure EvD where
  n : Nat
  i0 : Nat
  cnt : Nat
  e : EvN
def EvD.ok (d : EvD) : Prop := d.i0 ≤ 1 ∧ 1 ≤ d.cnt ∧ d.i0 + d.cnt ≤ 4 ∧ d.e.good
def evPick (n i : Nat) : Pick := pickAt i (1000 + 400 * (n : Int) + i) (1000 + 400 * (n : Int) + i) (1000 + 400 * (n : Int) + i + 2) 7
def EvD.pick (d : EvD) (i : Nat) : Pick := evPick d.n i
def EvD.ev (d : EvD) : Event := ⟨d.pick d.i0, (List.range' d.i0 d.cnt).map d.pick, d.e⟩

theorem rows_eq {n c : Nat} {rows : List (List AV)} (hl : rows.length = c) (h : ∀ j, j < c → rows[j]? = some (evPick n j).enc) : rows = (List.range' 0 c).map fun j => (evPick n j).enc := by
  apply List.ext_getElem?
  intro j
  by_cases hj : j < c
  · rw [h j hj, List.getElem?_map, List.getElem?_range' (by omega)]; simp
  · rw [List.getElem?_eq_none (by omega), List.getElem?_eq_none (by simp; omega)]

theorem c10 {h : AHeap} {l : Nat} {S : Src} {k : Nat} {most : Nat} (hm : most ≤ 5) :
    ACalls PR 10 [.hp l 0 0, .int .i64 most] (h.set l (srcO S k)) (Left h l S fun v => ∃ ds : List EvD, IsSl 25 IsEv v (ds.map EvD.ev) ∧ ds.Pairwise (fun a b => a.n < b.n) ∧ ∀ d ∈ ds, d.ok ∧ d.n < most) := by
  refine fn_sound at10 ok10 (by show 2 ≤ 86; decide) (afn ?_)
  show AW _ C10 _ _
  unfold C10
  refine nav ?_
  refine aloop (fun q s => ∃ (n : Nat) (ds : List EvD) (rv : AV) (al : List Nat) (k : Nat), q + n = most ∧ ds.Pairwise (fun a b => a.n < b.n) ∧ (∀ d ∈ ds, d.ok ∧ d.n < n) ∧ ds.length ≤ n ∧
      ((rv = .nils ∧ ds = [] ∧ al = h.al) ∨ ∃ cs t, rv = .sl 25 cs (.tok t) ∧ al = t :: h.al ∧ All2 IsEv cs (ds.map EvD.ev)) ∧
      s = ⟨Env.of [(0, some (.hp l 0 0)), (1, some (.int .i64 most)), (5, some rv), (6, some (.int .i64 n))], Loc.of [], (h.tok al).set l (srcO S k)⟩) most
    ⟨0, [], .nils, h.al, k, by omega, .nil, by simp, by simp, .inl ⟨rfl, rfl, rfl⟩, rfl⟩ ?_
  rintro q s' ⟨n, ds, rv, al, k1, hq, hpw, hok, hdn, hrv, rfl⟩
  have hN : rv.names = none := by rcases hrv with ⟨rfl, _⟩ | ⟨cs, t, rfl, _⟩ <;> rfl
  refine nav ?_
  refine acond rfl (fun hc => ?_) (fun hc => ?_)
  · have hnm : n < most := by have := of_decide_eq_true hc; omega
    refine nav ?_
    apply acall monoR rfl (by rfl) (n9 (by decide) (by decide))
    rintro _ _ ⟨⟨r, rfl, hr0, hr1⟩, k2, rfl⟩
    refine ⟨rfl, ?_⟩
    refine nav ?_
    refine acond rfl (fun hd => ?_) (fun hd => ?_)
    · refine nav ?_
      rw [wrap64 (by omega) (by omega)]
      exact ql_n (q - 1) (by omega) ⟨n + 1, ds, rv, al, k2, by omega, hpw, fun d hd => ⟨(hok d hd).1, by have := (hok d hd).2; omega⟩, by omega, hrv, rfl⟩
    · refine nav ?_
      have hset : (h.tok al).set l (srcO S k2) = ((h.tok al).set l none).set l (srcO S k2) := (set_set _ _ _ _).symm
      rw [hset]
      apply acall monoR rfl (by rfl) (c23 (AHeap.os_set _ _ _))
      rintro _ _ ⟨nm, e, l2, c, cnt, rows, rest, k3, rfl, hgood, ⟨hcnt1, hcnt4⟩, h3, h4, h5, h6, h7, rfl⟩
      refine ⟨rfl, ?_⟩
      rw [set_set]
      have hG2 : ((h.tok al).set l (srcO S k3)).os l2 = none := by rw [os_ne _ _ h6] at h7 ⊢; exact h7
      generalize hG : (h.tok al).set l (srcO S k3) = G at hG2 ⊢
      simp only [Pick.enc, EvN.rest, List.cons_append, List.nil_append]
      refine nav ?_
      refine aloop (fun q2 s => ∃ (i : Nat) (rows' : List (List AV)), q2 + i = cnt ∧ rows'.length = cnt ∧ (∀ j, j < i → rows'[j]? = some (evPick n j).enc) ∧
          (∀ (j : Nat) (r : List AV), rows'[j]? = some r → ∃ t e l a, r = (pickAt j t e l a).enc) ∧
          s = ⟨Env.of [(0, some (.hp l 0 0)), (1, some (.int .i64 most)), (5, some rv), (6, some (.int .i64 n)), (7, some (.lp 7 0 0)), (23, some (.int .i64 cnt)), (24, some (.int .i64 i))],
            Loc.of [(7, some (.arr 25 [[.str nm.net, .str nm.sta, .str nm.loc, .str nm.cha, .int .i64 nm.time, .int .i64 nm.early, .int .i64 nm.late, .int .i64 nm.amp, .int .i64 nm.pol, .hm l2 9 0 cnt c,
              .int .i64 e.px, .int .i64 e.py, .int .i64 e.pz, .int .i64 e.time, .int .i64 e.misfit, .int .i64 0, .int .i64 e.px, .int .i64 e.py, .int .i64 e.pz, .int .i64 e.px, .int .i64 e.py, .int .i64 e.pz, .int .i64 e.low, .int .i64 e.high, .int .i64 e.count]]))],
            G.set l2 (some (.arr 9 (rows' ++ rest)))⟩) cnt
        ⟨0, rows, by omega, h3, fun j hj => absurd hj (by omega), h5, rfl⟩ ?_
      rintro q2 s2 ⟨i, rows', hq2, hl', hdone, hrow, rfl⟩
      refine nav ?_
      refine acond rfl (fun hc2 => ?_) (fun hc2 => ?_)
      · have hic : i < cnt := by have := of_decide_eq_true hc2; omega
        refine naw ?_
        obtain ⟨row, hrow'⟩ : ∃ r, rows'[i]? = some r := ⟨_, List.getElem?_eq_getElem (by omega)⟩
        obtain ⟨t', e', l', a', rfl⟩ := hrow i row hrow'
        have hx0 : (rows' ++ rest)[0 + i]? = some (pickAt i t' e' l' a').enc := by rw [Nat.zero_add, List.getElem?_append_left (by omega)]; exact hrow'
        simp only [Pick.enc, pickAt] at hx0
        have hlen : 0 + i < (rows' ++ rest).length := by simp; omega
        apply asthE rfl (by rfl) (by rfl) (AHeap.os_set _ _ _) hx0 (by simp)
        rw [set_set]
        refine naw ?_
        apply asthE rfl (by rfl) (by rfl) (AHeap.os_set _ _ _) (List.getElem?_set_self hlen) (by simp [AV.cells])
        rw [set_set, List.set_set]
        refine naw ?_
        apply asthE rfl (by rfl) (by rfl) (AHeap.os_set _ _ _) (List.getElem?_set_self hlen) (by simp [AV.cells])
        rw [set_set, List.set_set]
        refine naw ?_
        apply asthE rfl (by rfl) (by rfl) (AHeap.os_set _ _ _) (List.getElem?_set_self hlen) (by simp [AV.cells])
        rw [set_set, List.set_set]
        refine naw ?_
        rw [Nat.zero_add, List.set_append_left _ _ (by omega)]
        refine ql_n (q2 - 1) (by omega) ⟨i + 1, _, by omega, ?_, ?_, ?_, rfl⟩
        · rw [List.length_set]; exact hl'
        · intro j hj
          by_cases hji : j = i
          · subst hji
            rw [List.getElem?_set_self (by omega)]
            rfl
          · rw [List.getElem?_set_ne (by omega)]
            exact hdone j (by omega)
        · intro j r hj
          by_cases hji : j = i
          · subst hji
            rw [List.getElem?_set_self (by omega)] at hj
            simp only [Option.some.injEq] at hj
            exact ⟨_, _, _, _, hj.symm⟩
          · rw [List.getElem?_set_ne (by omega)] at hj
            exact hrow j r hj
      · have hic : i = cnt := by have := of_decide_eq_false hc2; omega
        subst hic
        have hrows := rows_eq hl' hdone
        refine nav ?_
        apply afrzo rfl rfl rfl (AHeap.os_set _ _ _) (by simp; omega)
        rw [show ((rows' ++ rest).drop 0).take i = rows' from by rw [List.drop_zero, List.take_left' hl'], set_set, set_none _ hG2]
        simp only [List.set_cons_succ, List.set_cons_zero]
        subst hG
        refine nav ?_
        apply acall monoR rfl (by rfl) (n9 (by decide) (by decide))
        rintro _ _ ⟨⟨r2, rfl, hr20, hr21⟩, k4, rfl⟩
        refine ⟨rfl, ?_⟩
        rw [hl', wrap64 (by omega) (by omega)]
        refine naw ?_
        obtain ⟨m, hm, hm1, hmi⟩ : ∃ m : Nat, (if false = true then max r2 ((i : Int) - 1) else min r2 ((i : Int) - 1)) = m ∧ m ≤ 1 ∧ m < i := by
          refine ⟨(min r2 ((i : Int) - 1)).toNat, ?_, ?_, ?_⟩
          · simp only [Bool.false_eq_true, if_false]; omega
          · omega
          · omega
        rw [hm]
        apply aslc_lo rfl rfl (by omega)
        have hx0 : (rows'.drop m)[0]? = some (evPick n m).enc := by rw [List.getElem?_drop]; exact hdone m (by omega)
        simp only [Pick.enc] at hx0
        have hrowsm : rows'.drop m = (List.range' m (i - m)).map fun j => (evPick n j).enc := by
          rw [hrows, ← List.map_drop, List.drop_range']; simp
        refine naw ?_
        obtain ⟨tg, htg, cs, hrx, hcs, hal, hsp⟩ : ∃ tg : Tag, tg ≠ .no ∧ ∃ cs, ((rv = .nils ∧ cs = [] ∧ tg = .full) ∨ rv = .sl 25 cs tg) ∧ All2 IsEv cs (ds.map EvD.ev) ∧ (∀ t, tg = .tok t → t ∈ al) ∧ tg.spend al = h.al := by
          rcases hrv with ⟨rfl, rfl, rfl⟩ | ⟨cs, t, rfl, rfl, hcs⟩
          · exact ⟨.full, by simp, [], .inl ⟨rfl, rfl, rfl⟩, .nil, by simp, rfl⟩
          · exact ⟨.tok t, by simp, cs, .inr rfl, hcs, by simp, by simp [Tag.spend]⟩
        have hcl : cs.length ≤ n := by rw [hcs.len, List.length_map]; exact hdn
        apply aapp (tg := tg) (xs := cs) (tg' := .full) rfl hrx (by simp) (by simp only [List.length_cons, List.length_nil]; omega) htg hal
        intro t ht
        have hsp' : tg.spend ((h.tok al).set l (srcO S k4)).al = h.al := hsp
        rw [hsp', hrowsm]
        refine naw ?_
        have hev : ∀ (t : Tag) x, x = (EvD.ev ⟨n, m, i - m, e⟩).name.enc ++ .sl 9 ((List.range' m (i - m)).map fun j => (evPick n j).enc) t :: e.rest → IsEv x (EvD.ev ⟨n, m, i - m, e⟩) := by
          rintro t x rfl
          exact ⟨t, by simp only [EvD.ev, List.map_map]; rfl⟩
        refine ql_n (q - 1) (by omega) ⟨n + 1, ds ++ [⟨n, m, i - m, e⟩], _, t :: h.al, k4, by omega, ?_, ?_, by simp; omega, .inr ⟨_, t, rfl, rfl, ?_⟩, rfl⟩
        · rw [List.pairwise_append]
          exact ⟨hpw, by simp, fun a ha b hb => by simp at hb; subst hb; exact (hok a ha).2⟩
        · intro d hd
          rcases List.mem_append.1 hd with hd | hd
          · exact ⟨(hok d hd).1, by have := (hok d hd).2; omega⟩
          · simp only [List.mem_singleton] at hd
            subst hd
            exact ⟨⟨hm1, by simp only; omega, by simp only; omega, hgood⟩, by simp only; omega⟩
        · rw [List.map_append]
          exact hcs.snoc (hev _ _ rfl)
  · have hnm : n = most := by have := of_decide_eq_false hc; omega
    subst hnm
    refine nav ?_
    have hle : AHeap.le (h.set l (srcO S k1)) ((h.tok al).set l (srcO S k1)) := by
      refine ⟨fun _ _ h => h, ?_⟩
      rcases hrv with ⟨_, _, rfl⟩ | ⟨_, t, _, rfl, _⟩
      · exact List.Sublist.refl _
      · exact List.sublist_cons_self _ _
    apply qf (h' := h.set l (srcO S k1)) rfl (by simp [AV.plain, hN]) hle
    refine ⟨⟨ds, ?_, hpw, hok⟩, k1, rfl⟩
    rcases hrv with ⟨rfl, rfl, _⟩ | ⟨cs, t, rfl, _, hcs⟩
    · exact .inl ⟨rfl, rfl⟩
    · exact .inr ⟨cs, _, rfl, hcs⟩
end Go.Proofs.Ytkdphdcpofcnjaa

/- K7: contracts of seat 36: what the reference's tests answer (a truth value, a number); their answers do not matter. -/
namespace Go.Proofs.Ytkdphdcpofcnjaa
set_option linter.unusedVariables false
open Go Abs
set_option linter.unusedSimpArgs false
set_option maxHeartbeats 4000000

/-- Some truth value; some number; the heap as it was. -/
def SomeB (h : AHeap) (v : AV) (h' : AHeap) : Prop := (∃ b, v = .bool b) ∧ h = h'
def SomeI (h : AHeap) (v : AV) (h' : AHeap) : Prop := (∃ n, v = .int .i64 n) ∧ h = h'

theorem c77 {h : AHeap} {n : Int} : ACalls PR 77 [.int .i64 n] h (SomeB h) := by
  refine fn_sound at77 ok77 (Nat.le_of_ble_eq_true rfl) (afn ?_)
  show AW _ C77 _ _
  unfold C77
  repeat' (first | refine nat1 ?_ | (apply aeqs rfl (by rfl) (by rfl); intro be hbe) | (apply gaeqs rfl (by first | assumption | with_reducible rfl) rfl (by rfl) (by rfl); intro be hbe) | refine gpassS1 rfl rfl rfl rfl rfl (fun _ => ?_) (fun _ => ?_) | refine gpassS0 rfl rfl rfl rfl rfl (fun _ => ?_) (fun _ => ?_) | refine psplitA rfl (fun _ => ?_) (fun _ => ?_) | refine acond rfl (fun _ => ?_) (fun _ => ?_))
  all_goals (apply qf rfl (by rfl) aheap_le; exact ⟨⟨_, rfl⟩, rfl⟩)
theorem c83 {h : AHeap} {n : Int} : ACalls PR 83 [.int .i64 n] h (SomeI h) := by
  refine fn_sound at83 ok83 (Nat.le_of_ble_eq_true rfl) (afn ?_)
  show AW _ C83 _ _
  unfold C83
  repeat' (first | refine nat1 ?_ | (apply aeqs rfl (by rfl) (by rfl); intro be hbe) | (apply gaeqs rfl (by first | assumption | with_reducible rfl) rfl (by rfl) (by rfl); intro be hbe) | refine gpassS1 rfl rfl rfl rfl rfl (fun _ => ?_) (fun _ => ?_) | refine gpassS0 rfl rfl rfl rfl rfl (fun _ => ?_) (fun _ => ?_) | refine psplitA rfl (fun _ => ?_) (fun _ => ?_) | refine acond rfl (fun _ => ?_) (fun _ => ?_))
  all_goals (apply qf rfl (by rfl) aheap_le; exact ⟨⟨_, rfl⟩, rfl⟩)
theorem c82 {h : AHeap} {x y z : Int} : ACalls PR 82 [.agg [.int .i64 x, .int .i64 y, .int .i64 z]] h (SomeB h) := by
  refine fn_sound at82 ok82 (Nat.le_of_ble_eq_true rfl) (afn ?_)
  show AW _ C82 _ _
  unfold C82
  repeat' (first | refine nat1 ?_ | (apply aeqs rfl (by rfl) (by rfl); intro be hbe) | (apply gaeqs rfl (by first | assumption | with_reducible rfl) rfl (by rfl) (by rfl); intro be hbe) | refine gpassS1 rfl rfl rfl rfl rfl (fun _ => ?_) (fun _ => ?_) | refine gpassS0 rfl rfl rfl rfl rfl (fun _ => ?_) (fun _ => ?_) | refine psplitA rfl (fun _ => ?_) (fun _ => ?_) | refine acond rfl (fun _ => ?_) (fun _ => ?_))
  all_goals (apply qf rfl (by rfl) aheap_le; exact ⟨⟨_, rfl⟩, rfl⟩)
theorem c67 {h : AHeap} {x y z x' y' z' : Int} : ACalls PR 67 [.agg [.int .i64 x, .int .i64 y, .int .i64 z], .agg [.int .i64 x', .int .i64 y', .int .i64 z']] h (SomeI h) := by
  refine fn_sound at67 ok67 (Nat.le_of_ble_eq_true rfl) (afn ?_)
  show AW _ C67 _ _
  unfold C67
  repeat' (first | refine nat1 ?_ | (apply acallpp monoR rfl (by rfl) c82; rintro _ _ ⟨⟨_, rfl⟩, rfl⟩; refine ⟨rfl, rfl, ?_⟩) | (apply gcallpp rfl (by first | assumption | with_reducible rfl) monoR rfl (by rfl) c82; rintro _ _ ⟨⟨_, rfl⟩, rfl⟩; refine ⟨rfl, rfl, ?_⟩) | (refine gcallS1 rfl monoR rfl (by rfl) c82 (fun _ => ?_) (fun _ => ?_); rintro _ _ ⟨⟨_, rfl⟩, rfl⟩; refine ⟨rfl, rfl, ?_⟩) | (refine gcallS0 rfl monoR rfl (by rfl) c82 (fun _ => ?_) (fun _ => ?_); rintro _ _ ⟨⟨_, rfl⟩, rfl⟩; refine ⟨rfl, rfl, ?_⟩) | (apply acallpp monoR rfl (by rfl) c83; rintro _ _ ⟨⟨_, rfl⟩, rfl⟩; refine ⟨rfl, rfl, ?_⟩) | (apply gcallpp rfl (by first | assumption | with_reducible rfl) monoR rfl (by rfl) c83; rintro _ _ ⟨⟨_, rfl⟩, rfl⟩; refine ⟨rfl, rfl, ?_⟩) | (refine gcallS1 rfl monoR rfl (by rfl) c83 (fun _ => ?_) (fun _ => ?_); rintro _ _ ⟨⟨_, rfl⟩, rfl⟩; refine ⟨rfl, rfl, ?_⟩) | (refine gcallS0 rfl monoR rfl (by rfl) c83 (fun _ => ?_) (fun _ => ?_); rintro _ _ ⟨⟨_, rfl⟩, rfl⟩; refine ⟨rfl, rfl, ?_⟩) | (apply aeqs rfl (by rfl) (by rfl); intro be hbe) | (apply gaeqs rfl (by first | assumption | with_reducible rfl) rfl (by rfl) (by rfl); intro be hbe) | refine gpassS1 rfl rfl rfl rfl rfl (fun _ => ?_) (fun _ => ?_) | refine gpassS0 rfl rfl rfl rfl rfl (fun _ => ?_) (fun _ => ?_) | refine psplitA rfl (fun _ => ?_) (fun _ => ?_) | refine acond rfl (fun _ => ?_) (fun _ => ?_))
  all_goals (apply qf rfl (by rfl) aheap_le; exact ⟨⟨_, rfl⟩, rfl⟩)
theorem c66 {h : AHeap} {x y x' y' : Int} : ACalls PR 66 [.agg [.int .i64 x, .int .i64 y], .agg [.int .i64 x', .int .i64 y']] h (SomeB h) := by
  refine fn_sound at66 ok66 (Nat.le_of_ble_eq_true rfl) (afn ?_)
  show AW _ C66 _ _
  unfold C66
  repeat' (first | refine nat1 ?_ | (apply aeqs rfl (by rfl) (by rfl); intro be hbe) | (apply gaeqs rfl (by first | assumption | with_reducible rfl) rfl (by rfl) (by rfl); intro be hbe) | refine gpassS1 rfl rfl rfl rfl rfl (fun _ => ?_) (fun _ => ?_) | refine gpassS0 rfl rfl rfl rfl rfl (fun _ => ?_) (fun _ => ?_) | refine psplitA rfl (fun _ => ?_) (fun _ => ?_) | refine acond rfl (fun _ => ?_) (fun _ => ?_))
  all_goals (apply qf rfl (by rfl) aheap_le; exact ⟨⟨_, rfl⟩, rfl⟩)

/-- An event's cells, an alert's, a bulletin's. -/
def evc (v : Event) (t : Tag) : List AV := [.str v.name.net, .str v.name.sta, .str v.name.loc, .str v.name.cha, .int .i64 v.name.time, .int .i64 v.name.early, .int .i64 v.name.late, .int .i64 v.name.amp, .int .i64 v.name.pol, .sl 9 (v.picks.map Pick.enc) t,
  .int .i64 v.e.px, .int .i64 v.e.py, .int .i64 v.e.pz, .int .i64 v.e.time, .int .i64 v.e.misfit, .int .i64 0, .int .i64 v.e.px, .int .i64 v.e.py, .int .i64 v.e.pz, .int .i64 v.e.px, .int .i64 v.e.py, .int .i64 v.e.pz, .int .i64 v.e.low, .int .i64 v.e.high, .int .i64 v.e.count]
theorem isEv_iff {c : List AV} {v : Event} : IsEv c v ↔ ∃ t, c = evc v t := Iff.rfl
structure Alert where
  id : Int
  wd : Bool
  name : Pick
  level : Int
  ev : Event
  tm : Int
def alc (a : Alert) (t : Tag) : List AV := [.int .i64 a.id, .bool a.wd, .str a.name.net, .str a.name.sta, .str a.name.loc, .str a.name.cha, .int .i64 a.name.time, .int .i64 a.name.early, .int .i64 a.name.late, .int .i64 a.name.amp, .int .i64 a.name.pol, .int .i64 a.level,
  .str a.ev.name.net, .str a.ev.name.sta, .str a.ev.name.loc, .str a.ev.name.cha, .int .i64 a.ev.name.time, .int .i64 a.ev.name.early, .int .i64 a.ev.name.late, .int .i64 a.ev.name.amp, .int .i64 a.ev.name.pol, .sl 9 (a.ev.picks.map Pick.enc) t,
  .int .i64 a.ev.e.px, .int .i64 a.ev.e.py, .int .i64 a.ev.e.pz, .int .i64 a.ev.e.time, .int .i64 a.ev.e.misfit, .int .i64 0, .int .i64 a.ev.e.px, .int .i64 a.ev.e.py, .int .i64 a.ev.e.pz, .int .i64 a.ev.e.px, .int .i64 a.ev.e.py, .int .i64 a.ev.e.pz, .int .i64 a.ev.e.low, .int .i64 a.ev.e.high, .int .i64 a.ev.e.count,
  .int .i64 a.tm]
structure Bulletin where
  number : Int
  kind : Int
  id : Int
  tm : Int
  level : Int
  ev : Event
def buc (b : Bulletin) (t : Tag) : List AV := [.int .i64 b.number, .int .i64 b.kind, .int .i64 b.id, .int .i64 b.tm, .int .i64 b.level,
  .str b.ev.name.net, .str b.ev.name.sta, .str b.ev.name.loc, .str b.ev.name.cha, .int .i64 b.ev.name.time, .int .i64 b.ev.name.early, .int .i64 b.ev.name.late, .int .i64 b.ev.name.amp, .int .i64 b.ev.name.pol, .sl 9 (b.ev.picks.map Pick.enc) t,
  .int .i64 b.ev.e.px, .int .i64 b.ev.e.py, .int .i64 b.ev.e.pz, .int .i64 b.ev.e.time, .int .i64 b.ev.e.misfit, .int .i64 0, .int .i64 b.ev.e.px, .int .i64 b.ev.e.py, .int .i64 b.ev.e.pz, .int .i64 b.ev.e.px, .int .i64 b.ev.e.py, .int .i64 b.ev.e.pz, .int .i64 b.ev.e.low, .int .i64 b.ev.e.high, .int .i64 b.ev.e.count]
def IsAl (c : List AV) (a : Alert) : Prop := ∃ t, c = alc a t
def IsBu (c : List AV) (b : Bulletin) : Prop := ∃ t, c = buc b t
def polc (p : Policy) (t : Tag) : List AV := [.sl 4 (p.rules.map Rule.enc) t, .int .i64 p.distance, .int .i64 p.every]
def rulec (r : Rule) : List AV := [.int .i64 r.mag, .int .i64 r.picks, .int .i64 r.misfit, .int .i64 r.window]
theorem map_get {α : Type} {f : α → List AV} {l : List α} {k : Nat} (h : k < l.length) : ∃ x, l[k]? = some x ∧ (l.map f)[k]? = some (f x) :=
  ⟨l[k], List.getElem?_eq_getElem h, by rw [List.getElem?_map, List.getElem?_eq_getElem h]; rfl⟩

def meets (r : Rule) (e : Event) : Bool := decide (e.e.count ≥ 1) && decide (e.e.low ≥ r.mag) && decide ((e.picks.length : Int) ≥ r.picks) && decide (e.e.misfit ≤ r.misfit)

theorem c65 {h : AHeap} {r : Rule} {v : Event} {t : Tag} : ACalls PR 65 [.agg (rulec r), .agg (evc v t)] h (SomeB h) := by
  refine fn_sound at65 ok65 (Nat.le_of_ble_eq_true rfl) (afn ?_)
  show AW _ C65 _ _
  unfold C65
  unfold rulec evc
  repeat' (first | refine nat1 ?_ | (apply aeqs rfl (by rfl) (by rfl); intro be hbe) | (apply gaeqs rfl (by first | assumption | with_reducible rfl) rfl (by rfl) (by rfl); intro be hbe) | refine gpassS1 rfl rfl rfl rfl rfl (fun _ => ?_) (fun _ => ?_) | refine gpassS0 rfl rfl rfl rfl rfl (fun _ => ?_) (fun _ => ?_) | refine psplitA rfl (fun _ => ?_) (fun _ => ?_) | refine acond rfl (fun _ => ?_) (fun _ => ?_))
  all_goals (apply qf rfl (by rfl) aheap_le; exact ⟨⟨_, rfl⟩, rfl⟩)

theorem c60 {h : AHeap} {p : Policy} {t : Tag} (hp : p.rules.length ≤ 100) : ACalls PR 60 [.agg (polc p t)] h (SomeI h) := by
  refine fn_sound at60 ok60 (Nat.le_of_ble_eq_true rfl) (afn ?_)
  show AW _ C60 _ _
  unfold C60
  unfold polc
  repeat' (first | refine nat1 ?_ | (apply acallpp monoR rfl (by rfl) c77; rintro _ _ ⟨⟨_, rfl⟩, rfl⟩; refine ⟨rfl, rfl, ?_⟩) | (apply gcallpp rfl (by first | assumption | with_reducible rfl) monoR rfl (by rfl) c77; rintro _ _ ⟨⟨_, rfl⟩, rfl⟩; refine ⟨rfl, rfl, ?_⟩) | (refine gcallS1 rfl monoR rfl (by rfl) c77 (fun _ => ?_) (fun _ => ?_); rintro _ _ ⟨⟨_, rfl⟩, rfl⟩; refine ⟨rfl, rfl, ?_⟩) | (refine gcallS0 rfl monoR rfl (by rfl) c77 (fun _ => ?_) (fun _ => ?_); rintro _ _ ⟨⟨_, rfl⟩, rfl⟩; refine ⟨rfl, rfl, ?_⟩) | (apply aeqs rfl (by rfl) (by rfl); intro be hbe) | (apply gaeqs rfl (by first | assumption | with_reducible rfl) rfl (by rfl) (by rfl); intro be hbe) | refine gpassS1 rfl rfl rfl rfl rfl (fun _ => ?_) (fun _ => ?_) | refine gpassS0 rfl rfl rfl rfl rfl (fun _ => ?_) (fun _ => ?_) | refine psplitA rfl (fun _ => ?_) (fun _ => ?_) | refine acond rfl (fun _ => ?_) (fun _ => ?_))
  all_goals try (apply qf rfl (by rfl) aheap_le; exact ⟨⟨_, rfl⟩, rfl⟩)
  all_goals (
    refine aloop (fun q s => ∃ k : Nat, q + k = p.rules.length ∧ s = ⟨Env.of [(1, some (.lp 1 0 0)), (3, some (.int .i64 k))], Loc.of [(1, some (.arr 3 [[.sl 4 (p.rules.map Rule.enc) t, .int .i64 p.distance, .int .i64 p.every]]))], h⟩) p.rules.length ⟨0, by omega, rfl⟩ ?_
    rintro q s' ⟨k, hq, rfl⟩
    refine nav ?_
    refine acond rfl (fun hc => ?_) (fun hc => ?_)
    · have hk : k < p.rules.length := by have := of_decide_eq_true hc; simpa using this
      obtain ⟨r, hr, he⟩ := map_get (f := Rule.enc) hk
      simp only [Rule.enc] at he
      repeat' (first | refine nat1 ?_ | (apply acallpp monoR rfl (by rfl) c77; rintro _ _ ⟨⟨_, rfl⟩, rfl⟩; refine ⟨rfl, rfl, ?_⟩) | (apply gcallpp rfl (by first | assumption | with_reducible rfl) monoR rfl (by rfl) c77; rintro _ _ ⟨⟨_, rfl⟩, rfl⟩; refine ⟨rfl, rfl, ?_⟩) | (refine gcallS1 rfl monoR rfl (by rfl) c77 (fun _ => ?_) (fun _ => ?_); rintro _ _ ⟨⟨_, rfl⟩, rfl⟩; refine ⟨rfl, rfl, ?_⟩) | (refine gcallS0 rfl monoR rfl (by rfl) c77 (fun _ => ?_) (fun _ => ?_); rintro _ _ ⟨⟨_, rfl⟩, rfl⟩; refine ⟨rfl, rfl, ?_⟩) | (apply aeqs rfl (by rfl) (by rfl); intro be hbe) | (apply gaeqs rfl (by first | assumption | with_reducible rfl) rfl (by rfl) (by rfl); intro be hbe) | refine gpassS1 rfl rfl rfl rfl rfl (fun _ => ?_) (fun _ => ?_) | refine gpassS0 rfl rfl rfl rfl rfl (fun _ => ?_) (fun _ => ?_) | refine psplitA rfl (fun _ => ?_) (fun _ => ?_) | refine acond rfl (fun _ => ?_) (fun _ => ?_))
      all_goals first
        | exact ql_n (q - 1) (by omega) ⟨k + 1, by omega, rfl⟩
        | (apply qf rfl (by rfl) aheap_le; exact ⟨⟨_, rfl⟩, rfl⟩)
    · refine nav ?_
      apply qf rfl (by rfl) aheap_le
      exact ⟨⟨_, rfl⟩, rfl⟩)
end Go.Proofs.Ytkdphdcpofcnjaa

/- K8: contracts of seat 36: the reference's level, timeliness, movement. -/
namespace Go.Proofs.Ytkdphdcpofcnjaa
open Go Abs
set_option linter.unusedSimpArgs false
set_option linter.unusedVariables false
set_option maxHeartbeats 400000
attribute [local irreducible] Go.IntKind.wrap

theorem c39 {h : AHeap} {p : Policy} {t : Tag} {v : Event} {te : Tag} (hp : p.rules.length ≤ 100) :
    ACalls PR 39 [.agg (polc p t), .agg (evc v te)] h fun u h' => (∃ n : Nat, u = .int .i64 n ∧ n ≤ p.rules.length) ∧ h = h' := by
  refine fn_sound at39 ok39 (Nat.le_of_ble_eq_true rfl) (afn ?_)
  show AW _ C39 _ _
  unfold C39
  unfold polc evc
  have k60 := c60 (h := h) (p := p) (t := t) hp
  refine nav ?_
  refine aloop (fun q s => ∃ k L : Nat, q + k = p.rules.length ∧ L ≤ p.rules.length ∧ s = ⟨Env.of [(2, some (.lp 2 0 0)), (3, some (.lp 3 0 0)), (5, some (.int .i64 L)), (6, some (.int .i64 k))], Loc.of [(2, some (.arr 3 [polc p t])), (3, some (.arr 25 [evc v te]))], h⟩) p.rules.length ⟨0, 0, by omega, by omega, rfl⟩ ?_
  rintro q s' ⟨k, L, hq, hL, rfl⟩
  unfold polc evc
  refine nav ?_
  refine gsplitA rfl (fun hc => ?_) (fun hc => ?_)
  · have hk : k < p.rules.length := by have := of_decide_eq_true hc; simpa using this
    obtain ⟨r, hr, he⟩ := map_get (f := Rule.enc) hk
    simp only [Rule.enc] at he
    have k65 := c65 (h := h) (r := r) (v := v) (t := te)
    repeat' (first | refine nat1 ?_ | (apply acallpp monoR rfl (by rfl) k60; rintro _ _ ⟨⟨_, rfl⟩, rfl⟩; refine ⟨rfl, rfl, ?_⟩) | (apply gcallpp rfl (by first | assumption | with_reducible rfl) monoR rfl (by rfl) k60; rintro _ _ ⟨⟨_, rfl⟩, rfl⟩; refine ⟨rfl, rfl, ?_⟩) | (refine gcallS1 rfl monoR rfl (by rfl) k60 (fun _ => ?_) (fun _ => ?_); rintro _ _ ⟨⟨_, rfl⟩, rfl⟩; refine ⟨rfl, rfl, ?_⟩) | (refine gcallS0 rfl monoR rfl (by rfl) k60 (fun _ => ?_) (fun _ => ?_); rintro _ _ ⟨⟨_, rfl⟩, rfl⟩; refine ⟨rfl, rfl, ?_⟩) | (apply acallpp monoR rfl (by rfl) k65; rintro _ _ ⟨⟨_, rfl⟩, rfl⟩; refine ⟨rfl, rfl, ?_⟩) | (apply gcallpp rfl (by first | assumption | with_reducible rfl) monoR rfl (by rfl) k65; rintro _ _ ⟨⟨_, rfl⟩, rfl⟩; refine ⟨rfl, rfl, ?_⟩) | (refine gcallS1 rfl monoR rfl (by rfl) k65 (fun _ => ?_) (fun _ => ?_); rintro _ _ ⟨⟨_, rfl⟩, rfl⟩; refine ⟨rfl, rfl, ?_⟩) | (refine gcallS0 rfl monoR rfl (by rfl) k65 (fun _ => ?_) (fun _ => ?_); rintro _ _ ⟨⟨_, rfl⟩, rfl⟩; refine ⟨rfl, rfl, ?_⟩) | (apply aeqs rfl (by rfl) (by rfl); intro be hbe) | (apply gaeqs rfl (by first | assumption | with_reducible rfl) rfl (by rfl) (by rfl); intro be hbe) | refine gpassS1 rfl rfl rfl rfl rfl (fun _ => ?_) (fun _ => ?_) | refine gpassS0 rfl rfl rfl rfl rfl (fun _ => ?_) (fun _ => ?_) | refine psplitA rfl (fun _ => ?_) (fun _ => ?_) | refine acond rfl (fun _ => ?_) (fun _ => ?_))
    · exact ql_n (q - 1) (by omega) ⟨k + 1, k + 1, by omega, by omega, rfl⟩
    · exact ql_n (q - 1) (by omega) ⟨k + 1, L, by omega, by omega, rfl⟩
    · apply qf rfl (by rfl) aheap_le
      exact ⟨⟨L, rfl, hL⟩, rfl⟩
  · repeat' (first | refine nat1 ?_ | (apply aeqs rfl (by rfl) (by rfl); intro be hbe) | (apply gaeqs rfl (by first | assumption | with_reducible rfl) rfl (by rfl) (by rfl); intro be hbe) | refine gpassS1 rfl rfl rfl rfl rfl (fun _ => ?_) (fun _ => ?_) | refine gpassS0 rfl rfl rfl rfl rfl (fun _ => ?_) (fun _ => ?_) | refine psplitA rfl (fun _ => ?_) (fun _ => ?_) | refine acond rfl (fun _ => ?_) (fun _ => ?_))
    apply qf rfl (by rfl) aheap_le
    exact ⟨⟨L, rfl, hL⟩, rfl⟩

theorem c42 {h : AHeap} {p : Policy} {t : Tag} {v : Event} {te : Tag} {now : Int} (hp : p.rules.length ≤ 100) :
    ACalls PR 42 [.agg (polc p t), .agg (evc v te), .int .i64 now] h (SomeB h) := by
  refine fn_sound at42 ok42 (Nat.le_of_ble_eq_true rfl) (afn ?_)
  show AW _ C42 _ _
  unfold C42
  unfold polc evc
  refine nav ?_
  apply acallpp monoR rfl (by rfl) (c39 (h := h) (p := p) (t := t) (v := v) (te := te) hp)
  rintro _ _ ⟨⟨n, rfl, hn⟩, rfl⟩
  refine ⟨rfl, rfl, ?_⟩
  refine nav ?_
  refine acond rfl (fun hc => ?_) (fun hc => ?_)
  · repeat' (first | refine nat1 ?_ | (apply aeqs rfl (by rfl) (by rfl); intro be hbe) | (apply gaeqs rfl (by first | assumption | with_reducible rfl) rfl (by rfl) (by rfl); intro be hbe) | refine gpassS1 rfl rfl rfl rfl rfl (fun _ => ?_) (fun _ => ?_) | refine gpassS0 rfl rfl rfl rfl rfl (fun _ => ?_) (fun _ => ?_) | refine psplitA rfl (fun _ => ?_) (fun _ => ?_) | refine acond rfl (fun _ => ?_) (fun _ => ?_))
    apply qf rfl (by rfl) aheap_le
    exact ⟨⟨_, rfl⟩, rfl⟩
  · have hn0 : n ≠ 0 := by rintro rfl; have := of_decide_eq_false hc; simp at this
    obtain ⟨r, hr, he⟩ := map_get (f := Rule.enc) (l := p.rules) (k := n - 1) (by omega)
    simp only [Rule.enc] at he
    repeat' (first | refine nat1 ?_ | (apply aeqs rfl (by rfl) (by rfl); intro be hbe) | (apply gaeqs rfl (by first | assumption | with_reducible rfl) rfl (by rfl) (by rfl); intro be hbe) | refine gpassS1 rfl rfl rfl rfl rfl (fun _ => ?_) (fun _ => ?_) | refine gpassS0 rfl rfl rfl rfl rfl (fun _ => ?_) (fun _ => ?_) | refine psplitA rfl (fun _ => ?_) (fun _ => ?_) | refine acond rfl (fun _ => ?_) (fun _ => ?_))
    · apply gaixz rfl (by assumption) rfl (by omega) (by rw [show ((n : Int) - 1).toNat = n - 1 from by omega]; exact he)
      repeat' (first | refine nat1 ?_ | (apply aeqs rfl (by rfl) (by rfl); intro be hbe) | (apply gaeqs rfl (by first | assumption | with_reducible rfl) rfl (by rfl) (by rfl); intro be hbe) | refine gpassS1 rfl rfl rfl rfl rfl (fun _ => ?_) (fun _ => ?_) | refine gpassS0 rfl rfl rfl rfl rfl (fun _ => ?_) (fun _ => ?_) | refine psplitA rfl (fun _ => ?_) (fun _ => ?_) | refine acond rfl (fun _ => ?_) (fun _ => ?_))
      apply qf rfl (by rfl) aheap_le
      exact ⟨⟨_, rfl⟩, rfl⟩
    · apply qf rfl (by rfl) aheap_le
      exact ⟨⟨_, rfl⟩, rfl⟩

theorem c40 {h : AHeap} {p : Policy} {t : Tag} {v w : Event} {te te' : Tag} (hp : p.rules.length ≤ 100) :
    ACalls PR 40 [.agg (polc p t), .agg (evc v te), .agg (evc w te')] h (SomeB h) := by
  refine fn_sound at40 ok40 (Nat.le_of_ble_eq_true rfl) (afn ?_)
  show AW _ C40 _ _
  unfold C40
  unfold polc evc
  have k60 := c60 (h := h) (p := p) (t := t) hp
  have k39 : ∀ u tt, ACalls PR 39 [.agg (polc p t), .agg (evc u tt)] h (SomeI h) := fun u tt => (c39 hp).mono fun _ _ ⟨⟨n, e, _⟩, e2⟩ => ⟨⟨n, e⟩, e2⟩
  have k39v := k39 v te
  have k39w := k39 w te'
  repeat' (first | refine nat1 ?_ | (apply acallpp monoR rfl (by rfl) k60; rintro _ _ ⟨⟨_, rfl⟩, rfl⟩; refine ⟨rfl, rfl, ?_⟩) | (apply gcallpp rfl (by first | assumption | with_reducible rfl) monoR rfl (by rfl) k60; rintro _ _ ⟨⟨_, rfl⟩, rfl⟩; refine ⟨rfl, rfl, ?_⟩) | (refine gcallS1 rfl monoR rfl (by rfl) k60 (fun _ => ?_) (fun _ => ?_); rintro _ _ ⟨⟨_, rfl⟩, rfl⟩; refine ⟨rfl, rfl, ?_⟩) | (refine gcallS0 rfl monoR rfl (by rfl) k60 (fun _ => ?_) (fun _ => ?_); rintro _ _ ⟨⟨_, rfl⟩, rfl⟩; refine ⟨rfl, rfl, ?_⟩) | (apply acallpp monoR rfl (by rfl) k39v; rintro _ _ ⟨⟨_, rfl⟩, rfl⟩; refine ⟨rfl, rfl, ?_⟩) | (apply gcallpp rfl (by first | assumption | with_reducible rfl) monoR rfl (by rfl) k39v; rintro _ _ ⟨⟨_, rfl⟩, rfl⟩; refine ⟨rfl, rfl, ?_⟩) | (refine gcallS1 rfl monoR rfl (by rfl) k39v (fun _ => ?_) (fun _ => ?_); rintro _ _ ⟨⟨_, rfl⟩, rfl⟩; refine ⟨rfl, rfl, ?_⟩) | (refine gcallS0 rfl monoR rfl (by rfl) k39v (fun _ => ?_) (fun _ => ?_); rintro _ _ ⟨⟨_, rfl⟩, rfl⟩; refine ⟨rfl, rfl, ?_⟩) | (apply acallpp monoR rfl (by rfl) k39w; rintro _ _ ⟨⟨_, rfl⟩, rfl⟩; refine ⟨rfl, rfl, ?_⟩) | (apply gcallpp rfl (by first | assumption | with_reducible rfl) monoR rfl (by rfl) k39w; rintro _ _ ⟨⟨_, rfl⟩, rfl⟩; refine ⟨rfl, rfl, ?_⟩) | (refine gcallS1 rfl monoR rfl (by rfl) k39w (fun _ => ?_) (fun _ => ?_); rintro _ _ ⟨⟨_, rfl⟩, rfl⟩; refine ⟨rfl, rfl, ?_⟩) | (refine gcallS0 rfl monoR rfl (by rfl) k39w (fun _ => ?_) (fun _ => ?_); rintro _ _ ⟨⟨_, rfl⟩, rfl⟩; refine ⟨rfl, rfl, ?_⟩) | (apply acallpp monoR rfl (by rfl) c66; rintro _ _ ⟨⟨_, rfl⟩, rfl⟩; refine ⟨rfl, rfl, ?_⟩) | (apply gcallpp rfl (by first | assumption | with_reducible rfl) monoR rfl (by rfl) c66; rintro _ _ ⟨⟨_, rfl⟩, rfl⟩; refine ⟨rfl, rfl, ?_⟩) | (refine gcallS1 rfl monoR rfl (by rfl) c66 (fun _ => ?_) (fun _ => ?_); rintro _ _ ⟨⟨_, rfl⟩, rfl⟩; refine ⟨rfl, rfl, ?_⟩) | (refine gcallS0 rfl monoR rfl (by rfl) c66 (fun _ => ?_) (fun _ => ?_); rintro _ _ ⟨⟨_, rfl⟩, rfl⟩; refine ⟨rfl, rfl, ?_⟩) | (apply acallpp monoR rfl (by rfl) c67; rintro _ _ ⟨⟨_, rfl⟩, rfl⟩; refine ⟨rfl, rfl, ?_⟩) | (apply gcallpp rfl (by first | assumption | with_reducible rfl) monoR rfl (by rfl) c67; rintro _ _ ⟨⟨_, rfl⟩, rfl⟩; refine ⟨rfl, rfl, ?_⟩) | (refine gcallS1 rfl monoR rfl (by rfl) c67 (fun _ => ?_) (fun _ => ?_); rintro _ _ ⟨⟨_, rfl⟩, rfl⟩; refine ⟨rfl, rfl, ?_⟩) | (refine gcallS0 rfl monoR rfl (by rfl) c67 (fun _ => ?_) (fun _ => ?_); rintro _ _ ⟨⟨_, rfl⟩, rfl⟩; refine ⟨rfl, rfl, ?_⟩) | (apply aeqs rfl (by rfl) (by rfl); intro be hbe) | (apply gaeqs rfl (by first | assumption | with_reducible rfl) rfl (by rfl) (by rfl); intro be hbe) | refine gpassS1 rfl rfl rfl rfl rfl (fun _ => ?_) (fun _ => ?_) | refine gpassS0 rfl rfl rfl rfl rfl (fun _ => ?_) (fun _ => ?_) | refine psplitA rfl (fun _ => ?_) (fun _ => ?_) | refine acond rfl (fun _ => ?_) (fun _ => ?_))
  all_goals (apply qf rfl (by rfl) aheap_le; exact ⟨⟨_, rfl⟩, rfl⟩)
end Go.Proofs.Ytkdphdcpofcnjaa

/- K9: contracts of seat 36: comparisons and searches of the reference. -/
namespace Go.Proofs.Ytkdphdcpofcnjaa
open Go Abs
set_option linter.unusedSimpArgs false
set_option linter.unusedVariables false
set_option maxHeartbeats 400000
attribute [local irreducible] Go.IntKind.wrap

section
variable {C : Con} {K : ASt → Prop} {env : Abs.Env} {loc : Abs.Loc} {h : AHeap} {i : Nat} {dst : Option Nat} {args : List Opd} {r : List AIns}
theorem alenS {α : Type} {s : Nat} {P : List AV → α → Prop} {v : AV} {l : List α} (ha : ASt.args ⟨env, loc, h⟩ .len args = some [v]) (hv : IsSl s P v l)
    (hh : AO C r ⟨env.put dst (some (.int .i64 l.length)), loc, h⟩ K) : AO C (⟨i, none, dst, .len, args, []⟩ :: r) ⟨env, loc, h⟩ K := by
  rcases hv with ⟨rfl, rfl⟩ | ⟨cs, t, rfl, hc⟩
  · exact apass rfl ha rfl hh
  · exact apass rfl ha (by simp [pval, lenV, hc.len]) hh
theorem galenS {α : Type} {g : Nat} {b w : Bool} {s : Nat} {P : List AV → α → Prop} {v : AV} {l : List α} (hg : env g = some (.bool b)) (hb : b = w) (ha : ASt.args ⟨env, loc, h⟩ .len args = some [v]) (hv : IsSl s P v l)
    (hh : AO C r ⟨env.put dst (some (.int .i64 l.length)), loc, h⟩ K) : AO C (⟨i, some (g, w), dst, .len, args, []⟩ :: r) ⟨env, loc, h⟩ K := by
  rcases hv with ⟨rfl, rfl⟩ | ⟨cs, t, rfl, hc⟩
  · exact gpass1 hg hb rfl ha rfl hh
  · exact gpass1 hg hb rfl ha (by simp [pval, lenV, hc.len]) hh
theorem IsSl.at {α : Type} {s : Nat} {P : List AV → α → Prop} {v : AV} {l : List α} {y : α} {k : Nat} (hv : IsSl s P v l) (hy : l[k]? = some y) : ∃ cs t c, v = .sl s cs t ∧ cs[k]? = some c ∧ P c y := by
  rcases hv with ⟨rfl, rfl⟩ | ⟨cs, t, rfl, hc⟩
  · simp at hy
  · obtain ⟨c, h1, h2⟩ := hc.get k hy
    exact ⟨cs, t, c, rfl, h1, h2⟩
theorem aixS {α : Type} {s k : Nat} {z : Int} {kd : IntKind} {P : List AV → α → Prop} {v : AV} {l : List α} {y : α} (ha : ASt.args ⟨env, loc, h⟩ (.ix s) args = some [v, .int kd z]) (hz : z = (k : Nat)) (hv : IsSl s P v l) (hy : l[k]? = some y)
    (hh : ∀ c, P c y → AO C r ⟨env.put dst (some (.rp c)), loc, h⟩ K) : AO C (⟨i, none, dst, .ix s, args, []⟩ :: r) ⟨env, loc, h⟩ K := by
  obtain ⟨cs, t, c, rfl, h1, h2⟩ := hv.at hy
  subst hz
  exact aix ha h1 (hh c h2)
theorem gaixS {α : Type} {g : Nat} {b w : Bool} {s k : Nat} {z : Int} {kd : IntKind} {P : List AV → α → Prop} {v : AV} {l : List α} {y : α} (hg : env g = some (.bool b)) (hb : b = w) (ha : ASt.args ⟨env, loc, h⟩ (.ix s) args = some [v, .int kd z]) (hz : z = (k : Nat)) (hv : IsSl s P v l) (hy : l[k]? = some y)
    (hh : ∀ c, P c y → AO C r ⟨env.put dst (some (.rp c)), loc, h⟩ K) : AO C (⟨i, some (g, w), dst, .ix s, args, []⟩ :: r) ⟨env, loc, h⟩ K := by
  obtain ⟨cs, t, c, rfl, h1, h2⟩ := hv.at hy
  subst hz
  exact gaix hg hb ha h1 (hh c h2)
end
theorem IsSl.names {α : Type} {s : Nat} {P : List AV → α → Prop} {v : AV} {l : List α} (hv : IsSl s P v l) : v.names = none := by
  rcases hv with ⟨rfl, _⟩ | ⟨cs, t, rfl, _⟩ <;> rfl

theorem c93 {h : AHeap} {a b : ByteArray} : ACalls PR 93 [.str a, .str b] h (SomeI h) := by
  refine fn_sound at93 ok93 (Nat.le_of_ble_eq_true rfl) (afn ?_)
  show AW _ C93 _ _
  unfold C93
  repeat' (first | refine nat1 ?_ | (apply aeqs rfl (by rfl) (by rfl); intro be hbe) | (apply gaeqs rfl (by first | assumption | with_reducible rfl) rfl (by rfl) (by rfl); intro be hbe) | refine gpassS1 rfl rfl rfl rfl rfl (fun _ => ?_) (fun _ => ?_) | refine gpassS0 rfl rfl rfl rfl rfl (fun _ => ?_) (fun _ => ?_) | refine psplitA rfl (fun _ => ?_) (fun _ => ?_) | refine acond rfl (fun _ => ?_) (fun _ => ?_))
  all_goals (apply qf rfl (by rfl) aheap_le; exact ⟨⟨_, rfl⟩, rfl⟩)

theorem c91 {h : AHeap} {a b c d a' b' c' d' : ByteArray} : ACalls PR 91 [.agg [.str a, .str b, .str c, .str d], .agg [.str a', .str b', .str c', .str d']] h (SomeI h) := by
  refine fn_sound at91 ok91 (Nat.le_of_ble_eq_true rfl) (afn ?_)
  show AW _ C91 _ _
  unfold C91
  repeat' (first | refine nat1 ?_ | (apply acallpp monoR rfl (by rfl) c93; rintro _ _ ⟨⟨_, rfl⟩, rfl⟩; refine ⟨rfl, rfl, ?_⟩) | (apply gcallpp rfl (by first | assumption | with_reducible rfl) monoR rfl (by rfl) c93; rintro _ _ ⟨⟨_, rfl⟩, rfl⟩; refine ⟨rfl, rfl, ?_⟩) | (refine gcallS1 rfl monoR rfl (by rfl) c93 (fun _ => ?_) (fun _ => ?_); rintro _ _ ⟨⟨_, rfl⟩, rfl⟩; refine ⟨rfl, rfl, ?_⟩) | (refine gcallS0 rfl monoR rfl (by rfl) c93 (fun _ => ?_) (fun _ => ?_); rintro _ _ ⟨⟨_, rfl⟩, rfl⟩; refine ⟨rfl, rfl, ?_⟩) | (apply aeqs rfl (by rfl) (by rfl); intro be hbe) | (apply gaeqs rfl (by first | assumption | with_reducible rfl) rfl (by rfl) (by rfl); intro be hbe) | refine gpassS1 rfl rfl rfl rfl rfl (fun _ => ?_) (fun _ => ?_) | refine gpassS0 rfl rfl rfl rfl rfl (fun _ => ?_) (fun _ => ?_) | refine psplitA rfl (fun _ => ?_) (fun _ => ?_) | refine acond rfl (fun _ => ?_) (fun _ => ?_))
  rename_i w1 w2 w3 w4
  refine aloop (fun q s => ∃ k : Nat, q + k = 4 ∧ s = ⟨Env.of [(27, some (.agg [.int .i64 w1, .int .i64 w2, .int .i64 w3, .int .i64 w4])), (28, some (.int .i64 k))], Loc.of [], h⟩) 4 ⟨0, rfl, rfl⟩ ?_
  rintro q s' ⟨k, hq, rfl⟩
  refine nav ?_
  refine acond rfl (fun hc => ?_) (fun hc => ?_)
  · have hk : k < 4 := by have := of_decide_eq_true hc; omega
    have hk4 : k = 0 ∨ k = 1 ∨ k = 2 ∨ k = 3 := by omega
    rcases hk4 with rfl | rfl | rfl | rfl
    all_goals (
      repeat' (first | refine nat1 ?_ | (apply aeqs rfl (by rfl) (by rfl); intro be hbe) | (apply gaeqs rfl (by first | assumption | with_reducible rfl) rfl (by rfl) (by rfl); intro be hbe) | refine gpassS1 rfl rfl rfl rfl rfl (fun _ => ?_) (fun _ => ?_) | refine gpassS0 rfl rfl rfl rfl rfl (fun _ => ?_) (fun _ => ?_) | refine psplitA rfl (fun _ => ?_) (fun _ => ?_) | refine acond rfl (fun _ => ?_) (fun _ => ?_))
      all_goals first
        | exact ql_n (q - 1) (by omega) ⟨1, by omega, rfl⟩
        | exact ql_n (q - 1) (by omega) ⟨2, by omega, rfl⟩
        | exact ql_n (q - 1) (by omega) ⟨3, by omega, rfl⟩
        | exact ql_n (q - 1) (by omega) ⟨4, by omega, rfl⟩
        | (apply qf rfl (by rfl) aheap_le; exact ⟨⟨_, rfl⟩, rfl⟩))
  · refine nav ?_
    apply qf rfl (by rfl) aheap_le
    exact ⟨⟨_, rfl⟩, rfl⟩

theorem c88 {h : AHeap} {p p' : Pick} : ACalls PR 88 [.agg p.enc, .agg p'.enc] h (SomeI h) := by
  refine fn_sound at88 ok88 (Nat.le_of_ble_eq_true rfl) (afn ?_)
  show AW _ C88 _ _
  unfold C88
  unfold Pick.enc
  repeat' (first | refine nat1 ?_ | (apply acallpp monoR rfl (by rfl) c91; rintro _ _ ⟨⟨_, rfl⟩, rfl⟩; refine ⟨rfl, rfl, ?_⟩) | (apply gcallpp rfl (by first | assumption | with_reducible rfl) monoR rfl (by rfl) c91; rintro _ _ ⟨⟨_, rfl⟩, rfl⟩; refine ⟨rfl, rfl, ?_⟩) | (refine gcallS1 rfl monoR rfl (by rfl) c91 (fun _ => ?_) (fun _ => ?_); rintro _ _ ⟨⟨_, rfl⟩, rfl⟩; refine ⟨rfl, rfl, ?_⟩) | (refine gcallS0 rfl monoR rfl (by rfl) c91 (fun _ => ?_) (fun _ => ?_); rintro _ _ ⟨⟨_, rfl⟩, rfl⟩; refine ⟨rfl, rfl, ?_⟩) | (apply aeqs rfl (by rfl) (by rfl); intro be hbe) | (apply gaeqs rfl (by first | assumption | with_reducible rfl) rfl (by rfl) (by rfl); intro be hbe) | refine gpassS1 rfl rfl rfl rfl rfl (fun _ => ?_) (fun _ => ?_) | refine gpassS0 rfl rfl rfl rfl rfl (fun _ => ?_) (fun _ => ?_) | refine psplitA rfl (fun _ => ?_) (fun _ => ?_) | refine acond rfl (fun _ => ?_) (fun _ => ?_))
  · apply qf rfl (by rfl) aheap_le; exact ⟨⟨_, rfl⟩, rfl⟩
  · refine aloop (fun q s => ∃ k : Nat, q + k = 5 ∧ s = ⟨Env.of [(41, some (.agg [.int .i64 p.time, .int .i64 p'.time, .int .i64 p.early, .int .i64 p'.early, .int .i64 p.late, .int .i64 p'.late, .int .i64 p.amp, .int .i64 p'.amp, .int .i64 p.pol, .int .i64 p'.pol])), (42, some (.int .i64 k))], Loc.of [], h⟩) 5 ⟨0, rfl, rfl⟩ ?_
    rintro q s' ⟨k, hq, rfl⟩
    refine nav ?_
    refine acond rfl (fun hc => ?_) (fun hc => ?_)
    · have hk : k < 5 := by have := of_decide_eq_true hc; omega
      have hk4 : k = 0 ∨ k = 1 ∨ k = 2 ∨ k = 3 ∨ k = 4 := by omega
      rcases hk4 with rfl | rfl | rfl | rfl | rfl
      all_goals (
        repeat' (first | refine nat1 ?_ | (apply aeqs rfl (by rfl) (by rfl); intro be hbe) | (apply gaeqs rfl (by first | assumption | with_reducible rfl) rfl (by rfl) (by rfl); intro be hbe) | refine gpassS1 rfl rfl rfl rfl rfl (fun _ => ?_) (fun _ => ?_) | refine gpassS0 rfl rfl rfl rfl rfl (fun _ => ?_) (fun _ => ?_) | refine psplitA rfl (fun _ => ?_) (fun _ => ?_) | refine acond rfl (fun _ => ?_) (fun _ => ?_))
        all_goals first
          | exact ql_n (q - 1) (by omega) ⟨1, by omega, rfl⟩
          | exact ql_n (q - 1) (by omega) ⟨2, by omega, rfl⟩
          | exact ql_n (q - 1) (by omega) ⟨3, by omega, rfl⟩
          | exact ql_n (q - 1) (by omega) ⟨4, by omega, rfl⟩
          | exact ql_n (q - 1) (by omega) ⟨5, by omega, rfl⟩
          | (apply qf rfl (by rfl) aheap_le; exact ⟨⟨_, rfl⟩, rfl⟩))
    · refine nav ?_
      apply qf rfl (by rfl) aheap_le
      exact ⟨⟨_, rfl⟩, rfl⟩

theorem c80 {h : AHeap} {p p' : Pick} : ACalls PR 80 [.agg p.enc, .agg p'.enc] h (SomeI h) := by
  refine fn_sound at80 ok80 (Nat.le_of_ble_eq_true rfl) (afn ?_)
  show AW _ C80 _ _
  unfold C80
  have k88 := c88 (h := h) (p := p) (p' := p')
  unfold Pick.enc
  repeat' (first | refine nat1 ?_ | (apply acallpp monoR rfl (by rfl) k88; rintro _ _ ⟨⟨_, rfl⟩, rfl⟩; refine ⟨rfl, rfl, ?_⟩) | (apply gcallpp rfl (by first | assumption | with_reducible rfl) monoR rfl (by rfl) k88; rintro _ _ ⟨⟨_, rfl⟩, rfl⟩; refine ⟨rfl, rfl, ?_⟩) | (refine gcallS1 rfl monoR rfl (by rfl) k88 (fun _ => ?_) (fun _ => ?_); rintro _ _ ⟨⟨_, rfl⟩, rfl⟩; refine ⟨rfl, rfl, ?_⟩) | (refine gcallS0 rfl monoR rfl (by rfl) k88 (fun _ => ?_) (fun _ => ?_); rintro _ _ ⟨⟨_, rfl⟩, rfl⟩; refine ⟨rfl, rfl, ?_⟩) | (apply aeqs rfl (by rfl) (by rfl); intro be hbe) | (apply gaeqs rfl (by first | assumption | with_reducible rfl) rfl (by rfl) (by rfl); intro be hbe) | refine gpassS1 rfl rfl rfl rfl rfl (fun _ => ?_) (fun _ => ?_) | refine gpassS0 rfl rfl rfl rfl rfl (fun _ => ?_) (fun _ => ?_) | refine psplitA rfl (fun _ => ?_) (fun _ => ?_) | refine acond rfl (fun _ => ?_) (fun _ => ?_))
  all_goals (apply qf rfl (by rfl) aheap_le; exact ⟨⟨_, rfl⟩, rfl⟩)

theorem pick_get {ps : List Pick} {k : Nat} (h : k < ps.length) : ∃ x : Pick, ps[k]? = some x ∧ (ps.map Pick.enc)[k]? = some x.enc := map_get h

theorem c78 {h : AHeap} {ps : List Pick} {t : Tag} (hne : ps ≠ []) (hl : ps.length ≤ 1000) : ACalls PR 78 [.sl 9 (ps.map Pick.enc) t] h fun u h' => (∃ q : Pick, u = .agg q.enc) ∧ h = h' := by
  refine fn_sound at78 ok78 (Nat.le_of_ble_eq_true rfl) (afn ?_)
  show AW _ C78 _ _
  unfold C78
  obtain ⟨p0, hp0, he0⟩ := pick_get (ps := ps) (k := 0) (List.length_pos_iff.2 hne)
  simp only [Pick.enc] at he0
  refine naw ?_
  refine aloop (fun q s => ∃ (k : Nat) (b : Pick), q + k = ps.length + 1 ∧ s = ⟨Env.of [(0, some (.sl 9 (ps.map Pick.enc) t)), (2, some (.lp 2 0 0)), (3, some (.lp 3 0 0)), (4, some (.int .i64 k))],
    Loc.of [(2, some (.arr 9 [zs9])), (3, some (.arr 9 [b.enc]))], h⟩) ps.length ⟨1, p0, by omega, rfl⟩ ?_
  rintro q s' ⟨k, b, hq, rfl⟩
  simp only [Pick.enc, zs9]
  refine naw ?_
  refine acond rfl (fun hc => ?_) (fun hc => ?_)
  · have hk : k < ps.length := by have := of_decide_eq_true hc; simpa using this
    obtain ⟨p, hp, he⟩ := pick_get hk
    simp only [Pick.enc] at he
    have k80 := c80 (h := h) (p := p) (p' := b)
    repeat' (first | refine nat1 ?_ | (apply acallpp monoR rfl (by rfl) k80; rintro _ _ ⟨⟨_, rfl⟩, rfl⟩; refine ⟨rfl, rfl, ?_⟩) | (apply gcallpp rfl (by first | assumption | with_reducible rfl) monoR rfl (by rfl) k80; rintro _ _ ⟨⟨_, rfl⟩, rfl⟩; refine ⟨rfl, rfl, ?_⟩) | (refine gcallS1 rfl monoR rfl (by rfl) k80 (fun _ => ?_) (fun _ => ?_); rintro _ _ ⟨⟨_, rfl⟩, rfl⟩; refine ⟨rfl, rfl, ?_⟩) | (refine gcallS0 rfl monoR rfl (by rfl) k80 (fun _ => ?_) (fun _ => ?_); rintro _ _ ⟨⟨_, rfl⟩, rfl⟩; refine ⟨rfl, rfl, ?_⟩) | (apply aeqs rfl (by rfl) (by rfl); intro be hbe) | (apply gaeqs rfl (by first | assumption | with_reducible rfl) rfl (by rfl) (by rfl); intro be hbe) | refine gpassS1 rfl rfl rfl rfl rfl (fun _ => ?_) (fun _ => ?_) | refine gpassS0 rfl rfl rfl rfl rfl (fun _ => ?_) (fun _ => ?_) | refine psplitA rfl (fun _ => ?_) (fun _ => ?_) | refine acond rfl (fun _ => ?_) (fun _ => ?_))
    · exact ql_n (q - 1) (by omega) ⟨k + 1, p, by omega, rfl⟩
    · exact ql_n (q - 1) (by omega) ⟨k + 1, b, by omega, rfl⟩
  · refine naw ?_
    apply qf rfl (by rfl) aheap_le
    exact ⟨⟨b, rfl⟩, rfl⟩

theorem c63 {h : AHeap} {v : AV} {l : List Event} {nm : Pick} (hv : IsSl 25 IsEv v l) (hl : l.length ≤ 1000) : ACalls PR 63 [v, .agg nm.enc] h fun u h' => (∃ k : Int, u = .int .i64 k ∧ -1 ≤ k ∧ k < l.length) ∧ h = h' := by
  refine fn_sound at63 ok63 (Nat.le_of_ble_eq_true rfl) (afn ?_)
  show AW _ C63 _ _
  unfold C63
  have hN := hv.names
  refine naw ?_
  refine aloop (fun q s => ∃ (k : Nat), q + k = l.length ∧ s = ⟨Env.of [(0, some v), (3, some (.lp 3 0 0)), (5, some (.int .i64 k))], Loc.of [(3, some (.arr 9 [nm.enc]))], h⟩) l.length ⟨0, by omega, rfl⟩ ?_
  rintro q s' ⟨k, hq, rfl⟩
  simp only [Pick.enc]
  refine naw ?_
  apply alenS rfl hv
  refine naw ?_
  refine acond rfl (fun hc => ?_) (fun hc => ?_)
  · have hk : k < l.length := by have := of_decide_eq_true hc; omega
    refine naw ?_
    apply aixS rfl rfl hv (List.getElem?_eq_getElem hk)
    rintro _ ⟨te, (rfl : _ = evc _ te)⟩
    unfold evc
    repeat' (first | refine nat1 ?_ | (apply aeqs rfl (by rfl) (by rfl); intro be hbe) | (apply gaeqs rfl (by first | assumption | with_reducible rfl) rfl (by rfl) (by rfl); intro be hbe) | refine gpassS1 rfl rfl rfl rfl rfl (fun _ => ?_) (fun _ => ?_) | refine gpassS0 rfl rfl rfl rfl rfl (fun _ => ?_) (fun _ => ?_) | refine psplitA rfl (fun _ => ?_) (fun _ => ?_) | refine acond rfl (fun _ => ?_) (fun _ => ?_))
    · apply qf rfl (by rfl) aheap_le
      exact ⟨⟨k, rfl, by omega, by omega⟩, rfl⟩
    · exact ql_n (q - 1) (by omega) ⟨k + 1, by omega, rfl⟩
  · refine naw ?_
    apply qf rfl (by rfl) aheap_le
    exact ⟨⟨-1, rfl, by omega, by omega⟩, rfl⟩

theorem c64 {h : AHeap} {ps bs : List Pick} {t t' : Tag} (hl : ps.length ≤ 1000) (hl' : bs.length ≤ 1000) : ACalls PR 64 [.sl 9 (ps.map Pick.enc) t, .sl 9 (bs.map Pick.enc) t'] h (SomeB h) := by
  refine fn_sound at64 ok64 (Nat.le_of_ble_eq_true rfl) (afn ?_)
  show AW _ C64 _ _
  unfold C64
  refine naw ?_
  refine aloop (fun q s => ∃ (k : Nat), q + k = ps.length ∧ s = ⟨Env.of [(0, some (.sl 9 (ps.map Pick.enc) t)), (1, some (.sl 9 (bs.map Pick.enc) t')), (5, some (.int .i64 k))], Loc.of [], h⟩) ps.length ⟨0, by omega, rfl⟩ ?_
  rintro q s' ⟨k, hq, rfl⟩
  refine naw ?_
  refine acond rfl (fun hc => ?_) (fun hc => ?_)
  · have hk : k < ps.length := by have := of_decide_eq_true hc; simpa using this
    obtain ⟨p, hp, he⟩ := pick_get hk
    simp only [Pick.enc] at he
    refine naw ?_
    refine aloop (fun q2 s => ∃ (j : Nat), q2 + j = bs.length ∧ s = ⟨Env.of [(0, some (.sl 9 (ps.map Pick.enc) t)), (1, some (.sl 9 (bs.map Pick.enc) t')), (5, some (.int .i64 k)), (6, some (.int .i64 j))], Loc.of [], h⟩) bs.length ⟨0, by omega, rfl⟩ ?_
    rintro q2 s2 ⟨j, hq2, rfl⟩
    refine naw ?_
    refine acond rfl (fun hc2 => ?_) (fun hc2 => ?_)
    · have hj : j < bs.length := by have := of_decide_eq_true hc2; simpa using this
      obtain ⟨p', hp', he'⟩ := pick_get hj
      simp only [Pick.enc] at he'
      repeat' (first | refine nat1 ?_ | (apply aeqs rfl (by rfl) (by rfl); intro be hbe) | (apply gaeqs rfl (by first | assumption | with_reducible rfl) rfl (by rfl) (by rfl); intro be hbe) | refine gpassS1 rfl rfl rfl rfl rfl (fun _ => ?_) (fun _ => ?_) | refine gpassS0 rfl rfl rfl rfl rfl (fun _ => ?_) (fun _ => ?_) | refine psplitA rfl (fun _ => ?_) (fun _ => ?_) | refine acond rfl (fun _ => ?_) (fun _ => ?_))
      · apply qf rfl (by rfl) aheap_le
        exact ⟨⟨_, rfl⟩, rfl⟩
      · exact ql_n (q2 - 1) (by omega) ⟨j + 1, by omega, rfl⟩
    · refine naw ?_
      exact ql_n (q - 1) (by omega) ⟨k + 1, by omega, rfl⟩
  · refine naw ?_
    apply qf rfl (by rfl) aheap_le
    exact ⟨⟨_, rfl⟩, rfl⟩

theorem c81 {h : AHeap} {ps bs : List Pick} {t t' : Tag} (hl : ps.length ≤ 1000) (hl' : bs.length ≤ 1000) : ACalls PR 81 [.sl 9 (ps.map Pick.enc) t, .sl 9 (bs.map Pick.enc) t'] h (SomeB h) := by
  refine fn_sound at81 ok81 (Nat.le_of_ble_eq_true rfl) (afn ?_)
  show AW _ C81 _ _
  unfold C81
  refine naw ?_
  refine aloop (fun q s => ∃ (k : Nat), q + k = ps.length ∧ s = ⟨Env.of [(0, some (.sl 9 (ps.map Pick.enc) t)), (1, some (.sl 9 (bs.map Pick.enc) t')), (5, some (.int .i64 k))], Loc.of [], h⟩) ps.length ⟨0, by omega, rfl⟩ ?_
  rintro q s' ⟨k, hq, rfl⟩
  refine naw ?_
  refine acond rfl (fun hc => ?_) (fun hc => ?_)
  · have hk : k < ps.length := by have := of_decide_eq_true hc; simpa using this
    obtain ⟨p, hp, he⟩ := pick_get hk
    simp only [Pick.enc] at he
    refine naw ?_
    refine aloop (fun q2 s => ∃ (j : Nat), q2 + j = bs.length ∧ s = ⟨Env.of [(0, some (.sl 9 (ps.map Pick.enc) t)), (1, some (.sl 9 (bs.map Pick.enc) t')), (5, some (.int .i64 k)), (6, some (.int .i64 j))], Loc.of [], h⟩) bs.length ⟨0, by omega, rfl⟩ ?_
    rintro q2 s2 ⟨j, hq2, rfl⟩
    refine naw ?_
    refine acond rfl (fun hc2 => ?_) (fun hc2 => ?_)
    · have hj : j < bs.length := by have := of_decide_eq_true hc2; simpa using this
      obtain ⟨p', hp', he'⟩ := pick_get hj
      simp only [Pick.enc] at he'
      repeat' (first | refine nat1 ?_ | (apply aeqs rfl (by rfl) (by rfl); intro be hbe) | (apply gaeqs rfl (by first | assumption | with_reducible rfl) rfl (by rfl) (by rfl); intro be hbe) | refine gpassS1 rfl rfl rfl rfl rfl (fun _ => ?_) (fun _ => ?_) | refine gpassS0 rfl rfl rfl rfl rfl (fun _ => ?_) (fun _ => ?_) | refine psplitA rfl (fun _ => ?_) (fun _ => ?_) | refine acond rfl (fun _ => ?_) (fun _ => ?_))
      · apply qf rfl (by rfl) aheap_le
        exact ⟨⟨_, rfl⟩, rfl⟩
      · exact ql_n (q2 - 1) (by omega) ⟨j + 1, by omega, rfl⟩
    · refine naw ?_
      exact ql_n (q - 1) (by omega) ⟨k + 1, by omega, rfl⟩
  · refine naw ?_
    apply qf rfl (by rfl) aheap_le
    exact ⟨⟨_, rfl⟩, rfl⟩
end Go.Proofs.Ytkdphdcpofcnjaa

/- K10: contracts of seat 36: equality in the reference, the open alerts. -/
namespace Go.Proofs.Ytkdphdcpofcnjaa
open Go Abs
set_option linter.unusedSimpArgs false
set_option linter.unusedVariables false
set_option maxHeartbeats 1000000
attribute [local irreducible] Go.IntKind.wrap

def intc (c : List AV) (x : Int) : Prop := c = [.int .i64 x]
theorem c41 {h : AHeap} {rv : AV} {xs : List Int} {x : Int} (hrv : IsSl 1 intc rv xs) (hl : xs.length ≤ 1000) :
    ACalls PR 41 [rv, .int .i64 x] h fun v h' => v = .bool (decide (x ∈ xs)) ∧ h = h' := by
  refine fn_sound at41 ok41 (Nat.le_of_ble_eq_true rfl) (afn ?_)
  show AW _ C41 _ _
  unfold C41
  have hN := hrv.names
  refine nav ?_
  refine aloop (fun q s => ∃ k : Nat, q + k = xs.length ∧ (∀ i (hi : i < xs.length), i < k → xs[i] ≠ x) ∧ s = ⟨Env.of [(0, some rv), (1, some (.int .i64 x)), (5, some (.int .i64 k))], Loc.of [], h⟩) (xs.length) ⟨0, by simp, by simp, rfl⟩ ?_
  rintro q s' ⟨k, hq, hne, rfl⟩
  refine nav ?_
  apply alenS rfl hrv
  refine naw ?_
  refine acond rfl (fun hc => ?_) (fun hc => ?_)
  · have hlt : k < xs.length := by have := of_decide_eq_true hc; omega
    refine naw ?_
    apply aixS rfl rfl hrv (List.getElem?_eq_getElem hlt)
    rintro _ rfl
    refine naw ?_
    refine acond rfl (fun hd => ?_) (fun hd => ?_)
    · refine naw ?_
      apply qf rfl (by rfl) aheap_le
      refine ⟨?_, rfl⟩
      have hm : x ∈ xs := by
        rw [← of_decide_eq_true hd]; exact List.getElem_mem hlt
      simp [resV, hm]
    · have hk1 : xs[k] ≠ x := of_decide_eq_false hd
      refine naw ?_
      refine ql_n (q - 1) (by omega) ⟨k + 1, by omega, fun i hi hik => ?_, rfl⟩
      rcases Nat.lt_or_ge i k with h1 | h1
      · exact hne i hi h1
      · have : i = k := by omega
        subst this; exact hk1
  · have hlt : ¬ k < xs.length := by have := of_decide_eq_false hc; omega
    refine naw ?_
    apply qf rfl (by rfl) aheap_le
    refine ⟨?_, rfl⟩
    have hm : x ∉ xs := fun hm => by
      obtain ⟨i, hi, e⟩ := List.getElem_of_mem hm
      exact hne i hi (by omega) e
    simp [resV, hm]

theorem c59 {h : AHeap} {ps : List Pick} {t : Tag} {w : AV} {qs : List Pick} (hw : IsSl 9 (fun c (p : Pick) => c = p.enc) w qs) (hl : ps.length ≤ 1000) :
    ACalls PR 59 [.sl 9 (ps.map Pick.enc) t, w] h fun v h' => (∃ b, v = .bool b ∧ (ps = qs → b = true)) ∧ h = h' := by
  refine fn_sound at59 ok59 (Nat.le_of_ble_eq_true rfl) (afn ?_)
  show AW _ C59 _ _
  unfold C59
  have hN := hw.names
  refine nav ?_
  apply alenS rfl hw
  rw [List.length_map]
  refine nav ?_
  refine acond rfl (fun hc => ?_) (fun hc => ?_)
  · refine naw ?_
    apply qf rfl (by rfl) aheap_le
    refine ⟨⟨_, rfl, fun e => ?_⟩, rfl⟩
    subst e; simp at hc
  · have hll : ps.length = qs.length := by have := of_decide_eq_true (by simpa using hc : decide ((ps.length : Int) = qs.length) = true); omega
    refine naw ?_
    refine aloop (fun q s => ∃ k : Nat, q + k = ps.length ∧ s = ⟨Env.of [(0, some (.sl 9 (ps.map Pick.enc) t)), (1, some w), (5, some (.int .i64 k))], Loc.of [], h⟩) (ps.length) ⟨0, by simp, rfl⟩ ?_
    rintro q s' ⟨k, hq, rfl⟩
    refine naw ?_
    refine acond rfl (fun hc => ?_) (fun hc => ?_)
    · have hlt : k < ps.length := by have := of_decide_eq_true hc; simpa using this
      obtain ⟨p, hp, he⟩ := pick_get hlt
      obtain ⟨p', hp', he'⟩ := pick_get (ps := qs) (k := k) (by omega)
      simp only [Pick.enc] at he
      refine naw ?_
      apply aixS rfl rfl hw hp'
      rintro _ rfl
      simp only [Pick.enc]
      repeat' (first | refine nat1 ?_ | (apply aeqs rfl (by rfl) (by rfl); intro be hbe) | (apply gaeqs rfl (by first | assumption | with_reducible rfl) rfl (by rfl) (by rfl); intro be hbe) | refine gpassS1 rfl rfl rfl rfl rfl (fun _ => ?_) (fun _ => ?_) | refine gpassS0 rfl rfl rfl rfl rfl (fun _ => ?_) (fun _ => ?_) | refine psplitA rfl (fun _ => ?_) (fun _ => ?_) | refine acond rfl (fun _ => ?_) (fun _ => ?_))
      · apply qf rfl (by rfl) aheap_le
        refine ⟨⟨_, rfl, fun e => ?_⟩, rfl⟩
        subst e
        rw [hp] at hp'; cases hp'
        simp_all
      · exact ql_n (q - 1) (by omega) ⟨k + 1, by omega, rfl⟩
    · refine naw ?_
      apply qf rfl (by rfl) aheap_le
      exact ⟨⟨_, rfl, fun _ => rfl⟩, rfl⟩

def solc (v : Event) (t : Tag) : List AV := (evc v t).drop 9
theorem isPks {ps : List Pick} {t : Tag} : IsSl 9 (fun c (p : Pick) => c = p.enc) (.sl 9 (ps.map Pick.enc) t) ps := .inr ⟨_, t, rfl, All2.ofMap _ fun _ _ => rfl⟩

theorem c36 {h : AHeap} {v : Event} {t t' : Tag} (hl : v.picks.length ≤ 1000) : ACalls PR 36 [.agg (solc v t), .agg (solc v t')] h fun u h' => u = .bool true ∧ h = h' := by
  refine fn_sound at36 ok36 (Nat.le_of_ble_eq_true rfl) (afn ?_)
  show AW _ C36 _ _
  unfold C36
  unfold solc evc
  simp only [List.drop_succ_cons, List.drop_zero]
  have k59 : ACalls PR 59 [.sl 9 (v.picks.map Pick.enc) t, .sl 9 (v.picks.map Pick.enc) t'] h fun u h' => u = .bool true ∧ h = h' :=
    (c59 isPks hl).mono fun u h' ⟨⟨b, e1, e2⟩, e3⟩ => ⟨by rw [e1, e2 rfl], e3⟩
  repeat' (first | refine nat1 ?_ | (apply acallpp monoR rfl (by rfl) k59; rintro _ _ ⟨rfl, rfl⟩; refine ⟨rfl, rfl, ?_⟩) | (apply gcallpp rfl (by first | assumption | with_reducible rfl) monoR rfl (by rfl) k59; rintro _ _ ⟨rfl, rfl⟩; refine ⟨rfl, rfl, ?_⟩) | (refine gcallS1 rfl monoR rfl (by rfl) k59 (fun _ => ?_) (fun _ => ?_); rintro _ _ ⟨rfl, rfl⟩; refine ⟨rfl, rfl, ?_⟩) | (refine gcallS0 rfl monoR rfl (by rfl) k59 (fun _ => ?_) (fun _ => ?_); rintro _ _ ⟨rfl, rfl⟩; refine ⟨rfl, rfl, ?_⟩) | (apply aeqs rfl (by rfl) (by rfl); intro be hbe) | (apply gaeqs rfl (by first | assumption | with_reducible rfl) rfl (by rfl) (by rfl); intro be hbe) | refine gpassS1 rfl rfl rfl rfl rfl (fun _ => ?_) (fun _ => ?_) | refine gpassS0 rfl rfl rfl rfl rfl (fun _ => ?_) (fun _ => ?_) | refine psplitA rfl (fun _ => ?_) (fun _ => ?_) | refine acond rfl (fun _ => ?_) (fun _ => ?_))
  all_goals first
    | (apply qf rfl (by rfl) aheap_le; exact ⟨rfl, rfl⟩)
    | (apply qf rfl (by rfl) aheap_le; exact ⟨by simp_all [resV], rfl⟩)
    | (exfalso; simp_all; done)

theorem c18 {h : AHeap} {v : Event} {t t' : Tag} (hl : v.picks.length ≤ 1000) : ACalls PR 18 [.agg (evc v t), .agg (evc v t')] h fun u h' => u = .bool true ∧ h = h' := by
  refine fn_sound at18 ok18 (Nat.le_of_ble_eq_true rfl) (afn ?_)
  show AW _ C18 _ _
  unfold C18
  unfold evc
  have k36 := c36 (h := h) (t := t) (t' := t') hl
  repeat' (first | refine nat1 ?_ | (apply acallpp monoR rfl (by rfl) k36; rintro _ _ ⟨rfl, rfl⟩; refine ⟨rfl, rfl, ?_⟩) | (apply gcallpp rfl (by first | assumption | with_reducible rfl) monoR rfl (by rfl) k36; rintro _ _ ⟨rfl, rfl⟩; refine ⟨rfl, rfl, ?_⟩) | (refine gcallS1 rfl monoR rfl (by rfl) k36 (fun _ => ?_) (fun _ => ?_); rintro _ _ ⟨rfl, rfl⟩; refine ⟨rfl, rfl, ?_⟩) | (refine gcallS0 rfl monoR rfl (by rfl) k36 (fun _ => ?_) (fun _ => ?_); rintro _ _ ⟨rfl, rfl⟩; refine ⟨rfl, rfl, ?_⟩) | (apply aeqs rfl (by rfl) (by rfl); intro be hbe) | (apply gaeqs rfl (by first | assumption | with_reducible rfl) rfl (by rfl) (by rfl); intro be hbe) | refine gpassS1 rfl rfl rfl rfl rfl (fun _ => ?_) (fun _ => ?_) | refine gpassS0 rfl rfl rfl rfl rfl (fun _ => ?_) (fun _ => ?_) | refine psplitA rfl (fun _ => ?_) (fun _ => ?_) | refine acond rfl (fun _ => ?_) (fun _ => ?_))
  all_goals first
    | (apply qf rfl (by rfl) aheap_le; exact ⟨rfl, rfl⟩)
    | (apply qf rfl (by rfl) aheap_le; exact ⟨by simp_all [resV], rfl⟩)
    | (exfalso; simp_all; done)
end Go.Proofs.Ytkdphdcpofcnjaa

/- K11: contracts of seat 36: lists of alerts in the reference. -/
namespace Go.Proofs.Ytkdphdcpofcnjaa
open Go Abs
set_option linter.unusedSimpArgs false
set_option linter.unusedVariables false
set_option maxHeartbeats 1000000
attribute [local irreducible] Go.IntKind.wrap

/-- Alerts whose events have few picks. -/
def Alert.small (a : Alert) : Prop := a.ev.picks.length ≤ 1000

theorem c12 {h : AHeap} {v w : AV} {l : List Alert} (hv : IsSl 38 IsAl v l) (hw : IsSl 38 IsAl w l) (hl : l.length ≤ 1000) (hs : ∀ a ∈ l, a.small) :
    ACalls PR 12 [v, w] h fun u h' => u = .bool true ∧ h = h' := by
  refine fn_sound at12 ok12 (Nat.le_of_ble_eq_true rfl) (afn ?_)
  show AW _ C12 _ _
  unfold C12
  have hN : v.names = none ∧ w.names = none := ⟨hv.names, hw.names⟩
  refine nav ?_
  apply alenS rfl hv
  refine nav ?_
  apply alenS rfl hw
  refine nav ?_
  apply acondF rfl (by simp)
  refine nav ?_
  refine aloop (fun q s => ∃ k : Nat, q + k = l.length ∧ s = ⟨Env.of [(0, some v), (1, some w), (5, some (.int .i64 k))], Loc.of [], h⟩) (l.length) ⟨0, by simp, rfl⟩ ?_
  rintro q s' ⟨k, hq, rfl⟩
  refine nav ?_
  apply alenS rfl hv
  refine nav ?_
  refine acond rfl (fun hc => ?_) (fun hc => ?_)
  · have hlt : k < l.length := by have := of_decide_eq_true hc; omega
    obtain ⟨cs, t, c, rfl, hx, tc, hc'⟩ := hv.at (List.getElem?_eq_getElem hlt)
    obtain ⟨cs', t', c', rfl, hx', tc', hc''⟩ := hw.at (List.getElem?_eq_getElem hlt)
    have hsm := hs _ (List.getElem_mem hlt)
    generalize l[k] = a at *
    subst hc' hc''
    unfold alc at hx hx'
    have k18 := c18 (h := h) (v := a.ev) (t := tc) (t' := tc') hsm
    repeat' (first | refine nat1 ?_ | (apply acallpp monoR rfl (by rfl) k18; rintro _ _ ⟨rfl, rfl⟩; refine ⟨rfl, rfl, ?_⟩) | (apply gcallpp rfl (by first | assumption | with_reducible rfl) monoR rfl (by rfl) k18; rintro _ _ ⟨rfl, rfl⟩; refine ⟨rfl, rfl, ?_⟩) | (refine gcallS1 rfl monoR rfl (by rfl) k18 (fun _ => ?_) (fun _ => ?_); rintro _ _ ⟨rfl, rfl⟩; refine ⟨rfl, rfl, ?_⟩) | (refine gcallS0 rfl monoR rfl (by rfl) k18 (fun _ => ?_) (fun _ => ?_); rintro _ _ ⟨rfl, rfl⟩; refine ⟨rfl, rfl, ?_⟩) | (apply aeqs rfl (by rfl) (by rfl); intro be hbe) | (apply gaeqs rfl (by first | assumption | with_reducible rfl) rfl (by rfl) (by rfl); intro be hbe) | refine gpassS1 rfl rfl rfl rfl rfl (fun _ => ?_) (fun _ => ?_) | refine gpassS0 rfl rfl rfl rfl rfl (fun _ => ?_) (fun _ => ?_) | refine psplitA rfl (fun _ => ?_) (fun _ => ?_) | refine acond rfl (fun _ => ?_) (fun _ => ?_))
    all_goals first
      | exact ql_n (q - 1) (by omega) ⟨k + 1, by omega, rfl⟩
      | (exfalso; simp_all; done)
  · refine naw ?_
    apply qf rfl (by rfl) aheap_le
    exact ⟨rfl, rfl⟩

/-- A slice under way: none yet, or one with the token that lets it grow. -/
def Grow {α : Type} (s : Nat) (P : List AV → α → Prop) (h : AHeap) (v : AV) (l : List α) (al : List Nat) : Prop :=
  (v = .nils ∧ l = [] ∧ al = h.al) ∨ ∃ cs t, v = .sl s cs (.tok t) ∧ al = t :: h.al ∧ All2 P cs l
theorem Grow.names {α : Type} {s : Nat} {P : List AV → α → Prop} {h : AHeap} {v : AV} {l : List α} {al : List Nat} (g : Grow s P h v l al) : v.names = none := by
  rcases g with ⟨rfl, _⟩ | ⟨cs, t, rfl, _⟩ <;> rfl
theorem Grow.sl {α : Type} {s : Nat} {P : List AV → α → Prop} {h : AHeap} {v : AV} {l : List α} {al : List Nat} (g : Grow s P h v l al) : IsSl s P v l := by
  rcases g with ⟨rfl, rfl, _⟩ | ⟨cs, t, rfl, _, hc⟩
  · exact .inl ⟨rfl, rfl⟩
  · exact .inr ⟨cs, _, rfl, hc⟩
theorem Grow.le {α : Type} {s : Nat} {P : List AV → α → Prop} {h : AHeap} {v : AV} {l : List α} {al : List Nat} (g : Grow s P h v l al) : AHeap.le h (h.tok al) := by
  refine ⟨fun _ _ h => h, ?_⟩
  rcases g with ⟨_, _, rfl⟩ | ⟨_, t, _, rfl, _⟩
  · exact List.Sublist.refl _
  · exact List.sublist_cons_self _ _
section
variable {C : Con} {K : ASt → Prop} {env : Abs.Env} {loc : Abs.Loc} {h : AHeap} {i : Nat} {dst : Option Nat} {args : List Opd} {r : List AIns}
/-- An append of one element to a slice under way. -/
theorem aappG {α : Type} {sz mx : Nat} {P : List AV → α → Prop} {h0 : AHeap} {v : AV} {l : List α} {c : List AV} {y : α} {tg' : Tag} (ha : ASt.args ⟨env, loc, h⟩ (.app sz mx) args = some [v, .sl sz [c] tg']) (g : Grow sz P h0 v l h.al) (hc : P c y) (hmx : l.length + 1 ≤ mx)
    (hh : ∀ v' al, Grow sz P h0 v' (l ++ [y]) al → AO C r ⟨env.put dst (some v'), loc, h.tok al⟩ K) : AO C (⟨i, none, dst, .app sz mx, args, []⟩ :: r) ⟨env, loc, h⟩ K := by
  rcases g with ⟨rfl, rfl, e⟩ | ⟨cs, t, rfl, e, hcs⟩
  · refine aapp (tg := .full) (xs := []) ha (.inl ⟨rfl, rfl, rfl⟩) (by simp) (by simpa using hmx) (by simp) (by simp) fun t ht => ?_
    exact hh _ _ (.inr ⟨[c], t, rfl, by simp [Tag.spend, e], .cons hc .nil⟩)
  · refine aapp (tg := .tok t) (xs := cs) ha (.inr rfl) (by simp) (by rw [hcs.len]; simpa using hmx) (by simp) (by rw [e]; simp) fun t' ht => ?_
    exact hh _ _ (.inr ⟨cs ++ [c], t', rfl, by simp [Tag.spend, e], hcs.snoc hc⟩)
end
theorem tok_tok (h : AHeap) (a b : List Nat) : (h.tok a).tok b = h.tok b := rfl

theorem filter_step {l : List Alert} {k : Nat} {a : Alert} (hk : l[k]? = some a) : (l.take (k + 1)).filter (fun a => !a.wd) = (l.take k).filter (fun a => !a.wd) ++ if a.wd then [] else [a] := by
  rw [List.take_add_one, hk, List.filter_append]
  cases h : a.wd <;> simp [h]

theorem c17 {h : AHeap} {v : AV} {l : List Alert} (hv : IsSl 38 IsAl v l) (hl : l.length ≤ 1000) :
    ACalls PR 17 [v] h fun u h' => IsSl 38 IsAl u (l.filter fun a => !a.wd) ∧ h = h' := by
  refine fn_sound at17 ok17 (Nat.le_of_ble_eq_true rfl) (afn ?_)
  show AW _ C17 _ _
  unfold C17
  have hN := hv.names
  refine nav ?_
  refine aloop (fun q s => ∃ (k : Nat) (rv : AV) (al : List Nat), q + k = l.length ∧ Grow 38 IsAl h rv ((l.take k).filter fun a => !a.wd) al ∧ s = ⟨Env.of [(0, some v), (3, some rv), (4, some (.int .i64 k))], Loc.of [], h.tok al⟩) (l.length) ⟨0, .nils, h.al, by simp, .inl ⟨rfl, by simp, rfl⟩, rfl⟩ ?_
  rintro q s' ⟨k, rv, al, hq, hg, rfl⟩
  have hN : v.names = none ∧ rv.names = none := ⟨hv.names, hg.names⟩
  refine nav ?_
  apply alenS rfl hv
  refine nav ?_
  refine acond rfl (fun hc => ?_) (fun hc => ?_)
  · have hlt : k < l.length := by have := of_decide_eq_true hc; omega
    have hk := List.getElem?_eq_getElem hlt
    obtain ⟨cs, t, c, rfl, hx, tc, hc'⟩ := hv.at hk
    have hfs := filter_step hk
    have hfl : ((l.take k).filter fun a => !a.wd).length ≤ k := by
      refine Nat.le_trans (List.length_filter_le _ _) ?_
      rw [List.length_take]; omega
    generalize l[k] = a at *
    subst hc'
    unfold alc at hx
    refine naw ?_
    refine acond rfl (fun hd => ?_) (fun hd => ?_)
    · refine naw ?_
      rw [show a.wd = false from by simpa using hd] at hfs
      apply aappG rfl hg ⟨tc, rfl⟩ (by omega)
      intro v' al' hg'
      have hN : v'.names = none := hg'.names
      refine naw ?_
      exact ql_n (q - 1) (by omega) ⟨k + 1, v', al', by omega, by rw [hfs]; exact hg', rfl⟩
    · refine naw ?_
      rw [show a.wd = true from by simpa using hd] at hfs
      exact ql_n (q - 1) (by omega) ⟨k + 1, rv, al, by omega, by rw [hfs]; simpa using hg, rfl⟩
  · have hlt : l.length ≤ k := by have := of_decide_eq_false hc; omega
    rw [List.take_of_length_le hlt] at hg
    refine naw ?_
    apply qf (h' := h) rfl (by simp [AV.plain, hN]) hg.le
    exact ⟨hg.sl, rfl⟩
end Go.Proofs.Ytkdphdcpofcnjaa
