/- Ab.WStream4: what the functions of stream compute, that read. -/
import Derived.Test.YtgnlnkbkbddfaaaAbWStream2
import Derived.Test.YtgnlnkbkbddfaaaAbWOctets
import Derived.Test.YtgnlnkbkbddfaaaAbHeap
import Derived.Test.YtgnlnkbkbddfaaaAbStreamRead
import Derived.Test.YtgnlnkbkbddfaaaAbXPanic
namespace Go.Ab
set_option maxHeartbeats 1000000
set_option linter.unusedSimpArgs false

theorem rget_spec (H : Hp) (K : AV → Hp → Prop) (KP : List PanicEntry → Hp → Prop) (r : Rd) (B : Nat) (most : Int) (h_0 : r.left.length < 2^29) (h_1 : H B = some (.cells [.lst 0 (bytes r.left), .sc (.bool r.bad)])) (hK : ∀ n r', getP r most = some (n, r') → K (.sc (.int .i64 n)) (hset H B (.cells [.lst 0 (bytes r'.left), .sc (.bool r'.bad)]))) (hP : getP r most = none → ∀ H' : Hp, Fr [B] H H' → KP badCh H') :
    ACallsP Go.Proofs.Try.prog 138 [.agg [.sc (.pointer (some ⟨B, 0, none⟩))], .sc (.int .i64 most)] H K KP := by
  refine ACallsP_fn tab_ok Go.Proofs.Try.func138 16 [.tmp 4] rfl rfl rfl rfl fun d => ?_
  refine AWp_seq fun K1 h1 => ?_
  refine AWp_region tab_ok [] ?_
  simp only [go_sem, reduceIte, Nat.reduceEqDiff, Nat.reduceLT, decide_true, reduceCtorEq, Nat.reduceAdd, Nat.reduceBEq, Nat.reduceMul, Nat.reduceLeDiff, Int.reduceToNat, h_1]
  repeat refine ⟨by first | assumption | omega | exact True.intro | exact rfl | exact List.mem_cons_self | exact bytes_cell (by omega) | exact fun _ => bytes_cell (by omega) | (simp +contextual only [go_sem]; done) | fail, ?_⟩
  refine fun B0 hB0 => ?_
  have nB0_B : B0 ≠ B := fun hh => by rw [hh] at hB0; revert hB0; (try simp only [hset]); (repeat' split) <;> simp_all
  repeat (first | replace hB0 := ite_none hB0 | replace hB0 := hset_none hB0)
  try simp only [go_sem, reduceIte, Nat.reduceEqDiff, Nat.reduceLT, decide_true, reduceCtorEq, Nat.reduceAdd, Nat.reduceBEq, Nat.reduceMul, Nat.reduceLeDiff, Int.reduceToNat, h_1, nB0_B, nB0_B.symm]
  repeat refine ⟨by first | assumption | omega | exact True.intro | exact rfl | exact List.mem_cons_self | exact bytes_cell (by omega) | exact fun _ => bytes_cell (by omega) | (simp +contextual only [go_sem]; done) | fail, ?_⟩
  refine h1 _ _ ?_
  clear h1
  refine AWp_seq fun K2 h2 => ?_
  refine AWp_region tab_ok [] ?_
  simp only [go_sem, reduceIte, Nat.reduceEqDiff, Nat.reduceLT, decide_true, reduceCtorEq, Nat.reduceAdd, Nat.reduceBEq, Nat.reduceMul, Nat.reduceLeDiff, Int.reduceToNat, h_1, nB0_B, nB0_B.symm]
  repeat refine ⟨by first | assumption | omega | exact True.intro | exact rfl | exact List.mem_cons_self | exact bytes_cell (by omega) | exact fun _ => bytes_cell (by omega) | (simp +contextual only [go_sem]; done) | fail, ?_⟩
  refine get_spec _ _ _ _ _ (by (first | assumption | omega | exact True.intro | (simp only [go_sem, reduceIte, Nat.reduceEqDiff, Nat.reduceLT, decide_true, reduceCtorEq, Nat.reduceAdd, Nat.reduceBEq, Nat.reduceMul, Nat.reduceLeDiff, Int.reduceToNat, h_1, nB0_B, nB0_B.symm] <;> rfl))) (by (first | assumption | omega | exact True.intro | (simp only [go_sem, reduceIte, Nat.reduceEqDiff, Nat.reduceLT, decide_true, reduceCtorEq, Nat.reduceAdd, Nat.reduceBEq, Nat.reduceMul, Nat.reduceLeDiff, Int.reduceToNat, h_1, nB0_B, nB0_B.symm] <;> rfl))) ?_
  simp only [callK]
  simp only [go_sem, reduceIte, Nat.reduceEqDiff, Nat.reduceLT, decide_true, reduceCtorEq, Nat.reduceAdd, Nat.reduceBEq, Nat.reduceMul, Nat.reduceLeDiff, Int.reduceToNat, h_1, nB0_B, nB0_B.symm]
  repeat refine ⟨by first | assumption | omega | exact True.intro | exact rfl | exact List.mem_cons_self | exact bytes_cell (by omega) | exact fun _ => bytes_cell (by omega) | (simp +contextual only [go_sem]; done) | fail, ?_⟩
  refine h2 _ _ ?_
  clear h2
  refine AWp_seq fun K3 h3 => ?_
  refine AWp_seq fun K4 h4 => ?_
  refine AWp_region tab_ok [] ?_
  simp only [go_sem, reduceIte, Nat.reduceEqDiff, Nat.reduceLT, decide_true, reduceCtorEq, Nat.reduceAdd, Nat.reduceBEq, Nat.reduceMul, Nat.reduceLeDiff, Int.reduceToNat, h_1, nB0_B, nB0_B.symm]
  repeat refine ⟨by first | assumption | omega | exact True.intro | exact rfl | exact List.mem_cons_self | exact bytes_cell (by omega) | exact fun _ => bytes_cell (by omega) | (simp +contextual only [go_sem]; done) | fail, ?_⟩
  refine failed_spec _ _ _ _ _ (by (first | assumption | omega | exact True.intro | (simp only [go_sem, reduceIte, Nat.reduceEqDiff, Nat.reduceLT, decide_true, reduceCtorEq, Nat.reduceAdd, Nat.reduceBEq, Nat.reduceMul, Nat.reduceLeDiff, Int.reduceToNat, h_1, nB0_B, nB0_B.symm] <;> rfl))) ?_
  simp only [callK]
  simp only [go_sem, reduceIte, Nat.reduceEqDiff, Nat.reduceLT, decide_true, reduceCtorEq, Nat.reduceAdd, Nat.reduceBEq, Nat.reduceMul, Nat.reduceLeDiff, Int.reduceToNat, h_1, nB0_B, nB0_B.symm]
  repeat refine ⟨by first | assumption | omega | exact True.intro | exact rfl | exact List.mem_cons_self | exact bytes_cell (by omega) | exact fun _ => bytes_cell (by omega) | (simp +contextual only [go_sem]; done) | fail, ?_⟩
  refine h4 _ _ ?_
  clear h4
  refine AWp_if fun kk hkk => ?_
  simp only [go_sem, reduceIte, Nat.reduceEqDiff, Nat.reduceLT, decide_true, reduceCtorEq, Nat.reduceAdd, Nat.reduceBEq, Nat.reduceMul, Nat.reduceLeDiff, Int.reduceToNat, h_1, nB0_B, nB0_B.symm]
  repeat refine ⟨by first | assumption | omega | exact True.intro | exact rfl | exact List.mem_cons_self | exact bytes_cell (by omega) | exact fun _ => bytes_cell (by omega) | (simp +contextual only [go_sem]; done) | fail, ?_⟩
  refine hkk _ (fun hb0 => ?_) (fun hb0 => ?_) <;> clear hkk kk
  · try simp only [bne_iff_ne, ne_eq, bne_eq_false_iff_eq, beq_iff_eq, beq_eq_false_iff_ne, decide_eq_true_eq, decide_eq_false_iff_not, Bool.not_eq_true', Bool.not_eq_false', Bool.and_eq_true, Bool.and_eq_false_iff, Bool.or_eq_true, Bool.or_eq_false_iff, Int.natCast_inj, not_true_eq_false, not_false_eq_true] at hb0
    refine AWp_regionP tab_ok [] ?_
    simp only [go_sem, reduceIte, Nat.reduceEqDiff, Nat.reduceLT, decide_true, reduceCtorEq, Nat.reduceAdd, Nat.reduceBEq, Nat.reduceMul, Nat.reduceLeDiff, Int.reduceToNat, h_1, nB0_B, nB0_B.symm]
    repeat refine ⟨by first | assumption | omega | exact True.intro | exact rfl | exact List.mem_cons_self | exact bytes_cell (by omega) | exact fun _ => bytes_cell (by omega) | (simp +contextual only [go_sem]; done) | fail, ?_⟩
    refine retQP_panic _ (fun _ _ h => h) ?_
    exact hP (by rw [getP, if_pos hb0]) _ (by repeat (first | exact Fr_refl _ _ | refine Fr_new (by assumption) ?_ | refine Fr_old (by simp only [List.map_cons, List.mem_cons, true_or, or_true]) ?_))
  · try simp only [bne_iff_ne, ne_eq, bne_eq_false_iff_eq, beq_iff_eq, beq_eq_false_iff_ne, decide_eq_true_eq, decide_eq_false_iff_not, Bool.not_eq_true', Bool.not_eq_false', Bool.and_eq_true, Bool.and_eq_false_iff, Bool.or_eq_true, Bool.or_eq_false_iff, Int.natCast_inj, not_true_eq_false, not_false_eq_true] at hb0
    refine AWp_skip ?_
    refine h3 _ _ ?_
    refine AWp_seq fun K5 h5 => ?_
    refine AWp_region tab_ok [0] ?_
    simp only [go_sem, reduceIte, Nat.reduceEqDiff, Nat.reduceLT, decide_true, reduceCtorEq, Nat.reduceAdd, Nat.reduceBEq, Nat.reduceMul, Nat.reduceLeDiff, Int.reduceToNat, h_1, nB0_B, nB0_B.symm]
    repeat refine ⟨by first | assumption | omega | exact True.intro | exact rfl | exact List.mem_cons_self | exact bytes_cell (by omega) | exact fun _ => bytes_cell (by omega) | (simp +contextual only [go_sem]; done) | fail, ?_⟩
    refine h5 _ _ ?_
    clear h5
    refine AWp_ret ?_
    refine retQP_mk (hsets H [(B, (.cells [.lst 0 (bytes (r.get most).2.left), .sc (.bool (r.get most).2.bad)]))]) (hweakL (by repeat (first | exact Fr_refl _ _ | refine Fr_new (by assumption) ?_ | refine Fr_old (by simp only [List.map_cons, List.mem_cons, true_or, or_true]) ?_)) (by simp only [go_sem, reduceIte, Nat.reduceEqDiff, Nat.reduceLT, decide_true, reduceCtorEq, Nat.reduceAdd, Nat.reduceBEq, Nat.reduceMul, Nat.reduceLeDiff, Int.reduceToNat, h_1, nB0_B, nB0_B.symm]; first | done | exact True.intro | (repeat' apply And.intro) <;> first | rfl | exact True.intro)) (.inr rfl) ?_
    simp only [go_sem, reduceIte, Nat.reduceEqDiff, Nat.reduceLT, decide_true, reduceCtorEq, Nat.reduceAdd, Nat.reduceBEq, Nat.reduceMul, Nat.reduceLeDiff, Int.reduceToNat, h_1, nB0_B, nB0_B.symm]
    repeat refine ⟨by first | assumption | omega | exact True.intro | exact rfl | exact List.mem_cons_self | exact bytes_cell (by omega) | exact fun _ => bytes_cell (by omega) | (simp +contextual only [go_sem]; done) | fail, ?_⟩
    exact hK _ _ (by rw [getP, if_neg (by simp [hb0])])

theorem rread_spec (H : Hp) (K : AV → Hp → Prop) (KP : List PanicEntry → Hp → Prop) (r : Rd) (b : Bt) (B : Nat) (h_0 : r.left.length < 2^29) (h_1 : H B = some (.cells [.lst 0 (bytes r.left), .sc (.bool r.bad)])) (hK : ∀ b' r', readBt b r = some (b', r') → r'.left.length ≤ r.left.length → K (.agg (AVcells b')) (hset H B (.cells [.lst 0 (bytes r'.left), .sc (.bool r'.bad)]))) (hP : readBt b r = none → ∀ H' : Hp, Fr [B] H H' → KP badCh H') :
    ACallsP Go.Proofs.Try.prog 139 [.agg [.sc (.pointer (some ⟨B, 0, none⟩))], .agg [.sc (.int .i64 b.a0), .sc (.int .i64 b.a1), .sc (.bool b.clear), .sc (.int .i64 b.a3), .sc (.int .i64 b.a4), .sc (.int .i64 b.a5), .lst 0 (ints b.ids)]] H K KP := by
  refine ACallsP_fn tab_ok Go.Proofs.Try.func139 64 [.cell 4 113] rfl rfl rfl rfl fun d => ?_
  refine AWp_seq fun K1 h1 => ?_
  refine AWp_region tab_ok [] ?_
  simp only [go_sem, reduceIte, Nat.reduceEqDiff, Nat.reduceLT, decide_true, reduceCtorEq, Nat.reduceAdd, Nat.reduceBEq, Nat.reduceMul, Nat.reduceLeDiff, Int.reduceToNat, h_1]
  repeat refine ⟨by first | assumption | omega | exact True.intro | exact rfl | exact ints_cells _ | exact List.mem_cons_self | exact bytes_cell (by omega) | exact fun _ => bytes_cell (by omega) | (simp +contextual only [go_sem]; done) | fail, ?_⟩
  refine fun B0 hB0 => ?_
  have nB0_B : B0 ≠ B := fun hh => by rw [hh] at hB0; revert hB0; (try simp only [hset]); (repeat' split) <;> simp_all
  repeat (first | replace hB0 := ite_none hB0 | replace hB0 := hset_none hB0)
  try simp only [go_sem, reduceIte, Nat.reduceEqDiff, Nat.reduceLT, decide_true, reduceCtorEq, Nat.reduceAdd, Nat.reduceBEq, Nat.reduceMul, Nat.reduceLeDiff, Int.reduceToNat, h_1, nB0_B, nB0_B.symm]
  repeat refine ⟨by first | assumption | omega | exact True.intro | exact rfl | exact ints_cells _ | exact List.mem_cons_self | exact bytes_cell (by omega) | exact fun _ => bytes_cell (by omega) | (simp +contextual only [go_sem]; done) | fail, ?_⟩
  refine fun B1 hB1 => ?_
  have nB1_B : B1 ≠ B := fun hh => by rw [hh] at hB1; revert hB1; (try simp only [hset]); (repeat' split) <;> simp_all
  have nB1_B0 : B1 ≠ B0 := fun hh => by rw [hh] at hB1; revert hB1; (try simp only [hset]); (repeat' split) <;> simp_all
  repeat (first | replace hB1 := ite_none hB1 | replace hB1 := hset_none hB1)
  try simp only [go_sem, reduceIte, Nat.reduceEqDiff, Nat.reduceLT, decide_true, reduceCtorEq, Nat.reduceAdd, Nat.reduceBEq, Nat.reduceMul, Nat.reduceLeDiff, Int.reduceToNat, h_1, nB0_B, nB0_B.symm, nB1_B, nB1_B.symm, nB1_B0, nB1_B0.symm]
  repeat refine ⟨by first | assumption | omega | exact True.intro | exact rfl | exact ints_cells _ | exact List.mem_cons_self | exact bytes_cell (by omega) | exact fun _ => bytes_cell (by omega) | (simp +contextual only [go_sem]; done) | fail, ?_⟩
  refine fun B2 hB2 => ?_
  have nB2_B : B2 ≠ B := fun hh => by rw [hh] at hB2; revert hB2; (try simp only [hset]); (repeat' split) <;> simp_all
  have nB2_B0 : B2 ≠ B0 := fun hh => by rw [hh] at hB2; revert hB2; (try simp only [hset]); (repeat' split) <;> simp_all
  have nB2_B1 : B2 ≠ B1 := fun hh => by rw [hh] at hB2; revert hB2; (try simp only [hset]); (repeat' split) <;> simp_all
  repeat (first | replace hB2 := ite_none hB2 | replace hB2 := hset_none hB2)
  try simp only [go_sem, reduceIte, Nat.reduceEqDiff, Nat.reduceLT, decide_true, reduceCtorEq, Nat.reduceAdd, Nat.reduceBEq, Nat.reduceMul, Nat.reduceLeDiff, Int.reduceToNat, h_1, nB0_B, nB0_B.symm, nB1_B, nB1_B.symm, nB1_B0, nB1_B0.symm, nB2_B, nB2_B.symm, nB2_B0, nB2_B0.symm, nB2_B1, nB2_B1.symm]
  repeat refine ⟨by first | assumption | omega | exact True.intro | exact rfl | exact ints_cells _ | exact List.mem_cons_self | exact bytes_cell (by omega) | exact fun _ => bytes_cell (by omega) | (simp +contextual only [go_sem]; done) | fail, ?_⟩
  refine h1 _ _ ?_
  clear h1
  refine AWp_seq fun K2 h2 => ?_
  refine AWp_regionP tab_ok [] ?_
  simp only [go_sem, reduceIte, Nat.reduceEqDiff, Nat.reduceLT, decide_true, reduceCtorEq, Nat.reduceAdd, Nat.reduceBEq, Nat.reduceMul, Nat.reduceLeDiff, Int.reduceToNat, h_1, nB0_B, nB0_B.symm, nB1_B, nB1_B.symm, nB1_B0, nB1_B0.symm, nB2_B, nB2_B.symm, nB2_B0, nB2_B0.symm, nB2_B1, nB2_B1.symm]
  repeat refine ⟨by first | assumption | omega | exact True.intro | exact rfl | exact ints_cells _ | exact List.mem_cons_self | exact bytes_cell (by omega) | exact fun _ => bytes_cell (by omega) | (simp +contextual only [go_sem]; done) | fail, ?_⟩
  refine rget_spec _ _ _ r B 63 (by (first | assumption | omega | exact True.intro | exact ints_cells _ | (simp only [go_sem, reduceIte, Nat.reduceEqDiff, Nat.reduceLT, decide_true, reduceCtorEq, Nat.reduceAdd, Nat.reduceBEq, Nat.reduceMul, Nat.reduceLeDiff, Int.reduceToNat, h_1, nB0_B, nB0_B.symm, nB1_B, nB1_B.symm, nB1_B0, nB1_B0.symm, nB2_B, nB2_B.symm, nB2_B0, nB2_B0.symm, nB2_B1, nB2_B1.symm] <;> rfl))) (by (first | assumption | omega | exact True.intro | exact ints_cells _ | (simp only [go_sem, reduceIte, Nat.reduceEqDiff, Nat.reduceLT, decide_true, reduceCtorEq, Nat.reduceAdd, Nat.reduceBEq, Nat.reduceMul, Nat.reduceLeDiff, Int.reduceToNat, h_1, nB0_B, nB0_B.symm, nB1_B, nB1_B.symm, nB1_B0, nB1_B0.symm, nB2_B, nB2_B.symm, nB2_B0, nB2_B0.symm, nB2_B1, nB2_B1.symm] <;> rfl))) ?_ ?_
  rotate_left 1
  · intro hg H9 hF9
    try simp only [go_sem, reduceIte, Nat.reduceEqDiff, Nat.reduceLT, decide_true, reduceCtorEq, Nat.reduceAdd, Nat.reduceBEq, Nat.reduceMul, Nat.reduceLeDiff, Int.reduceToNat, h_1, nB0_B, nB0_B.symm, nB1_B, nB1_B.symm, nB1_B0, nB1_B0.symm, nB2_B, nB2_B.symm, nB2_B0, nB2_B0.symm, nB2_B1, nB2_B1.symm]
    refine retQP_panic _ (fun _ _ h => h) ?_
    exact hP (by rw [readBt, hg]) _ (by refine Fr_trans ?_ hF9; repeat (first | exact Fr_refl _ _ | refine Fr_new (by assumption) ?_ | refine Fr_old (by simp only [List.map_cons, List.mem_cons, true_or, or_true]) ?_))
  intro n r1 hg
  obtain ⟨hn63, hl1, -⟩ := getP_facts hg
  have hrA : readBt b r = readA n b r1 := by rw [readBt, hg]
  clear hg
  simp only [callK]
  simp only [go_sem, reduceIte, Nat.reduceEqDiff, Nat.reduceLT, decide_true, reduceCtorEq, Nat.reduceAdd, Nat.reduceBEq, Nat.reduceMul, Nat.reduceLeDiff, Int.reduceToNat, h_1, nB0_B, nB0_B.symm, nB1_B, nB1_B.symm, nB1_B0, nB1_B0.symm, nB2_B, nB2_B.symm, nB2_B0, nB2_B0.symm, nB2_B1, nB2_B1.symm]
  repeat refine ⟨by first | assumption | omega | exact True.intro | exact rfl | exact ints_cells _ | exact List.mem_cons_self | exact bytes_cell (by omega) | exact fun _ => bytes_cell (by omega) | (simp +contextual only [go_sem]; done) | fail, ?_⟩
  refine h2 _ _ ?_
  clear h2
  refine AWp_seq fun K3 h3 => ?_
  refine AWp_seq fun K4 h4 => ?_
  refine AWp_region tab_ok [] ?_
  simp only [go_sem, reduceIte, Nat.reduceEqDiff, Nat.reduceLT, decide_true, reduceCtorEq, Nat.reduceAdd, Nat.reduceBEq, Nat.reduceMul, Nat.reduceLeDiff, Int.reduceToNat, h_1, nB0_B, nB0_B.symm, nB1_B, nB1_B.symm, nB1_B0, nB1_B0.symm, nB2_B, nB2_B.symm, nB2_B0, nB2_B0.symm, nB2_B1, nB2_B1.symm]
  repeat refine ⟨by first | assumption | omega | exact True.intro | exact rfl | exact ints_cells _ | exact List.mem_cons_self | exact bytes_cell (by omega) | exact fun _ => bytes_cell (by omega) | (simp +contextual only [go_sem]; done) | fail, ?_⟩
  refine parts_spec _ _   ?_
  simp only [callK]
  simp only [go_sem, reduceIte, Nat.reduceEqDiff, Nat.reduceLT, decide_true, reduceCtorEq, Nat.reduceAdd, Nat.reduceBEq, Nat.reduceMul, Nat.reduceLeDiff, Int.reduceToNat, h_1, nB0_B, nB0_B.symm, nB1_B, nB1_B.symm, nB1_B0, nB1_B0.symm, nB2_B, nB2_B.symm, nB2_B0, nB2_B0.symm, nB2_B1, nB2_B1.symm]
  repeat refine ⟨by first | assumption | omega | exact True.intro | exact rfl | exact ints_cells _ | exact List.mem_cons_self | exact bytes_cell (by omega) | exact fun _ => bytes_cell (by omega) | (simp +contextual only [go_sem]; done) | fail, ?_⟩
  refine h4 _ _ ?_
  clear h4
  refine AWp_block ?_
  refine AWp_loop_ind (ι := (Nat) × (Rd) × (Bt)) (fun (s : (Nat) × (Rd) × (Bt)) => match s with | (i, r2, bb) => [(12, .sc (.int .i64 i)), (11, .agg [.sc (.int .i64 1), .sc (.func (.func 226) #[] #[]), .sc (.int .i64 2), .sc (.func (.func 227) #[] #[]), .sc (.int .i64 8), .sc (.func (.func 228) #[] #[]), .sc (.int .i64 16), .sc (.func (.func 229) #[] #[]), .sc (.int .i64 32), .sc (.func (.func 230) #[] #[])]), (5, .sc (.int .i64 n)), (2, .sc (.pointer (some ⟨B0, 0, none⟩))), (3, .sc (.pointer (some ⟨B1, 0, none⟩))), (4, .sc (.pointer (some ⟨B2, 0, none⟩)))]) (fun (s : (Nat) × (Rd) × (Bt)) => match s with | (i, r2, bb) => (hsets H [(B, (.cells [.lst 0 (bytes r2.left), .sc (.bool r2.bad)])), (B0, .cells [.sc (.pointer (some ⟨B, 0, none⟩))]), (B1, .cells (AVcells bb)), (B2, .cells [.sc (.int .i64 0), .sc (.int .i64 0), .sc (.bool false), .sc (.int .i64 0), .sc (.int .i64 0), .sc (.int .i64 0), .lst 1 []])])) (fun (s : (Nat) × (Rd) × (Bt)) => match s with | (i, r2, bb) => (i ≤ 5) ∧ (partsTo n b r1 i = some (bb, r2)) ∧ (r2.left.length ≤ r.left.length)) (fun (s : (Nat) × (Rd) × (Bt)) => match s with | (i, r2, bb) => 5 - i) (0, r1, b) ?_ ?_ ?_ ?_
  · exact ⟨by omega, rfl, by omega⟩
  · (try dsimp only); exact (hweakL (by repeat (first | exact Fr_refl _ _ | refine Fr_new (by assumption) ?_ | refine Fr_old (by simp only [List.map_cons, List.mem_cons, true_or, or_true]) ?_)) (by simp only [go_sem, reduceIte, Nat.reduceEqDiff, Nat.reduceLT, decide_true, reduceCtorEq, Nat.reduceAdd, Nat.reduceBEq, Nat.reduceMul, Nat.reduceLeDiff, Int.reduceToNat, h_1, nB0_B, nB0_B.symm, nB1_B, nB1_B.symm, nB1_B0, nB1_B0.symm, nB2_B, nB2_B.symm, nB2_B0, nB2_B0.symm, nB2_B1, nB2_B1.symm]; first | done | exact True.intro | (repeat' apply And.intro) <;> first | rfl | exact True.intro))
  · simp only [go_sem, reduceIte, Nat.reduceEqDiff, Nat.reduceLT, decide_true, reduceCtorEq, Nat.reduceAdd, Nat.reduceBEq, Nat.reduceMul, Nat.reduceLeDiff, Int.reduceToNat, h_1, nB0_B, nB0_B.symm, nB1_B, nB1_B.symm, nB1_B0, nB1_B0.symm, nB2_B, nB2_B.symm, nB2_B0, nB2_B0.symm, nB2_B1, nB2_B1.symm]; first | done | exact True.intro | (repeat' apply And.intro) <;> first | rfl | exact True.intro
  rintro ⟨i, r2, bb⟩ ⟨hi0_0, hi0_1, hi0_2⟩ L0 hL0
  dsimp only at *
  have hcells : AVcells bb = [.sc (.int .i64 bb.a0), .sc (.int .i64 bb.a1), .sc (.bool bb.clear), .sc (.int .i64 bb.a3), .sc (.int .i64 bb.a4), .sc (.int .i64 bb.a5), .lst 0 (ints bb.ids)] := rfl
  refine AWp_seq fun K5 h5 => ?_
  refine AWp_region tab_ok [] ?_
  simp only [go_sem, reduceIte, Nat.reduceEqDiff, Nat.reduceLT, decide_true, reduceCtorEq, Nat.reduceAdd, Nat.reduceBEq, Nat.reduceMul, Nat.reduceLeDiff, Int.reduceToNat, h_1, nB0_B, nB0_B.symm, nB1_B, nB1_B.symm, nB1_B0, nB1_B0.symm, nB2_B, nB2_B.symm, nB2_B0, nB2_B0.symm, nB2_B1, nB2_B1.symm]
  repeat refine ⟨by first | assumption | omega | exact True.intro | exact rfl | exact ints_cells _ | exact List.mem_cons_self | exact bytes_cell (by omega) | exact fun _ => bytes_cell (by omega) | (simp +contextual only [go_sem]; done) | fail, ?_⟩
  refine h5 _ _ ?_
  clear h5
  refine AWp_seq fun K6 h6 => ?_
  refine AWp_if fun kk hkk => ?_
  simp only [go_sem, reduceIte, Nat.reduceEqDiff, Nat.reduceLT, decide_true, reduceCtorEq, Nat.reduceAdd, Nat.reduceBEq, Nat.reduceMul, Nat.reduceLeDiff, Int.reduceToNat, h_1, nB0_B, nB0_B.symm, nB1_B, nB1_B.symm, nB1_B0, nB1_B0.symm, nB2_B, nB2_B.symm, nB2_B0, nB2_B0.symm, nB2_B1, nB2_B1.symm]
  repeat refine ⟨by first | assumption | omega | exact True.intro | exact rfl | exact ints_cells _ | exact List.mem_cons_self | exact bytes_cell (by omega) | exact fun _ => bytes_cell (by omega) | (simp +contextual only [go_sem]; done) | fail, ?_⟩
  refine hkk _ (fun hb0 => ?_) (fun hb0 => ?_) <;> clear hkk kk
  · simp only [bne_iff_ne, ne_eq, bne_eq_false_iff_eq, beq_iff_eq, beq_eq_false_iff_ne, decide_eq_true_eq, decide_eq_false_iff_not, Bool.not_eq_true', Bool.not_eq_false', Bool.and_eq_true, Bool.and_eq_false_iff, Bool.or_eq_true, Bool.or_eq_false_iff, Int.natCast_inj, not_true_eq_false, not_false_eq_true] at hb0
    have hi5 : i < 5 := by omega
    have hbit := bitOf_le i
    have hoff := offOf_le i
    have hlen7 := AVcells_len bb
    have andf := and64 n (bitOf i) (by omega) (by omega)
    refine AWp_skip ?_
    refine h6 _ _ ?_
    refine AWp_seq fun K7 h7 => ?_
    refine AWp_block ?_
    refine AWp_seq fun K8 h8 => ?_
    refine AWp_region tab_ok [] ?_
    simp only [go_sem, reduceIte, Nat.reduceEqDiff, Nat.reduceLT, decide_true, reduceCtorEq, Nat.reduceAdd, Nat.reduceBEq, Nat.reduceMul, Nat.reduceLeDiff, Int.reduceToNat, h_1, nB0_B, nB0_B.symm, nB1_B, nB1_B.symm, nB1_B0, nB1_B0.symm, nB2_B, nB2_B.symm, nB2_B0, nB2_B0.symm, nB2_B1, nB2_B1.symm]
    try simp (disch := omega) only [ints_get]
    try simp only [go_sem, reduceIte, Nat.reduceEqDiff, Nat.reduceLT, decide_true, reduceCtorEq, Nat.reduceAdd, Nat.reduceBEq, Nat.reduceMul, Nat.reduceLeDiff, Int.reduceToNat, h_1, nB0_B, nB0_B.symm, nB1_B, nB1_B.symm, nB1_B0, nB1_B0.symm, nB2_B, nB2_B.symm, nB2_B0, nB2_B0.symm, nB2_B1, nB2_B1.symm]
    rw [part_elem hi5]
    simp only [go_sem, reduceIte, Nat.reduceEqDiff, Nat.reduceLT, decide_true, reduceCtorEq, Nat.reduceAdd, Nat.reduceBEq, Nat.reduceMul, Nat.reduceLeDiff, Int.reduceToNat, h_1, nB0_B, nB0_B.symm, nB1_B, nB1_B.symm, nB1_B0, nB1_B0.symm, nB2_B, nB2_B.symm, nB2_B0, nB2_B0.symm, nB2_B1, nB2_B1.symm]
    repeat refine ⟨by first | assumption | omega | exact True.intro | exact rfl | exact ints_cells _ | exact List.mem_cons_self | exact bytes_cell (by omega) | exact fun _ => bytes_cell (by omega) | (simp +contextual only [go_sem]; done) | fail, ?_⟩
    refine fun B3 hB3 => ?_
    have nB3_B : B3 ≠ B := fun hh => by rw [hh] at hB3; revert hB3; (try simp only [hset]); (repeat' split) <;> simp_all
    have nB3_B0 : B3 ≠ B0 := fun hh => by rw [hh] at hB3; revert hB3; (try simp only [hset]); (repeat' split) <;> simp_all
    have nB3_B1 : B3 ≠ B1 := fun hh => by rw [hh] at hB3; revert hB3; (try simp only [hset]); (repeat' split) <;> simp_all
    have nB3_B2 : B3 ≠ B2 := fun hh => by rw [hh] at hB3; revert hB3; (try simp only [hset]); (repeat' split) <;> simp_all
    repeat (first | replace hB3 := ite_none hB3 | replace hB3 := hset_none hB3)
    try simp only [go_sem, reduceIte, Nat.reduceEqDiff, Nat.reduceLT, decide_true, reduceCtorEq, Nat.reduceAdd, Nat.reduceBEq, Nat.reduceMul, Nat.reduceLeDiff, Int.reduceToNat, h_1, nB0_B, nB0_B.symm, nB1_B, nB1_B.symm, nB1_B0, nB1_B0.symm, nB2_B, nB2_B.symm, nB2_B0, nB2_B0.symm, nB2_B1, nB2_B1.symm, nB3_B, nB3_B.symm, nB3_B0, nB3_B0.symm, nB3_B1, nB3_B1.symm, nB3_B2, nB3_B2.symm]
    repeat refine ⟨by first | assumption | omega | exact True.intro | exact rfl | exact ints_cells _ | exact List.mem_cons_self | exact bytes_cell (by omega) | exact fun _ => bytes_cell (by omega) | (simp +contextual only [go_sem]; done) | fail, ?_⟩
    refine h8 _ _ ?_
    clear h8
    refine AWp_seq fun K9 h9 => ?_
    refine AWp_seq fun K10 h10 => ?_
    refine AWp_region tab_ok [] ?_
    simp only [go_sem, reduceIte, Nat.reduceEqDiff, Nat.reduceLT, decide_true, reduceCtorEq, Nat.reduceAdd, Nat.reduceBEq, Nat.reduceMul, Nat.reduceLeDiff, Int.reduceToNat, h_1, nB0_B, nB0_B.symm, nB1_B, nB1_B.symm, nB1_B0, nB1_B0.symm, nB2_B, nB2_B.symm, nB2_B0, nB2_B0.symm, nB2_B1, nB2_B1.symm, nB3_B, nB3_B.symm, nB3_B0, nB3_B0.symm, nB3_B1, nB3_B1.symm, nB3_B2, nB3_B2.symm, andf]
    repeat refine ⟨by first | assumption | omega | exact True.intro | exact rfl | exact ints_cells _ | exact List.mem_cons_self | exact bytes_cell (by omega) | exact fun _ => bytes_cell (by omega) | (simp +contextual only [go_sem]; done) | fail, ?_⟩
    refine h10 _ _ ?_
    clear h10
    refine AWp_if fun kk hkk => ?_
    simp only [go_sem, reduceIte, Nat.reduceEqDiff, Nat.reduceLT, decide_true, reduceCtorEq, Nat.reduceAdd, Nat.reduceBEq, Nat.reduceMul, Nat.reduceLeDiff, Int.reduceToNat, h_1, nB0_B, nB0_B.symm, nB1_B, nB1_B.symm, nB1_B0, nB1_B0.symm, nB2_B, nB2_B.symm, nB2_B0, nB2_B0.symm, nB2_B1, nB2_B1.symm, nB3_B, nB3_B.symm, nB3_B0, nB3_B0.symm, nB3_B1, nB3_B1.symm, nB3_B2, nB3_B2.symm]
    repeat refine ⟨by first | assumption | omega | exact True.intro | exact rfl | exact ints_cells _ | exact List.mem_cons_self | exact bytes_cell (by omega) | exact fun _ => bytes_cell (by omega) | (simp +contextual only [go_sem]; done) | fail, ?_⟩
    refine hkk _ (fun hb1 => ?_) (fun hb1 => ?_) <;> clear hkk kk
    · try simp only [bne_iff_ne, ne_eq, bne_eq_false_iff_eq, beq_iff_eq, beq_eq_false_iff_ne, decide_eq_true_eq, decide_eq_false_iff_not, Bool.not_eq_true', Bool.not_eq_false', Bool.and_eq_true, Bool.and_eq_false_iff, Bool.or_eq_true, Bool.or_eq_false_iff, Int.natCast_inj, not_true_eq_false, not_false_eq_true] at hb1
      refine AWp_exit ?_
      refine h7 _ _ ?_
      refine AWp_region tab_ok [] ?_
      simp only [go_sem, reduceIte, Nat.reduceEqDiff, Nat.reduceLT, decide_true, reduceCtorEq, Nat.reduceAdd, Nat.reduceBEq, Nat.reduceMul, Nat.reduceLeDiff, Int.reduceToNat, h_1, nB0_B, nB0_B.symm, nB1_B, nB1_B.symm, nB1_B0, nB1_B0.symm, nB2_B, nB2_B.symm, nB2_B0, nB2_B0.symm, nB2_B1, nB2_B1.symm, nB3_B, nB3_B.symm, nB3_B0, nB3_B0.symm, nB3_B1, nB3_B1.symm, nB3_B2, nB3_B2.symm]
      try simp (disch := omega) only [wrap64]
      repeat refine ⟨by first | assumption | omega | exact True.intro | exact rfl | exact ints_cells _ | exact List.mem_cons_self | exact bytes_cell (by omega) | exact fun _ => bytes_cell (by omega) | (simp +contextual only [go_sem]; done) | fail, ?_⟩
      refine hL0 ((i + 1), r2, bb) _ _ ?_ ?_ (by (try dsimp only); exact hweakL (by repeat (first | exact Fr_refl _ _ | refine Fr_new (by assumption) ?_ | refine Fr_old (by simp only [List.map_cons, List.mem_cons, true_or, or_true]) ?_)) (by simp only [go_sem, reduceIte, Nat.reduceEqDiff, Nat.reduceLT, decide_true, reduceCtorEq, Nat.reduceAdd, Nat.reduceBEq, Nat.reduceMul, Nat.reduceLeDiff, Int.reduceToNat, h_1, nB0_B, nB0_B.symm, nB1_B, nB1_B.symm, nB1_B0, nB1_B0.symm, nB2_B, nB2_B.symm, nB2_B0, nB2_B0.symm, nB2_B1, nB2_B1.symm, nB3_B, nB3_B.symm, nB3_B0, nB3_B0.symm, nB3_B1, nB3_B1.symm, nB3_B2, nB3_B2.symm]; first | done | exact True.intro | (repeat' apply And.intro) <;> first | rfl | exact True.intro)) ?_
      · dsimp only; exact ⟨by omega, by rw [partsTo_succ, hi0_1, partStep, if_pos (by omega)], by omega⟩
      · dsimp only; omega
      · simp only [go_sem, reduceIte, Nat.reduceEqDiff, Nat.reduceLT, decide_true, reduceCtorEq, Nat.reduceAdd, Nat.reduceBEq, Nat.reduceMul, Nat.reduceLeDiff, Int.reduceToNat, h_1, nB0_B, nB0_B.symm, nB1_B, nB1_B.symm, nB1_B0, nB1_B0.symm, nB2_B, nB2_B.symm, nB2_B0, nB2_B0.symm, nB2_B1, nB2_B1.symm, nB3_B, nB3_B.symm, nB3_B0, nB3_B0.symm, nB3_B1, nB3_B1.symm, nB3_B2, nB3_B2.symm]; first | done | exact True.intro | (repeat' apply And.intro) <;> first | rfl | exact True.intro
    · try simp only [bne_iff_ne, ne_eq, bne_eq_false_iff_eq, beq_iff_eq, beq_eq_false_iff_ne, decide_eq_true_eq, decide_eq_false_iff_not, Bool.not_eq_true', Bool.not_eq_false', Bool.and_eq_true, Bool.and_eq_false_iff, Bool.or_eq_true, Bool.or_eq_false_iff, Int.natCast_inj, not_true_eq_false, not_false_eq_true] at hb1
      refine AWp_skip ?_
      refine h9 _ _ ?_
      refine AWp_seq fun K11 h11 => ?_
      refine AWp_regionP tab_ok [] ?_
      simp only [go_sem, reduceIte, Nat.reduceEqDiff, Nat.reduceLT, decide_true, reduceCtorEq, Nat.reduceAdd, Nat.reduceBEq, Nat.reduceMul, Nat.reduceLeDiff, Int.reduceToNat, h_1, nB0_B, nB0_B.symm, nB1_B, nB1_B.symm, nB1_B0, nB1_B0.symm, nB2_B, nB2_B.symm, nB2_B0, nB2_B0.symm, nB2_B1, nB2_B1.symm, nB3_B, nB3_B.symm, nB3_B0, nB3_B0.symm, nB3_B1, nB3_B1.symm, nB3_B2, nB3_B2.symm]
      repeat refine ⟨by first | assumption | omega | exact True.intro | exact rfl | exact ints_cells _ | exact List.mem_cons_self | exact bytes_cell (by omega) | exact fun _ => bytes_cell (by omega) | (simp +contextual only [go_sem]; done) | fail, ?_⟩
      refine rget_spec _ _ _ r2 B 255 (by (first | assumption | omega | exact True.intro | exact ints_cells _ | (simp only [go_sem, reduceIte, Nat.reduceEqDiff, Nat.reduceLT, decide_true, reduceCtorEq, Nat.reduceAdd, Nat.reduceBEq, Nat.reduceMul, Nat.reduceLeDiff, Int.reduceToNat, h_1, nB0_B, nB0_B.symm, nB1_B, nB1_B.symm, nB1_B0, nB1_B0.symm, nB2_B, nB2_B.symm, nB2_B0, nB2_B0.symm, nB2_B1, nB2_B1.symm, nB3_B, nB3_B.symm, nB3_B0, nB3_B0.symm, nB3_B1, nB3_B1.symm, nB3_B2, nB3_B2.symm] <;> rfl))) (by (first | assumption | omega | exact True.intro | exact ints_cells _ | (simp only [go_sem, reduceIte, Nat.reduceEqDiff, Nat.reduceLT, decide_true, reduceCtorEq, Nat.reduceAdd, Nat.reduceBEq, Nat.reduceMul, Nat.reduceLeDiff, Int.reduceToNat, h_1, nB0_B, nB0_B.symm, nB1_B, nB1_B.symm, nB1_B0, nB1_B0.symm, nB2_B, nB2_B.symm, nB2_B0, nB2_B0.symm, nB2_B1, nB2_B1.symm, nB3_B, nB3_B.symm, nB3_B0, nB3_B0.symm, nB3_B1, nB3_B1.symm, nB3_B2, nB3_B2.symm] <;> rfl))) ?_ ?_
      rotate_left 1
      · intro hg H9 hF9
        try simp only [go_sem, reduceIte, Nat.reduceEqDiff, Nat.reduceLT, decide_true, reduceCtorEq, Nat.reduceAdd, Nat.reduceBEq, Nat.reduceMul, Nat.reduceLeDiff, Int.reduceToNat, h_1, nB0_B, nB0_B.symm, nB1_B, nB1_B.symm, nB1_B0, nB1_B0.symm, nB2_B, nB2_B.symm, nB2_B0, nB2_B0.symm, nB2_B1, nB2_B1.symm, nB3_B, nB3_B.symm, nB3_B0, nB3_B0.symm, nB3_B1, nB3_B1.symm, nB3_B2, nB3_B2.symm]
        refine retQP_panic _ (fun _ _ h => h) ?_
        refine hP ?_ _ (by refine Fr_trans ?_ hF9; repeat (first | exact Fr_refl _ _ | refine Fr_new (by assumption) ?_ | refine Fr_old (by simp only [List.map_cons, List.mem_cons, true_or, or_true]) ?_))
        rw [hrA, readA, partsTo_none (i := i + 1) (by omega) (by rw [partsTo_succ, hi0_1, partStep, if_neg (by omega), hg])]
      intro m r3 hg2
      obtain ⟨hm, hl3, -⟩ := getP_facts hg2
      simp only [callK]
      simp only [go_sem, reduceIte, Nat.reduceEqDiff, Nat.reduceLT, decide_true, reduceCtorEq, Nat.reduceAdd, Nat.reduceBEq, Nat.reduceMul, Nat.reduceLeDiff, Int.reduceToNat, h_1, nB0_B, nB0_B.symm, nB1_B, nB1_B.symm, nB1_B0, nB1_B0.symm, nB2_B, nB2_B.symm, nB2_B0, nB2_B0.symm, nB2_B1, nB2_B1.symm, nB3_B, nB3_B.symm, nB3_B0, nB3_B0.symm, nB3_B1, nB3_B1.symm, nB3_B2, nB3_B2.symm]
      repeat refine ⟨by first | assumption | omega | exact True.intro | exact rfl | exact ints_cells _ | exact List.mem_cons_self | exact bytes_cell (by omega) | exact fun _ => bytes_cell (by omega) | (simp +contextual only [go_sem]; done) | fail, ?_⟩
      refine h11 _ _ ?_
      clear h11
      refine AWp_seq fun K12 h12 => ?_
      refine AWp_seq fun K13 h13 => ?_
      refine AWp_region tab_ok [] ?_
      simp only [go_sem, reduceIte, Nat.reduceEqDiff, Nat.reduceLT, decide_true, reduceCtorEq, Nat.reduceAdd, Nat.reduceBEq, Nat.reduceMul, Nat.reduceLeDiff, Int.reduceToNat, h_1, nB0_B, nB0_B.symm, nB1_B, nB1_B.symm, nB1_B0, nB1_B0.symm, nB2_B, nB2_B.symm, nB2_B0, nB2_B0.symm, nB2_B1, nB2_B1.symm, nB3_B, nB3_B.symm, nB3_B0, nB3_B0.symm, nB3_B1, nB3_B1.symm, nB3_B2, nB3_B2.symm]
      repeat refine ⟨by first | assumption | omega | exact True.intro | exact rfl | exact ints_cells _ | exact List.mem_cons_self | exact bytes_cell (by omega) | exact fun _ => bytes_cell (by omega) | (simp +contextual only [go_sem]; done) | fail, ?_⟩
      refine partI_spec _ _ _ i hi5 ?_
      simp only [callK]
      simp only [go_sem, reduceIte, Nat.reduceEqDiff, Nat.reduceLT, decide_true, reduceCtorEq, Nat.reduceAdd, Nat.reduceBEq, Nat.reduceMul, Nat.reduceLeDiff, Int.reduceToNat, h_1, nB0_B, nB0_B.symm, nB1_B, nB1_B.symm, nB1_B0, nB1_B0.symm, nB2_B, nB2_B.symm, nB2_B0, nB2_B0.symm, nB2_B1, nB2_B1.symm, nB3_B, nB3_B.symm, nB3_B0, nB3_B0.symm, nB3_B1, nB3_B1.symm, nB3_B2, nB3_B2.symm]
      rw [AVcells_get bb hi5]
      simp only [go_sem, reduceIte, Nat.reduceEqDiff, Nat.reduceLT, decide_true, reduceCtorEq, Nat.reduceAdd, Nat.reduceBEq, Nat.reduceMul, Nat.reduceLeDiff, Int.reduceToNat, h_1, nB0_B, nB0_B.symm, nB1_B, nB1_B.symm, nB1_B0, nB1_B0.symm, nB2_B, nB2_B.symm, nB2_B0, nB2_B0.symm, nB2_B1, nB2_B1.symm, nB3_B, nB3_B.symm, nB3_B0, nB3_B0.symm, nB3_B1, nB3_B1.symm, nB3_B2, nB3_B2.symm]
      repeat refine ⟨by first | assumption | omega | exact True.intro | exact rfl | exact ints_cells _ | exact List.mem_cons_self | exact bytes_cell (by omega) | exact fun _ => bytes_cell (by omega) | (simp +contextual only [go_sem]; done) | fail, ?_⟩
      refine h13 _ _ ?_
      clear h13
      refine AWp_if fun kk hkk => ?_
      simp only [go_sem, reduceIte, Nat.reduceEqDiff, Nat.reduceLT, decide_true, reduceCtorEq, Nat.reduceAdd, Nat.reduceBEq, Nat.reduceMul, Nat.reduceLeDiff, Int.reduceToNat, h_1, nB0_B, nB0_B.symm, nB1_B, nB1_B.symm, nB1_B0, nB1_B0.symm, nB2_B, nB2_B.symm, nB2_B0, nB2_B0.symm, nB2_B1, nB2_B1.symm, nB3_B, nB3_B.symm, nB3_B0, nB3_B0.symm, nB3_B1, nB3_B1.symm, nB3_B2, nB3_B2.symm]
      repeat refine ⟨by first | assumption | omega | exact True.intro | exact rfl | exact ints_cells _ | exact List.mem_cons_self | exact bytes_cell (by omega) | exact fun _ => bytes_cell (by omega) | (simp +contextual only [go_sem]; done) | fail, ?_⟩
      refine hkk _ (fun hb2 => ?_) (fun hb2 => ?_) <;> clear hkk kk
      · try simp only [bne_iff_ne, ne_eq, bne_eq_false_iff_eq, beq_iff_eq, beq_eq_false_iff_ne, decide_eq_true_eq, decide_eq_false_iff_not, Bool.not_eq_true', Bool.not_eq_false', Bool.and_eq_true, Bool.and_eq_false_iff, Bool.or_eq_true, Bool.or_eq_false_iff, Int.natCast_inj, not_true_eq_false, not_false_eq_true] at hb2
        refine AWp_regionP tab_ok [] ?_
        simp only [go_sem, reduceIte, Nat.reduceEqDiff, Nat.reduceLT, decide_true, reduceCtorEq, Nat.reduceAdd, Nat.reduceBEq, Nat.reduceMul, Nat.reduceLeDiff, Int.reduceToNat, h_1, nB0_B, nB0_B.symm, nB1_B, nB1_B.symm, nB1_B0, nB1_B0.symm, nB2_B, nB2_B.symm, nB2_B0, nB2_B0.symm, nB2_B1, nB2_B1.symm, nB3_B, nB3_B.symm, nB3_B0, nB3_B0.symm, nB3_B1, nB3_B1.symm, nB3_B2, nB3_B2.symm]
        repeat refine ⟨by first | assumption | omega | exact True.intro | exact rfl | exact ints_cells _ | exact List.mem_cons_self | exact bytes_cell (by omega) | exact fun _ => bytes_cell (by omega) | (simp +contextual only [go_sem]; done) | fail, ?_⟩
        refine retQP_panic _ (fun _ _ h => h) ?_
        refine hP ?_ _ (by repeat (first | exact Fr_refl _ _ | refine Fr_new (by assumption) ?_ | refine Fr_old (by simp only [List.map_cons, List.mem_cons, true_or, or_true]) ?_))
        rw [hrA, readA, partsTo_none (i := i + 1) (by omega) (by rw [partsTo_succ, hi0_1, partStep, if_neg (by omega), hg2]; dsimp only; rw [if_pos hb2])]
      · try simp only [bne_iff_ne, ne_eq, bne_eq_false_iff_eq, beq_iff_eq, beq_eq_false_iff_ne, decide_eq_true_eq, decide_eq_false_iff_not, Bool.not_eq_true', Bool.not_eq_false', Bool.and_eq_true, Bool.and_eq_false_iff, Bool.or_eq_true, Bool.or_eq_false_iff, Int.natCast_inj, not_true_eq_false, not_false_eq_true] at hb2
        refine AWp_skip ?_
        refine h12 _ _ ?_
        refine AWp_region tab_ok [] ?_
        simp only [go_sem, reduceIte, Nat.reduceEqDiff, Nat.reduceLT, decide_true, reduceCtorEq, Nat.reduceAdd, Nat.reduceBEq, Nat.reduceMul, Nat.reduceLeDiff, Int.reduceToNat, h_1, nB0_B, nB0_B.symm, nB1_B, nB1_B.symm, nB1_B0, nB1_B0.symm, nB2_B, nB2_B.symm, nB2_B0, nB2_B0.symm, nB2_B1, nB2_B1.symm, nB3_B, nB3_B.symm, nB3_B0, nB3_B0.symm, nB3_B1, nB3_B1.symm, nB3_B2, nB3_B2.symm]
        repeat refine ⟨by first | assumption | omega | exact True.intro | exact rfl | exact ints_cells _ | exact List.mem_cons_self | exact bytes_cell (by omega) | exact fun _ => bytes_cell (by omega) | (simp +contextual only [go_sem]; done) | fail, ?_⟩
        refine partI_spec _ _ _ i hi5 ?_
        simp only [callK]
        simp only [go_sem, reduceIte, Nat.reduceEqDiff, Nat.reduceLT, decide_true, reduceCtorEq, Nat.reduceAdd, Nat.reduceBEq, Nat.reduceMul, Nat.reduceLeDiff, Int.reduceToNat, h_1, nB0_B, nB0_B.symm, nB1_B, nB1_B.symm, nB1_B0, nB1_B0.symm, nB2_B, nB2_B.symm, nB2_B0, nB2_B0.symm, nB2_B1, nB2_B1.symm, nB3_B, nB3_B.symm, nB3_B0, nB3_B0.symm, nB3_B1, nB3_B1.symm, nB3_B2, nB3_B2.symm]
        repeat refine ⟨by first | assumption | omega | exact True.intro | exact rfl | exact ints_cells _ | exact List.mem_cons_self | exact bytes_cell (by omega) | exact fun _ => bytes_cell (by omega) | (simp +contextual only [go_sem]; done) | fail, ?_⟩
        refine h7 _ _ ?_
        refine AWp_region tab_ok [] ?_
        simp only [go_sem, reduceIte, Nat.reduceEqDiff, Nat.reduceLT, decide_true, reduceCtorEq, Nat.reduceAdd, Nat.reduceBEq, Nat.reduceMul, Nat.reduceLeDiff, Int.reduceToNat, h_1, nB0_B, nB0_B.symm, nB1_B, nB1_B.symm, nB1_B0, nB1_B0.symm, nB2_B, nB2_B.symm, nB2_B0, nB2_B0.symm, nB2_B1, nB2_B1.symm, nB3_B, nB3_B.symm, nB3_B0, nB3_B0.symm, nB3_B1, nB3_B1.symm, nB3_B2, nB3_B2.symm]
        try simp (disch := omega) only [wrap64]
        repeat refine ⟨by first | assumption | omega | exact True.intro | exact rfl | exact ints_cells _ | exact List.mem_cons_self | exact bytes_cell (by omega) | exact fun _ => bytes_cell (by omega) | (simp +contextual only [go_sem]; done) | fail, ?_⟩
        refine hL0 ((i + 1), r3, (setPart bb m i)) _ _ ?_ ?_ (by (try dsimp only); exact hweakL (by repeat (first | exact Fr_refl _ _ | refine Fr_new (by assumption) ?_ | refine Fr_old (by simp only [List.map_cons, List.mem_cons, true_or, or_true]) ?_)) (by simp only [← set_off _ _ hi5]; simp only [go_sem, reduceIte, Nat.reduceEqDiff, Nat.reduceLT, decide_true, reduceCtorEq, Nat.reduceAdd, Nat.reduceBEq, Nat.reduceMul, Nat.reduceLeDiff, Int.reduceToNat, h_1, nB0_B, nB0_B.symm, nB1_B, nB1_B.symm, nB1_B0, nB1_B0.symm, nB2_B, nB2_B.symm, nB2_B0, nB2_B0.symm, nB2_B1, nB2_B1.symm, nB3_B, nB3_B.symm, nB3_B0, nB3_B0.symm, nB3_B1, nB3_B1.symm, nB3_B2, nB3_B2.symm]; first | done | exact True.intro | (repeat' apply And.intro) <;> first | rfl | exact True.intro)) ?_
        · dsimp only; exact ⟨by omega, by rw [partsTo_succ, hi0_1, partStep, if_neg (by omega), hg2]; dsimp only; rw [if_neg hb2], by omega⟩
        · dsimp only; omega
        · simp only [go_sem, reduceIte, Nat.reduceEqDiff, Nat.reduceLT, decide_true, reduceCtorEq, Nat.reduceAdd, Nat.reduceBEq, Nat.reduceMul, Nat.reduceLeDiff, Int.reduceToNat, h_1, nB0_B, nB0_B.symm, nB1_B, nB1_B.symm, nB1_B0, nB1_B0.symm, nB2_B, nB2_B.symm, nB2_B0, nB2_B0.symm, nB2_B1, nB2_B1.symm, nB3_B, nB3_B.symm, nB3_B0, nB3_B0.symm, nB3_B1, nB3_B1.symm, nB3_B2, nB3_B2.symm]; first | done | exact True.intro | (repeat' apply And.intro) <;> first | rfl | exact True.intro
  · simp only [bne_iff_ne, ne_eq, bne_eq_false_iff_eq, beq_iff_eq, beq_eq_false_iff_ne, decide_eq_true_eq, decide_eq_false_iff_not, Bool.not_eq_true', Bool.not_eq_false', Bool.and_eq_true, Bool.and_eq_false_iff, Bool.or_eq_true, Bool.or_eq_false_iff, Int.natCast_inj, not_true_eq_false, not_false_eq_true] at hb0
    obtain rfl : i = 5 := by omega
    have hrB : readBt b r = readB n bb r2 := by rw [hrA, readA, hi0_1]
    simp only [hcells]
    have and4 := and64l n 4 (by omega) (by omega)
    refine AWp_exit ?_
    refine h3 _ _ ?_
    refine AWp_seq fun K14 h14 => ?_
    refine AWp_region tab_ok [] ?_
    simp only [go_sem, reduceIte, Nat.reduceEqDiff, Nat.reduceLT, decide_true, reduceCtorEq, Nat.reduceAdd, Nat.reduceBEq, Nat.reduceMul, Nat.reduceLeDiff, Int.reduceToNat, h_1, nB0_B, nB0_B.symm, nB1_B, nB1_B.symm, nB1_B0, nB1_B0.symm, nB2_B, nB2_B.symm, nB2_B0, nB2_B0.symm, nB2_B1, nB2_B1.symm, and4]
    repeat refine ⟨by first | assumption | omega | exact True.intro | exact rfl | exact ints_cells _ | exact List.mem_cons_self | exact bytes_cell (by omega) | exact fun _ => bytes_cell (by omega) | (simp +contextual only [go_sem]; done) | fail, ?_⟩
    refine h14 _ _ ?_
    clear h14
    refine AWp_seq fun K15 h15 => ?_
    refine AWp_region tab_ok [] ?_
    simp only [go_sem, reduceIte, Nat.reduceEqDiff, Nat.reduceLT, decide_true, reduceCtorEq, Nat.reduceAdd, Nat.reduceBEq, Nat.reduceMul, Nat.reduceLeDiff, Int.reduceToNat, h_1, nB0_B, nB0_B.symm, nB1_B, nB1_B.symm, nB1_B0, nB1_B0.symm, nB2_B, nB2_B.symm, nB2_B0, nB2_B0.symm, nB2_B1, nB2_B1.symm]
    repeat refine ⟨by first | assumption | omega | exact True.intro | exact rfl | exact ints_cells _ | exact List.mem_cons_self | exact bytes_cell (by omega) | exact fun _ => bytes_cell (by omega) | (simp +contextual only [go_sem]; done) | fail, ?_⟩
    refine h15 _ _ ?_
    clear h15
    refine AWp_seq fun K16 h16 => ?_
    refine AWp_seq fun K17 h17 => ?_
    refine AWp_regionP tab_ok [] ?_
    simp only [go_sem, reduceIte, Nat.reduceEqDiff, Nat.reduceLT, decide_true, reduceCtorEq, Nat.reduceAdd, Nat.reduceBEq, Nat.reduceMul, Nat.reduceLeDiff, Int.reduceToNat, h_1, nB0_B, nB0_B.symm, nB1_B, nB1_B.symm, nB1_B0, nB1_B0.symm, nB2_B, nB2_B.symm, nB2_B0, nB2_B0.symm, nB2_B1, nB2_B1.symm]
    repeat refine ⟨by first | assumption | omega | exact True.intro | exact rfl | exact ints_cells _ | exact List.mem_cons_self | exact bytes_cell (by omega) | exact fun _ => bytes_cell (by omega) | (simp +contextual only [go_sem]; done) | fail, ?_⟩
    refine rget_spec _ _ _ r2 B 64 (by (first | assumption | omega | exact True.intro | exact ints_cells _ | (simp only [go_sem, reduceIte, Nat.reduceEqDiff, Nat.reduceLT, decide_true, reduceCtorEq, Nat.reduceAdd, Nat.reduceBEq, Nat.reduceMul, Nat.reduceLeDiff, Int.reduceToNat, h_1, nB0_B, nB0_B.symm, nB1_B, nB1_B.symm, nB1_B0, nB1_B0.symm, nB2_B, nB2_B.symm, nB2_B0, nB2_B0.symm, nB2_B1, nB2_B1.symm] <;> rfl))) (by (first | assumption | omega | exact True.intro | exact ints_cells _ | (simp only [go_sem, reduceIte, Nat.reduceEqDiff, Nat.reduceLT, decide_true, reduceCtorEq, Nat.reduceAdd, Nat.reduceBEq, Nat.reduceMul, Nat.reduceLeDiff, Int.reduceToNat, h_1, nB0_B, nB0_B.symm, nB1_B, nB1_B.symm, nB1_B0, nB1_B0.symm, nB2_B, nB2_B.symm, nB2_B0, nB2_B0.symm, nB2_B1, nB2_B1.symm] <;> rfl))) ?_ ?_
    rotate_left 1
    · intro hg H9 hF9
      try simp only [go_sem, reduceIte, Nat.reduceEqDiff, Nat.reduceLT, decide_true, reduceCtorEq, Nat.reduceAdd, Nat.reduceBEq, Nat.reduceMul, Nat.reduceLeDiff, Int.reduceToNat, h_1, nB0_B, nB0_B.symm, nB1_B, nB1_B.symm, nB1_B0, nB1_B0.symm, nB2_B, nB2_B.symm, nB2_B0, nB2_B0.symm, nB2_B1, nB2_B1.symm]
      refine retQP_panic _ (fun _ _ h => h) ?_
      exact hP (by rw [hrB, readB, hg]) _ (by refine Fr_trans ?_ hF9; repeat (first | exact Fr_refl _ _ | refine Fr_new (by assumption) ?_ | refine Fr_old (by simp only [List.map_cons, List.mem_cons, true_or, or_true]) ?_))
    intro k r3 hg3
    obtain ⟨hk64, hl3, -⟩ := getP_facts hg3
    simp only [callK]
    simp only [go_sem, reduceIte, Nat.reduceEqDiff, Nat.reduceLT, decide_true, reduceCtorEq, Nat.reduceAdd, Nat.reduceBEq, Nat.reduceMul, Nat.reduceLeDiff, Int.reduceToNat, h_1, nB0_B, nB0_B.symm, nB1_B, nB1_B.symm, nB1_B0, nB1_B0.symm, nB2_B, nB2_B.symm, nB2_B0, nB2_B0.symm, nB2_B1, nB2_B1.symm]
    repeat refine ⟨by first | assumption | omega | exact True.intro | exact rfl | exact ints_cells _ | exact List.mem_cons_self | exact bytes_cell (by omega) | exact fun _ => bytes_cell (by omega) | (simp +contextual only [go_sem]; done) | fail, ?_⟩
    refine h17 _ _ ?_
    clear h17
    refine AWp_block ?_
    refine AWp_loop_ind (ι := (Nat) × (Rd) × (List Int)) (fun (s : (Nat) × (Rd) × (List Int)) => match s with | (j, r4, l) => [(47, .sc (.int .i64 j)), (46, .sc (.int .i64 k)), (2, .sc (.pointer (some ⟨B0, 0, none⟩))), (3, .sc (.pointer (some ⟨B1, 0, none⟩))), (4, .sc (.pointer (some ⟨B2, 0, none⟩)))]) (fun (s : (Nat) × (Rd) × (List Int)) => match s with | (j, r4, l) => (hsets H [(B, (.cells [.lst 0 (bytes r4.left), .sc (.bool r4.bad)])), (B0, .cells [.sc (.pointer (some ⟨B, 0, none⟩))]), (B1, .cells [.sc (.int .i64 bb.a0), .sc (.int .i64 bb.a1), .sc (.bool (!(bb.clear == (((n &&& 4 : Nat) : Int) != 0)))), .sc (.int .i64 bb.a3), .sc (.int .i64 bb.a4), .sc (.int .i64 bb.a5), .lst 1 (ints l)]), (B2, .cells [.sc (.int .i64 0), .sc (.int .i64 0), .sc (.bool false), .sc (.int .i64 0), .sc (.int .i64 0), .sc (.int .i64 0), .lst 1 []])])) (fun (s : (Nat) × (Rd) × (List Int)) => match s with | (j, r4, l) => (j ≤ k) ∧ (idsTo r3 j = some (l, r4)) ∧ (r4.left.length ≤ r.left.length) ∧ (l.length = j)) (fun (s : (Nat) × (Rd) × (List Int)) => match s with | (j, r4, l) => k - j) (0, r3, []) ?_ ?_ ?_ ?_
    · exact ⟨by omega, rfl, by omega, rfl⟩
    · (try dsimp only); exact (hweakL (by repeat (first | exact Fr_refl _ _ | refine Fr_new (by assumption) ?_ | refine Fr_old (by simp only [List.map_cons, List.mem_cons, true_or, or_true]) ?_)) (by simp only [go_sem, reduceIte, Nat.reduceEqDiff, Nat.reduceLT, decide_true, reduceCtorEq, Nat.reduceAdd, Nat.reduceBEq, Nat.reduceMul, Nat.reduceLeDiff, Int.reduceToNat, h_1, nB0_B, nB0_B.symm, nB1_B, nB1_B.symm, nB1_B0, nB1_B0.symm, nB2_B, nB2_B.symm, nB2_B0, nB2_B0.symm, nB2_B1, nB2_B1.symm]; first | done | exact True.intro | (repeat' apply And.intro) <;> first | rfl | exact True.intro))
    · simp only [go_sem, reduceIte, Nat.reduceEqDiff, Nat.reduceLT, decide_true, reduceCtorEq, Nat.reduceAdd, Nat.reduceBEq, Nat.reduceMul, Nat.reduceLeDiff, Int.reduceToNat, h_1, nB0_B, nB0_B.symm, nB1_B, nB1_B.symm, nB1_B0, nB1_B0.symm, nB2_B, nB2_B.symm, nB2_B0, nB2_B0.symm, nB2_B1, nB2_B1.symm]; first | done | exact True.intro | (repeat' apply And.intro) <;> first | rfl | exact True.intro
    rintro ⟨j, r4, l⟩ ⟨hi1_0, hi1_1, hi1_2, hi1_3⟩ L1 hL1
    dsimp only at *
    refine AWp_seq fun K18 h18 => ?_
    refine AWp_region tab_ok [] ?_
    simp only [go_sem, reduceIte, Nat.reduceEqDiff, Nat.reduceLT, decide_true, reduceCtorEq, Nat.reduceAdd, Nat.reduceBEq, Nat.reduceMul, Nat.reduceLeDiff, Int.reduceToNat, h_1, nB0_B, nB0_B.symm, nB1_B, nB1_B.symm, nB1_B0, nB1_B0.symm, nB2_B, nB2_B.symm, nB2_B0, nB2_B0.symm, nB2_B1, nB2_B1.symm]
    repeat refine ⟨by first | assumption | omega | exact True.intro | exact rfl | exact ints_cells _ | exact List.mem_cons_self | exact bytes_cell (by omega) | exact fun _ => bytes_cell (by omega) | (simp +contextual only [go_sem]; done) | fail, ?_⟩
    refine h18 _ _ ?_
    clear h18
    refine AWp_seq fun K19 h19 => ?_
    refine AWp_if fun kk hkk => ?_
    simp only [go_sem, reduceIte, Nat.reduceEqDiff, Nat.reduceLT, decide_true, reduceCtorEq, Nat.reduceAdd, Nat.reduceBEq, Nat.reduceMul, Nat.reduceLeDiff, Int.reduceToNat, h_1, nB0_B, nB0_B.symm, nB1_B, nB1_B.symm, nB1_B0, nB1_B0.symm, nB2_B, nB2_B.symm, nB2_B0, nB2_B0.symm, nB2_B1, nB2_B1.symm]
    repeat refine ⟨by first | assumption | omega | exact True.intro | exact rfl | exact ints_cells _ | exact List.mem_cons_self | exact bytes_cell (by omega) | exact fun _ => bytes_cell (by omega) | (simp +contextual only [go_sem]; done) | fail, ?_⟩
    refine hkk _ (fun hb3 => ?_) (fun hb3 => ?_) <;> clear hkk kk
    · try simp only [bne_iff_ne, ne_eq, bne_eq_false_iff_eq, beq_iff_eq, beq_eq_false_iff_ne, decide_eq_true_eq, decide_eq_false_iff_not, Bool.not_eq_true', Bool.not_eq_false', Bool.and_eq_true, Bool.and_eq_false_iff, Bool.or_eq_true, Bool.or_eq_false_iff, Int.natCast_inj, not_true_eq_false, not_false_eq_true] at hb3
      refine AWp_skip ?_
      refine h19 _ _ ?_
      refine AWp_seq fun K20 h20 => ?_
      refine AWp_block ?_
      rcases hgp : getP r4 16777215 with _ | ⟨m, r5⟩
      · refine AWp_panics tab_ok (by kernel_rfl) 3 [0, 1, 2] (by kernel_rfl) rfl ?_
        simp only [go_sem, reduceIte, Nat.reduceEqDiff, Nat.reduceLT, decide_true, reduceCtorEq, Nat.reduceAdd, Nat.reduceBEq, Nat.reduceMul, Nat.reduceLeDiff, Int.reduceToNat, h_1, nB0_B, nB0_B.symm, nB1_B, nB1_B.symm, nB1_B0, nB1_B0.symm, nB2_B, nB2_B.symm, nB2_B0, nB2_B0.symm, nB2_B1, nB2_B1.symm]
        repeat refine ⟨by first | assumption | omega | exact True.intro | exact rfl | exact ints_cells _ | exact List.mem_cons_self | exact bytes_cell (by omega) | exact fun _ => bytes_cell (by omega) | (simp +contextual only [go_sem]; done) | fail, ?_⟩
        refine rget_spec _ _ _ r4 B 16777215 (by omega) (by simp only [go_sem, reduceIte, Nat.reduceEqDiff, Nat.reduceLT, decide_true, reduceCtorEq, Nat.reduceAdd, Nat.reduceBEq, Nat.reduceMul, Nat.reduceLeDiff, Int.reduceToNat, h_1, nB0_B, nB0_B.symm, nB1_B, nB1_B.symm, nB1_B0, nB1_B0.symm, nB2_B, nB2_B.symm, nB2_B0, nB2_B0.symm, nB2_B1, nB2_B1.symm]) (fun n r' hg => by rw [hgp] at hg; cases hg) (fun _ H9 hF9 e' => ?_)
        try simp only [go_sem, reduceIte, Nat.reduceEqDiff, Nat.reduceLT, decide_true, reduceCtorEq, Nat.reduceAdd, Nat.reduceBEq, Nat.reduceMul, Nat.reduceLeDiff, Int.reduceToNat, h_1, nB0_B, nB0_B.symm, nB1_B, nB1_B.symm, nB1_B0, nB1_B0.symm, nB2_B, nB2_B.symm, nB2_B0, nB2_B0.symm, nB2_B1, nB2_B1.symm]
        refine retQP_panic _ (fun _ _ h => h) ?_
        refine hP ?_ _ (by refine Fr_trans ?_ hF9; repeat (first | exact Fr_refl _ _ | refine Fr_new (by assumption) ?_ | refine Fr_old (by simp only [List.map_cons, List.mem_cons, true_or, or_true]) ?_))
        rw [hrB, readB, hg3]; dsimp only; rw [idsTo_none (i := j + 1) (by omega) (by rw [idsTo_succ, hi1_1, idStep, hgp])]
      refine AWp_open tab_ok (by kernel_rfl) [1] [(1, [B1]), (2, [B0]), (3, [B]), (7, [B1])] [(1, [B1]), (3, [B]), (7, [B1])] [1, 3, 7] rfl [(1, 2), (0, 3), (1, 3), (1, 4)] (by kernel_rfl) (by kernel_rfl) ?_ ?_
      · simp only [go_sem, reduceIte, Nat.reduceEqDiff, Nat.reduceLT, decide_true, reduceCtorEq, Nat.reduceAdd, Nat.reduceBEq, Nat.reduceMul, Nat.reduceLeDiff, Int.reduceToNat, h_1, nB0_B, nB0_B.symm, nB1_B, nB1_B.symm, nB1_B0, nB1_B0.symm, nB2_B, nB2_B.symm, nB2_B0, nB2_B0.symm, nB2_B1, nB2_B1.symm, List.mem_singleton, forall_eq]
      simp only [go_sem, reduceIte, Nat.reduceEqDiff, Nat.reduceLT, decide_true, reduceCtorEq, Nat.reduceAdd, Nat.reduceBEq, Nat.reduceMul, Nat.reduceLeDiff, Int.reduceToNat, h_1, nB0_B, nB0_B.symm, nB1_B, nB1_B.symm, nB1_B0, nB1_B0.symm, nB2_B, nB2_B.symm, nB2_B0, nB2_B0.symm, nB2_B1, nB2_B1.symm]
      repeat refine ⟨by first | assumption | omega | exact True.intro | exact rfl | exact ints_cells _ | exact List.mem_cons_self | exact bytes_cell (by omega) | exact fun _ => bytes_cell (by omega) | (simp +contextual only [go_sem]; done) | fail, ?_⟩
      refine ⟨.sc (.int .i64 m), [(B, (.cells [.lst 0 (bytes r5.left), .sc (.bool r5.bad)]))], fun H2 hH2 K2 hK2 => ?_, ?_⟩
      · exact (rget_spec _ _ _ r4 B _ (by omega) hH2 (fun n r' hg => by rw [hgp] at hg; cases hg; exact hK2) (fun hg => by rw [hgp] at hg; cases hg)).toA
      try simp only [go_sem, reduceIte, Nat.reduceEqDiff, Nat.reduceLT, decide_true, reduceCtorEq, Nat.reduceAdd, Nat.reduceBEq, Nat.reduceMul, Nat.reduceLeDiff, Int.reduceToNat, h_1, nB0_B, nB0_B.symm, nB1_B, nB1_B.symm, nB1_B0, nB1_B0.symm, nB2_B, nB2_B.symm, nB2_B0, nB2_B0.symm, nB2_B1, nB2_B1.symm]
      repeat refine ⟨by first | assumption | omega | exact True.intro | exact rfl | exact ints_cells _ | exact List.mem_cons_self | exact bytes_cell (by omega) | exact fun _ => bytes_cell (by omega) | (simp +contextual only [go_sem]; done) | fail, ?_⟩
      refine h20 _ _ ?_
      refine AWp_region tab_ok [] ?_
      simp only [go_sem, reduceIte, Nat.reduceEqDiff, Nat.reduceLT, decide_true, reduceCtorEq, Nat.reduceAdd, Nat.reduceBEq, Nat.reduceMul, Nat.reduceLeDiff, Int.reduceToNat, h_1, nB0_B, nB0_B.symm, nB1_B, nB1_B.symm, nB1_B0, nB1_B0.symm, nB2_B, nB2_B.symm, nB2_B0, nB2_B0.symm, nB2_B1, nB2_B1.symm]
      try simp (disch := omega) only [wrap64]
      repeat refine ⟨by first | assumption | omega | exact True.intro | exact rfl | exact ints_cells _ | exact List.mem_cons_self | exact bytes_cell (by omega) | exact fun _ => bytes_cell (by omega) | (simp +contextual only [go_sem]; done) | fail, ?_⟩
      refine hL1 ((j + 1), r5, (l ++ [(m : Int)])) _ _ ?_ ?_ (by (try dsimp only); exact hweakL (by repeat (first | exact Fr_refl _ _ | refine Fr_new (by assumption) ?_ | refine Fr_old (by simp only [List.map_cons, List.mem_cons, true_or, or_true]) ?_)) (by simp only [go_sem, reduceIte, Nat.reduceEqDiff, Nat.reduceLT, decide_true, reduceCtorEq, Nat.reduceAdd, Nat.reduceBEq, Nat.reduceMul, Nat.reduceLeDiff, Int.reduceToNat, h_1, nB0_B, nB0_B.symm, nB1_B, nB1_B.symm, nB1_B0, nB1_B0.symm, nB2_B, nB2_B.symm, nB2_B0, nB2_B0.symm, nB2_B1, nB2_B1.symm]; first | done | exact True.intro | (repeat' apply And.intro) <;> first | rfl | exact True.intro)) ?_
      · dsimp only; exact ⟨by omega, by rw [idsTo_succ, hi1_1, idStep, hgp], by have := (getP_facts hgp).2.1; omega, by simp; omega⟩
      · dsimp only; omega
      · simp only [go_sem, reduceIte, Nat.reduceEqDiff, Nat.reduceLT, decide_true, reduceCtorEq, Nat.reduceAdd, Nat.reduceBEq, Nat.reduceMul, Nat.reduceLeDiff, Int.reduceToNat, h_1, nB0_B, nB0_B.symm, nB1_B, nB1_B.symm, nB1_B0, nB1_B0.symm, nB2_B, nB2_B.symm, nB2_B0, nB2_B0.symm, nB2_B1, nB2_B1.symm]; first | done | exact True.intro | (repeat' apply And.intro) <;> first | rfl | exact True.intro
    · simp only [bne_iff_ne, ne_eq, bne_eq_false_iff_eq, beq_iff_eq, beq_eq_false_iff_ne, decide_eq_true_eq, decide_eq_false_iff_not, Bool.not_eq_true', Bool.not_eq_false', Bool.and_eq_true, Bool.and_eq_false_iff, Bool.or_eq_true, Bool.or_eq_false_iff, Int.natCast_inj, not_true_eq_false, not_false_eq_true] at hb3
      obtain rfl : j = k := by omega
      have hrC : readBt b r = readC n bb l r4 := by rw [hrB, readB, hg3]; dsimp only; rw [hi1_1]
      refine AWp_exit ?_
      refine h16 _ _ ?_
      refine AWp_seq fun K21 h21 => ?_
      refine AWp_seq fun K22 h22 => ?_
      refine AWp_region tab_ok [] ?_
      simp only [go_sem, reduceIte, Nat.reduceEqDiff, Nat.reduceLT, decide_true, reduceCtorEq, Nat.reduceAdd, Nat.reduceBEq, Nat.reduceMul, Nat.reduceLeDiff, Int.reduceToNat, h_1, nB0_B, nB0_B.symm, nB1_B, nB1_B.symm, nB1_B0, nB1_B0.symm, nB2_B, nB2_B.symm, nB2_B0, nB2_B0.symm, nB2_B1, nB2_B1.symm]
      repeat refine ⟨by first | assumption | omega | exact True.intro | exact rfl | exact ints_cells _ | exact List.mem_cons_self | exact bytes_cell (by omega) | exact fun _ => bytes_cell (by omega) | (simp +contextual only [go_sem]; done) | fail, ?_⟩
      refine batchRight_spec _ _ [({ bb with clear := !(bb.clear == (((n &&& 4 : Nat) : Int) != 0)), ids := l } : Bt)] (by simp) (by intro x hx; simp only [List.mem_singleton] at hx; subst hx; dsimp only; omega) ?_
      simp only [callK]
      simp only [go_sem, reduceIte, Nat.reduceEqDiff, Nat.reduceLT, decide_true, reduceCtorEq, Nat.reduceAdd, Nat.reduceBEq, Nat.reduceMul, Nat.reduceLeDiff, Int.reduceToNat, h_1, nB0_B, nB0_B.symm, nB1_B, nB1_B.symm, nB1_B0, nB1_B0.symm, nB2_B, nB2_B.symm, nB2_B0, nB2_B0.symm, nB2_B1, nB2_B1.symm]
      repeat refine ⟨by first | assumption | omega | exact True.intro | exact rfl | exact ints_cells _ | exact List.mem_cons_self | exact bytes_cell (by omega) | exact fun _ => bytes_cell (by omega) | (simp +contextual only [go_sem]; done) | fail, ?_⟩
      refine h22 _ _ ?_
      clear h22
      refine AWp_if fun kk hkk => ?_
      simp only [go_sem, reduceIte, Nat.reduceEqDiff, Nat.reduceLT, decide_true, reduceCtorEq, Nat.reduceAdd, Nat.reduceBEq, Nat.reduceMul, Nat.reduceLeDiff, Int.reduceToNat, h_1, nB0_B, nB0_B.symm, nB1_B, nB1_B.symm, nB1_B0, nB1_B0.symm, nB2_B, nB2_B.symm, nB2_B0, nB2_B0.symm, nB2_B1, nB2_B1.symm]
      repeat refine ⟨by first | assumption | omega | exact True.intro | exact rfl | exact ints_cells _ | exact List.mem_cons_self | exact bytes_cell (by omega) | exact fun _ => bytes_cell (by omega) | (simp +contextual only [go_sem]; done) | fail, ?_⟩
      refine hkk _ (fun hb4 => ?_) (fun hb4 => ?_) <;> clear hkk kk
      · try simp only [bne_iff_ne, ne_eq, bne_eq_false_iff_eq, beq_iff_eq, beq_eq_false_iff_ne, decide_eq_true_eq, decide_eq_false_iff_not, Bool.not_eq_true', Bool.not_eq_false', Bool.and_eq_true, Bool.and_eq_false_iff, Bool.or_eq_true, Bool.or_eq_false_iff, Int.natCast_inj, not_true_eq_false, not_false_eq_true] at hb4
        refine AWp_regionP tab_ok [] ?_
        simp only [go_sem, reduceIte, Nat.reduceEqDiff, Nat.reduceLT, decide_true, reduceCtorEq, Nat.reduceAdd, Nat.reduceBEq, Nat.reduceMul, Nat.reduceLeDiff, Int.reduceToNat, h_1, nB0_B, nB0_B.symm, nB1_B, nB1_B.symm, nB1_B0, nB1_B0.symm, nB2_B, nB2_B.symm, nB2_B0, nB2_B0.symm, nB2_B1, nB2_B1.symm]
        repeat refine ⟨by first | assumption | omega | exact True.intro | exact rfl | exact ints_cells _ | exact List.mem_cons_self | exact bytes_cell (by omega) | exact fun _ => bytes_cell (by omega) | (simp +contextual only [go_sem]; done) | fail, ?_⟩
        refine retQP_panic _ (fun _ _ h => h) ?_
        refine hP ?_ _ (by repeat (first | exact Fr_refl _ _ | refine Fr_new (by assumption) ?_ | refine Fr_old (by simp only [List.map_cons, List.mem_cons, true_or, or_true]) ?_))
        rw [hrC, readC, if_neg (by rw [btsRight_one] at hb4; simp [hb4])]
      · try simp only [bne_iff_ne, ne_eq, bne_eq_false_iff_eq, beq_iff_eq, beq_eq_false_iff_ne, decide_eq_true_eq, decide_eq_false_iff_not, Bool.not_eq_true', Bool.not_eq_false', Bool.and_eq_true, Bool.and_eq_false_iff, Bool.or_eq_true, Bool.or_eq_false_iff, Int.natCast_inj, not_true_eq_false, not_false_eq_true] at hb4
        refine AWp_skip ?_
        refine h21 _ _ ?_
        refine AWp_seq fun K23 h23 => ?_
        refine AWp_region tab_ok [] ?_
        simp only [go_sem, reduceIte, Nat.reduceEqDiff, Nat.reduceLT, decide_true, reduceCtorEq, Nat.reduceAdd, Nat.reduceBEq, Nat.reduceMul, Nat.reduceLeDiff, Int.reduceToNat, h_1, nB0_B, nB0_B.symm, nB1_B, nB1_B.symm, nB1_B0, nB1_B0.symm, nB2_B, nB2_B.symm, nB2_B0, nB2_B0.symm, nB2_B1, nB2_B1.symm]
        repeat refine ⟨by first | assumption | omega | exact True.intro | exact rfl | exact ints_cells _ | exact List.mem_cons_self | exact bytes_cell (by omega) | exact fun _ => bytes_cell (by omega) | (simp +contextual only [go_sem]; done) | fail, ?_⟩
        refine h23 _ _ ?_
        clear h23
        refine AWp_ret ?_
        refine retQP_mk (hsets H [(B, (.cells [.lst 0 (bytes r4.left), .sc (.bool r4.bad)]))]) (hweakL (by repeat (first | exact Fr_refl _ _ | refine Fr_new (by assumption) ?_ | refine Fr_old (by simp only [List.map_cons, List.mem_cons, true_or, or_true]) ?_)) (by simp only [go_sem, reduceIte, Nat.reduceEqDiff, Nat.reduceLT, decide_true, reduceCtorEq, Nat.reduceAdd, Nat.reduceBEq, Nat.reduceMul, Nat.reduceLeDiff, Int.reduceToNat, h_1, nB0_B, nB0_B.symm, nB1_B, nB1_B.symm, nB1_B0, nB1_B0.symm, nB2_B, nB2_B.symm, nB2_B0, nB2_B0.symm, nB2_B1, nB2_B1.symm]; first | done | exact True.intro | (repeat' apply And.intro) <;> first | rfl | exact True.intro)) (.inr rfl) ?_
        simp only [go_sem, reduceIte, Nat.reduceEqDiff, Nat.reduceLT, decide_true, reduceCtorEq, Nat.reduceAdd, Nat.reduceBEq, Nat.reduceMul, Nat.reduceLeDiff, Int.reduceToNat, h_1, nB0_B, nB0_B.symm, nB1_B, nB1_B.symm, nB1_B0, nB1_B0.symm, nB2_B, nB2_B.symm, nB2_B0, nB2_B0.symm, nB2_B1, nB2_B1.symm]
        repeat refine ⟨by first | assumption | omega | exact True.intro | exact rfl | exact ints_cells _ | exact List.mem_cons_self | exact bytes_cell (by omega) | exact fun _ => bytes_cell (by omega) | (simp +contextual only [go_sem]; done) | fail, ?_⟩
        exact hK _ _ (by rw [hrC, readC, if_pos (by rw [btsRight_one] at hb4; exact hb4)]) (by omega)

end Go.Ab
