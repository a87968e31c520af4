/- Ab.WStream5: what a stream reads. -/
import Derived.Test.YtgnlnkbkbddfaaaAbWStream4
import Derived.Test.YtgnlnkbkbddfaaaAbDefer
namespace Go.Ab
set_option maxHeartbeats 1000000
set_option linter.unusedSimpArgs false

theorem rstream_spec (H : Hp) (K : AV → Hp → Prop) (r : Rd) (B : Nat) (h_0 : r.left.length < 2^29) (h_1 : H B = some (.cells [.lst 0 (bytes r.left), .sc (.bool r.bad)])) (h_2 : ∀ H' : Hp, Fr [B] H H' → streamP r = none → K (.tup [.und, .und, .sc (.int .i64 2)]) H') (hK : ∀ frame l, streamP r = some (frame, l) → ∀ H' : Hp, Fr [B] H H' → K (.tup [.sc (.int .i64 frame), .lst 0 (bts l), .sc (.int .i64 0)]) H') :
    ACalls Go.Proofs.Try.prog 67 [.agg [.sc (.pointer (some ⟨B, 0, none⟩))]] H K := by
  refine ACalls_defer tab_ok (f := 67) (fc := 137) (s := 4) Go.Proofs.Try.func67 33 [.tmp 2, .tmp 3, .cell 4 26] badCh { v := .iface 195 (.agg #[]), recovered := true } rfl rfl rfl rfl Go.Proofs.Try.func137 rfl rfl rfl caught_idle caught_bad fun d => ?_
  refine AWp_region tab_ok [] ?_
  simp only [go_sem, reduceIte, Nat.reduceEqDiff, Nat.reduceLT, decide_true, reduceCtorEq, Nat.reduceAdd, Nat.reduceBEq, Nat.reduceMul, Nat.reduceLeDiff, Int.reduceToNat, h_1]
  repeat refine ⟨by first | assumption | omega | exact True.intro | exact rfl | exact bts_cells _ | exact List.mem_cons_self | exact bytes_cell (by omega) | exact fun _ => bytes_cell (by omega) | (simp +contextual only [go_sem]; done) | fail, ?_⟩
  refine fun B0 hB0 => ?_
  have nB0_B : B0 ≠ B := fun hh => by rw [hh] at hB0; revert hB0; (try simp only [hset]); (repeat' split) <;> simp_all
  repeat (first | replace hB0 := ite_none hB0 | replace hB0 := hset_none hB0)
  try simp only [go_sem, reduceIte, Nat.reduceEqDiff, Nat.reduceLT, decide_true, reduceCtorEq, Nat.reduceAdd, Nat.reduceBEq, Nat.reduceMul, Nat.reduceLeDiff, Int.reduceToNat, h_1, nB0_B, nB0_B.symm]
  repeat refine ⟨by first | assumption | omega | exact True.intro | exact rfl | exact bts_cells _ | exact List.mem_cons_self | exact bytes_cell (by omega) | exact fun _ => bytes_cell (by omega) | (simp +contextual only [go_sem]; done) | fail, ?_⟩
  refine fun B1 hB1 => ?_
  have nB1_B : B1 ≠ B := fun hh => by rw [hh] at hB1; revert hB1; (try simp only [hset]); (repeat' split) <;> simp_all
  have nB1_B0 : B1 ≠ B0 := fun hh => by rw [hh] at hB1; revert hB1; (try simp only [hset]); (repeat' split) <;> simp_all
  repeat (first | replace hB1 := ite_none hB1 | replace hB1 := hset_none hB1)
  try simp only [go_sem, reduceIte, Nat.reduceEqDiff, Nat.reduceLT, decide_true, reduceCtorEq, Nat.reduceAdd, Nat.reduceBEq, Nat.reduceMul, Nat.reduceLeDiff, Int.reduceToNat, h_1, nB0_B, nB0_B.symm, nB1_B, nB1_B.symm, nB1_B0, nB1_B0.symm]
  repeat refine ⟨by first | assumption | omega | exact True.intro | exact rfl | exact bts_cells _ | exact List.mem_cons_self | exact bytes_cell (by omega) | exact fun _ => bytes_cell (by omega) | (simp +contextual only [go_sem]; done) | fail, ?_⟩
  try refine ⟨rfl, B1, by simp only [go_sem, reduceIte, Nat.reduceEqDiff, Nat.reduceLT, decide_true, reduceCtorEq, Nat.reduceAdd, Nat.reduceBEq, Nat.reduceMul, Nat.reduceLeDiff, Int.reduceToNat, h_1, nB0_B, nB0_B.symm, nB1_B, nB1_B.symm, nB1_B0, nB1_B0.symm], ?_⟩
  refine AWp_seq fun K1 h1 => ?_
  refine AWp_seq fun K2 h2 => ?_
  refine AWp_regionP tab_ok [] ?_
  simp only [go_sem, reduceIte, Nat.reduceEqDiff, Nat.reduceLT, decide_true, reduceCtorEq, Nat.reduceAdd, Nat.reduceBEq, Nat.reduceMul, Nat.reduceLeDiff, Int.reduceToNat, h_1, nB0_B, nB0_B.symm, nB1_B, nB1_B.symm, nB1_B0, nB1_B0.symm]
  repeat refine ⟨by first | assumption | omega | exact True.intro | exact rfl | exact bts_cells _ | exact List.mem_cons_self | exact bytes_cell (by omega) | exact fun _ => bytes_cell (by omega) | (simp +contextual only [go_sem]; done) | fail, ?_⟩
  refine rget_spec _ _ _ r B 1 (by (first | assumption | omega | exact True.intro | exact bts_cells _ | (simp only [go_sem, reduceIte, Nat.reduceEqDiff, Nat.reduceLT, decide_true, reduceCtorEq, Nat.reduceAdd, Nat.reduceBEq, Nat.reduceMul, Nat.reduceLeDiff, Int.reduceToNat, h_1, nB0_B, nB0_B.symm, nB1_B, nB1_B.symm, nB1_B0, nB1_B0.symm] <;> rfl))) (by (first | assumption | omega | exact True.intro | exact bts_cells _ | (simp only [go_sem, reduceIte, Nat.reduceEqDiff, Nat.reduceLT, decide_true, reduceCtorEq, Nat.reduceAdd, Nat.reduceBEq, Nat.reduceMul, Nat.reduceLeDiff, Int.reduceToNat, h_1, nB0_B, nB0_B.symm, nB1_B, nB1_B.symm, nB1_B0, nB1_B0.symm] <;> rfl))) ?_ ?_
  rotate_left 1
  · intro hg H9 hF9
    try simp only [go_sem, reduceIte, Nat.reduceEqDiff, Nat.reduceLT, decide_true, reduceCtorEq, Nat.reduceAdd, Nat.reduceBEq, Nat.reduceMul, Nat.reduceLeDiff, Int.reduceToNat, h_1, nB0_B, nB0_B.symm, nB1_B, nB1_B.symm, nB1_B0, nB1_B0.symm]
    have hc9 := hF9 B1 (.cells [.sc (.int .i64 0)]) (by simp [nB1_B]) (by simp only [go_sem, reduceIte, Nat.reduceEqDiff, Nat.reduceLT, decide_true, reduceCtorEq, Nat.reduceAdd, Nat.reduceBEq, Nat.reduceMul, Nat.reduceLeDiff, Int.reduceToNat, h_1, nB0_B, nB0_B.symm, nB1_B, nB1_B.symm, nB1_B0, nB1_B0.symm])
    refine retD_panic 0 (by simp only [go_sem, reduceIte, Nat.reduceEqDiff, Nat.reduceLT, decide_true, reduceCtorEq, Nat.reduceAdd, Nat.reduceBEq, Nat.reduceMul, Nat.reduceLeDiff, Int.reduceToNat, h_1, nB0_B, nB0_B.symm, nB1_B, nB1_B.symm, nB1_B0, nB1_B0.symm]) (by first | assumption | (simp only [go_sem, reduceIte, Nat.reduceEqDiff, Nat.reduceLT, decide_true, reduceCtorEq, Nat.reduceAdd, Nat.reduceBEq, Nat.reduceMul, Nat.reduceLeDiff, Int.reduceToNat, h_1, nB0_B, nB0_B.symm, nB1_B, nB1_B.symm, nB1_B0, nB1_B0.symm])) _ (fun _ _ h => h) ?_
    simp only [go_sem, reduceIte, Nat.reduceEqDiff, Nat.reduceLT, decide_true, reduceCtorEq, Nat.reduceAdd, Nat.reduceBEq, Nat.reduceMul, Nat.reduceLeDiff, Int.reduceToNat, h_1, nB0_B, nB0_B.symm, nB1_B, nB1_B.symm, nB1_B0, nB1_B0.symm]
    repeat refine ⟨by first | assumption | omega | exact True.intro | exact rfl | exact bts_cells _ | exact List.mem_cons_self | exact bytes_cell (by omega) | exact fun _ => bytes_cell (by omega) | (simp +contextual only [go_sem]; done) | fail, ?_⟩
    exact h_2 _ (by refine Fr_new (by assumption) (Fr_trans ?_ hF9); repeat (first | exact Fr_refl _ _ | refine Fr_new (by assumption) ?_ | refine Fr_old (by simp only [List.map_cons, List.mem_cons, true_or, or_true]) ?_)) (by rw [streamP, hg])
  intro v r1 hg
  obtain ⟨hv1, hl1, -⟩ := getP_facts hg
  simp only [callK]
  simp only [go_sem, reduceIte, Nat.reduceEqDiff, Nat.reduceLT, decide_true, reduceCtorEq, Nat.reduceAdd, Nat.reduceBEq, Nat.reduceMul, Nat.reduceLeDiff, Int.reduceToNat, h_1, nB0_B, nB0_B.symm, nB1_B, nB1_B.symm, nB1_B0, nB1_B0.symm]
  repeat refine ⟨by first | assumption | omega | exact True.intro | exact rfl | exact bts_cells _ | exact List.mem_cons_self | exact bytes_cell (by omega) | exact fun _ => bytes_cell (by omega) | (simp +contextual only [go_sem]; done) | fail, ?_⟩
  refine h2 _ _ ?_
  clear h2
  refine AWp_if fun kk hkk => ?_
  simp only [go_sem, reduceIte, Nat.reduceEqDiff, Nat.reduceLT, decide_true, reduceCtorEq, Nat.reduceAdd, Nat.reduceBEq, Nat.reduceMul, Nat.reduceLeDiff, Int.reduceToNat, h_1, nB0_B, nB0_B.symm, nB1_B, nB1_B.symm, nB1_B0, nB1_B0.symm]
  repeat refine ⟨by first | assumption | omega | exact True.intro | exact rfl | exact bts_cells _ | exact List.mem_cons_self | exact bytes_cell (by omega) | exact fun _ => bytes_cell (by omega) | (simp +contextual only [go_sem]; done) | fail, ?_⟩
  refine hkk _ (fun hb0 => ?_) (fun hb0 => ?_) <;> clear hkk kk
  · try simp only [bne_iff_ne, ne_eq, bne_eq_false_iff_eq, beq_iff_eq, beq_eq_false_iff_ne, decide_eq_true_eq, decide_eq_false_iff_not, Bool.not_eq_true', Bool.not_eq_false', Bool.and_eq_true, Bool.and_eq_false_iff, Bool.or_eq_true, Bool.or_eq_false_iff, Int.natCast_inj, not_true_eq_false, not_false_eq_true] at hb0
    refine AWp_regionP tab_ok [] ?_
    simp only [go_sem, reduceIte, Nat.reduceEqDiff, Nat.reduceLT, decide_true, reduceCtorEq, Nat.reduceAdd, Nat.reduceBEq, Nat.reduceMul, Nat.reduceLeDiff, Int.reduceToNat, h_1, nB0_B, nB0_B.symm, nB1_B, nB1_B.symm, nB1_B0, nB1_B0.symm]
    repeat refine ⟨by first | assumption | omega | exact True.intro | exact rfl | exact bts_cells _ | exact List.mem_cons_self | exact bytes_cell (by omega) | exact fun _ => bytes_cell (by omega) | (simp +contextual only [go_sem]; done) | fail, ?_⟩
    refine retD_panic 0 (by simp only [go_sem, reduceIte, Nat.reduceEqDiff, Nat.reduceLT, decide_true, reduceCtorEq, Nat.reduceAdd, Nat.reduceBEq, Nat.reduceMul, Nat.reduceLeDiff, Int.reduceToNat, h_1, nB0_B, nB0_B.symm, nB1_B, nB1_B.symm, nB1_B0, nB1_B0.symm]) (by first | assumption | (simp only [go_sem, reduceIte, Nat.reduceEqDiff, Nat.reduceLT, decide_true, reduceCtorEq, Nat.reduceAdd, Nat.reduceBEq, Nat.reduceMul, Nat.reduceLeDiff, Int.reduceToNat, h_1, nB0_B, nB0_B.symm, nB1_B, nB1_B.symm, nB1_B0, nB1_B0.symm])) _ (fun _ _ h => h) ?_
    simp only [go_sem, reduceIte, Nat.reduceEqDiff, Nat.reduceLT, decide_true, reduceCtorEq, Nat.reduceAdd, Nat.reduceBEq, Nat.reduceMul, Nat.reduceLeDiff, Int.reduceToNat, h_1, nB0_B, nB0_B.symm, nB1_B, nB1_B.symm, nB1_B0, nB1_B0.symm]
    repeat refine ⟨by first | assumption | omega | exact True.intro | exact rfl | exact bts_cells _ | exact List.mem_cons_self | exact bytes_cell (by omega) | exact fun _ => bytes_cell (by omega) | (simp +contextual only [go_sem]; done) | fail, ?_⟩
    exact h_2 _ (by repeat (first | exact Fr_refl _ _ | refine Fr_new (by assumption) ?_ | refine Fr_old (by simp only [List.map_cons, List.mem_cons, true_or, or_true]) ?_)) (by rw [streamP, hg]; dsimp only; rw [if_pos (by simpa using hb0)])
  · simp only [bne_iff_ne, ne_eq, bne_eq_false_iff_eq, beq_iff_eq, beq_eq_false_iff_ne, decide_eq_true_eq, decide_eq_false_iff_not, Bool.not_eq_true', Bool.not_eq_false', Bool.and_eq_true, Bool.and_eq_false_iff, Bool.or_eq_true, Bool.or_eq_false_iff, Int.natCast_inj, not_true_eq_false, not_false_eq_true] at hb0
    have hsA : streamP r = streamA r1 := by rw [streamP, hg]; dsimp only; rw [if_neg (by simpa using hb0)]
    refine AWp_skip ?_
    refine h1 _ _ ?_
    refine AWp_seq fun K3 h3 => ?_
    refine AWp_regionP tab_ok [] ?_
    simp only [go_sem, reduceIte, Nat.reduceEqDiff, Nat.reduceLT, decide_true, reduceCtorEq, Nat.reduceAdd, Nat.reduceBEq, Nat.reduceMul, Nat.reduceLeDiff, Int.reduceToNat, h_1, nB0_B, nB0_B.symm, nB1_B, nB1_B.symm, nB1_B0, nB1_B0.symm]
    repeat refine ⟨by first | assumption | omega | exact True.intro | exact rfl | exact bts_cells _ | exact List.mem_cons_self | exact bytes_cell (by omega) | exact fun _ => bytes_cell (by omega) | (simp +contextual only [go_sem]; done) | fail, ?_⟩
    refine rget_spec _ _ _ r1 B 2147483647 (by (first | assumption | omega | exact True.intro | exact bts_cells _ | (simp only [go_sem, reduceIte, Nat.reduceEqDiff, Nat.reduceLT, decide_true, reduceCtorEq, Nat.reduceAdd, Nat.reduceBEq, Nat.reduceMul, Nat.reduceLeDiff, Int.reduceToNat, h_1, nB0_B, nB0_B.symm, nB1_B, nB1_B.symm, nB1_B0, nB1_B0.symm] <;> rfl))) (by (first | assumption | omega | exact True.intro | exact bts_cells _ | (simp only [go_sem, reduceIte, Nat.reduceEqDiff, Nat.reduceLT, decide_true, reduceCtorEq, Nat.reduceAdd, Nat.reduceBEq, Nat.reduceMul, Nat.reduceLeDiff, Int.reduceToNat, h_1, nB0_B, nB0_B.symm, nB1_B, nB1_B.symm, nB1_B0, nB1_B0.symm] <;> rfl))) ?_ ?_
    rotate_left 1
    · intro hg H9 hF9
      try simp only [go_sem, reduceIte, Nat.reduceEqDiff, Nat.reduceLT, decide_true, reduceCtorEq, Nat.reduceAdd, Nat.reduceBEq, Nat.reduceMul, Nat.reduceLeDiff, Int.reduceToNat, h_1, nB0_B, nB0_B.symm, nB1_B, nB1_B.symm, nB1_B0, nB1_B0.symm]
      have hc9 := hF9 B1 (.cells [.sc (.int .i64 0)]) (by simp [nB1_B]) (by simp only [go_sem, reduceIte, Nat.reduceEqDiff, Nat.reduceLT, decide_true, reduceCtorEq, Nat.reduceAdd, Nat.reduceBEq, Nat.reduceMul, Nat.reduceLeDiff, Int.reduceToNat, h_1, nB0_B, nB0_B.symm, nB1_B, nB1_B.symm, nB1_B0, nB1_B0.symm])
      refine retD_panic 0 (by simp only [go_sem, reduceIte, Nat.reduceEqDiff, Nat.reduceLT, decide_true, reduceCtorEq, Nat.reduceAdd, Nat.reduceBEq, Nat.reduceMul, Nat.reduceLeDiff, Int.reduceToNat, h_1, nB0_B, nB0_B.symm, nB1_B, nB1_B.symm, nB1_B0, nB1_B0.symm]) (by first | assumption | (simp only [go_sem, reduceIte, Nat.reduceEqDiff, Nat.reduceLT, decide_true, reduceCtorEq, Nat.reduceAdd, Nat.reduceBEq, Nat.reduceMul, Nat.reduceLeDiff, Int.reduceToNat, h_1, nB0_B, nB0_B.symm, nB1_B, nB1_B.symm, nB1_B0, nB1_B0.symm])) _ (fun _ _ h => h) ?_
      simp only [go_sem, reduceIte, Nat.reduceEqDiff, Nat.reduceLT, decide_true, reduceCtorEq, Nat.reduceAdd, Nat.reduceBEq, Nat.reduceMul, Nat.reduceLeDiff, Int.reduceToNat, h_1, nB0_B, nB0_B.symm, nB1_B, nB1_B.symm, nB1_B0, nB1_B0.symm]
      repeat refine ⟨by first | assumption | omega | exact True.intro | exact rfl | exact bts_cells _ | exact List.mem_cons_self | exact bytes_cell (by omega) | exact fun _ => bytes_cell (by omega) | (simp +contextual only [go_sem]; done) | fail, ?_⟩
      exact h_2 _ (by refine Fr_new (by assumption) (Fr_trans ?_ hF9); repeat (first | exact Fr_refl _ _ | refine Fr_new (by assumption) ?_ | refine Fr_old (by simp only [List.map_cons, List.mem_cons, true_or, or_true]) ?_)) (by rw [hsA, streamA, hg])
    intro frame r2 hg1
    obtain ⟨hv2, hl2, -⟩ := getP_facts hg1
    have hsB : streamP r = streamB frame r2 := by rw [hsA, streamA, hg1]
    simp only [callK]
    simp only [go_sem, reduceIte, Nat.reduceEqDiff, Nat.reduceLT, decide_true, reduceCtorEq, Nat.reduceAdd, Nat.reduceBEq, Nat.reduceMul, Nat.reduceLeDiff, Int.reduceToNat, h_1, nB0_B, nB0_B.symm, nB1_B, nB1_B.symm, nB1_B0, nB1_B0.symm]
    repeat refine ⟨by first | assumption | omega | exact True.intro | exact rfl | exact bts_cells _ | exact List.mem_cons_self | exact bytes_cell (by omega) | exact fun _ => bytes_cell (by omega) | (simp +contextual only [go_sem]; done) | fail, ?_⟩
    refine h3 _ _ ?_
    clear h3
    refine AWp_seq fun K4 h4 => ?_
    refine AWp_region tab_ok [] ?_
    simp only [go_sem, reduceIte, Nat.reduceEqDiff, Nat.reduceLT, decide_true, reduceCtorEq, Nat.reduceAdd, Nat.reduceBEq, Nat.reduceMul, Nat.reduceLeDiff, Int.reduceToNat, h_1, nB0_B, nB0_B.symm, nB1_B, nB1_B.symm, nB1_B0, nB1_B0.symm]
    repeat refine ⟨by first | assumption | omega | exact True.intro | exact rfl | exact bts_cells _ | exact List.mem_cons_self | exact bytes_cell (by omega) | exact fun _ => bytes_cell (by omega) | (simp +contextual only [go_sem]; done) | fail, ?_⟩
    refine fun B2 hB2 => ?_
    have nB2_B : B2 ≠ B := fun hh => by rw [hh] at hB2; revert hB2; (try simp only [hset]); (repeat' split) <;> simp_all
    have nB2_B0 : B2 ≠ B0 := fun hh => by rw [hh] at hB2; revert hB2; (try simp only [hset]); (repeat' split) <;> simp_all
    have nB2_B1 : B2 ≠ B1 := fun hh => by rw [hh] at hB2; revert hB2; (try simp only [hset]); (repeat' split) <;> simp_all
    repeat (first | replace hB2 := ite_none hB2 | replace hB2 := hset_none hB2)
    try simp only [go_sem, reduceIte, Nat.reduceEqDiff, Nat.reduceLT, decide_true, reduceCtorEq, Nat.reduceAdd, Nat.reduceBEq, Nat.reduceMul, Nat.reduceLeDiff, Int.reduceToNat, h_1, nB0_B, nB0_B.symm, nB1_B, nB1_B.symm, nB1_B0, nB1_B0.symm, nB2_B, nB2_B.symm, nB2_B0, nB2_B0.symm, nB2_B1, nB2_B1.symm]
    repeat refine ⟨by first | assumption | omega | exact True.intro | exact rfl | exact bts_cells _ | exact List.mem_cons_self | exact bytes_cell (by omega) | exact fun _ => bytes_cell (by omega) | (simp +contextual only [go_sem]; done) | fail, ?_⟩
    refine h4 _ _ ?_
    clear h4
    refine AWp_seq fun K5 h5 => ?_
    refine AWp_seq fun K6 h6 => ?_
    refine AWp_top [.sc (.int .i64 btZero.a0), .sc (.int .i64 btZero.a1), .sc (.bool btZero.clear), .sc (.int .i64 btZero.a3), .sc (.int .i64 btZero.a4), .sc (.int .i64 btZero.a5), .lst 0 (ints btZero.ids)] ⟨.inl rfl, .inl rfl, .inl rfl, .inl rfl, .inl rfl, .inl rfl, .inr (.inl ⟨_, rfl, rfl⟩), trivial⟩ ?_
    refine AWp_regionP tab_ok [] ?_
    simp only [go_sem, reduceIte, Nat.reduceEqDiff, Nat.reduceLT, decide_true, reduceCtorEq, Nat.reduceAdd, Nat.reduceBEq, Nat.reduceMul, Nat.reduceLeDiff, Int.reduceToNat, h_1, nB0_B, nB0_B.symm, nB1_B, nB1_B.symm, nB1_B0, nB1_B0.symm, nB2_B, nB2_B.symm, nB2_B0, nB2_B0.symm, nB2_B1, nB2_B1.symm]
    repeat refine ⟨by first | assumption | omega | exact True.intro | exact rfl | exact bts_cells _ | exact List.mem_cons_self | exact bytes_cell (by omega) | exact fun _ => bytes_cell (by omega) | (simp +contextual only [go_sem]; done) | fail, ?_⟩
    refine rget_spec _ _ _ r2 B 65536 (by (first | assumption | omega | exact True.intro | exact bts_cells _ | (simp only [go_sem, reduceIte, Nat.reduceEqDiff, Nat.reduceLT, decide_true, reduceCtorEq, Nat.reduceAdd, Nat.reduceBEq, Nat.reduceMul, Nat.reduceLeDiff, Int.reduceToNat, h_1, nB0_B, nB0_B.symm, nB1_B, nB1_B.symm, nB1_B0, nB1_B0.symm, nB2_B, nB2_B.symm, nB2_B0, nB2_B0.symm, nB2_B1, nB2_B1.symm] <;> rfl))) (by (first | assumption | omega | exact True.intro | exact bts_cells _ | (simp only [go_sem, reduceIte, Nat.reduceEqDiff, Nat.reduceLT, decide_true, reduceCtorEq, Nat.reduceAdd, Nat.reduceBEq, Nat.reduceMul, Nat.reduceLeDiff, Int.reduceToNat, h_1, nB0_B, nB0_B.symm, nB1_B, nB1_B.symm, nB1_B0, nB1_B0.symm, nB2_B, nB2_B.symm, nB2_B0, nB2_B0.symm, nB2_B1, nB2_B1.symm] <;> rfl))) ?_ ?_
    rotate_left 1
    · intro hg H9 hF9
      try simp only [go_sem, reduceIte, Nat.reduceEqDiff, Nat.reduceLT, decide_true, reduceCtorEq, Nat.reduceAdd, Nat.reduceBEq, Nat.reduceMul, Nat.reduceLeDiff, Int.reduceToNat, h_1, nB0_B, nB0_B.symm, nB1_B, nB1_B.symm, nB1_B0, nB1_B0.symm, nB2_B, nB2_B.symm, nB2_B0, nB2_B0.symm, nB2_B1, nB2_B1.symm]
      have hc9 := hF9 B1 (.cells [.sc (.int .i64 0)]) (by simp [nB1_B]) (by simp only [go_sem, reduceIte, Nat.reduceEqDiff, Nat.reduceLT, decide_true, reduceCtorEq, Nat.reduceAdd, Nat.reduceBEq, Nat.reduceMul, Nat.reduceLeDiff, Int.reduceToNat, h_1, nB0_B, nB0_B.symm, nB1_B, nB1_B.symm, nB1_B0, nB1_B0.symm, nB2_B, nB2_B.symm, nB2_B0, nB2_B0.symm, nB2_B1, nB2_B1.symm])
      refine retD_panic 0 (by simp only [go_sem, reduceIte, Nat.reduceEqDiff, Nat.reduceLT, decide_true, reduceCtorEq, Nat.reduceAdd, Nat.reduceBEq, Nat.reduceMul, Nat.reduceLeDiff, Int.reduceToNat, h_1, nB0_B, nB0_B.symm, nB1_B, nB1_B.symm, nB1_B0, nB1_B0.symm, nB2_B, nB2_B.symm, nB2_B0, nB2_B0.symm, nB2_B1, nB2_B1.symm]) (by first | assumption | (simp only [go_sem, reduceIte, Nat.reduceEqDiff, Nat.reduceLT, decide_true, reduceCtorEq, Nat.reduceAdd, Nat.reduceBEq, Nat.reduceMul, Nat.reduceLeDiff, Int.reduceToNat, h_1, nB0_B, nB0_B.symm, nB1_B, nB1_B.symm, nB1_B0, nB1_B0.symm, nB2_B, nB2_B.symm, nB2_B0, nB2_B0.symm, nB2_B1, nB2_B1.symm])) _ (fun _ _ h => h) ?_
      simp only [go_sem, reduceIte, Nat.reduceEqDiff, Nat.reduceLT, decide_true, reduceCtorEq, Nat.reduceAdd, Nat.reduceBEq, Nat.reduceMul, Nat.reduceLeDiff, Int.reduceToNat, h_1, nB0_B, nB0_B.symm, nB1_B, nB1_B.symm, nB1_B0, nB1_B0.symm, nB2_B, nB2_B.symm, nB2_B0, nB2_B0.symm, nB2_B1, nB2_B1.symm]
      repeat refine ⟨by first | assumption | omega | exact True.intro | exact rfl | exact bts_cells _ | exact List.mem_cons_self | exact bytes_cell (by omega) | exact fun _ => bytes_cell (by omega) | (simp +contextual only [go_sem]; done) | fail, ?_⟩
      exact h_2 _ (by refine Fr_new (by assumption) (Fr_trans ?_ hF9); repeat (first | exact Fr_refl _ _ | refine Fr_new (by assumption) ?_ | refine Fr_old (by simp only [List.map_cons, List.mem_cons, true_or, or_true]) ?_)) (by rw [hsB, streamB, hg])
    intro k r3 hg2
    obtain ⟨hv3, hl3, -⟩ := getP_facts hg2
    simp only [callK]
    simp only [go_sem, reduceIte, Nat.reduceEqDiff, Nat.reduceLT, decide_true, reduceCtorEq, Nat.reduceAdd, Nat.reduceBEq, Nat.reduceMul, Nat.reduceLeDiff, Int.reduceToNat, h_1, nB0_B, nB0_B.symm, nB1_B, nB1_B.symm, nB1_B0, nB1_B0.symm, nB2_B, nB2_B.symm, nB2_B0, nB2_B0.symm, nB2_B1, nB2_B1.symm]
    repeat refine ⟨by first | assumption | omega | exact True.intro | exact rfl | exact bts_cells _ | exact List.mem_cons_self | exact bytes_cell (by omega) | exact fun _ => bytes_cell (by omega) | (simp +contextual only [go_sem]; done) | fail, ?_⟩
    refine h6 _ _ ?_
    clear h6
    refine AWp_block ?_
    refine AWp_loop_ind (ι := (Nat) × (Rd) × (Bt) × (List Bt)) (fun (s : (Nat) × (Rd) × (Bt) × (List Bt)) => match s with | (i, r4, b, l) => [(15, .sc (.int .i64 i)), (14, .sc (.int .i64 k)), (1, .sc (.pointer (some ⟨B0, 0, none⟩))), (2, .sc (.int .i64 frame)), (3, .lst 2 (bts l)), (4, .sc (.pointer (some ⟨B1, 0, none⟩))), (5, .sc (.pointer (some ⟨B2, 0, none⟩)))]) (fun (s : (Nat) × (Rd) × (Bt) × (List Bt)) => match s with | (i, r4, b, l) => (hsets H [(B, (.cells [.lst 0 (bytes r4.left), .sc (.bool r4.bad)])), (B0, .cells [.sc (.pointer (some ⟨B, 0, none⟩))]), (B1, .cells [.sc (.int .i64 0)]), (B2, .cells [.sc (.int .i64 b.a0), .sc (.int .i64 b.a1), .sc (.bool b.clear), .sc (.int .i64 b.a3), .sc (.int .i64 b.a4), .sc (.int .i64 b.a5), .lst 0 (ints b.ids)])])) (fun (s : (Nat) × (Rd) × (Bt) × (List Bt)) => match s with | (i, r4, b, l) => (i ≤ k) ∧ (btsTo r3 i = some ((b, l), r4)) ∧ (r4.left.length ≤ r.left.length) ∧ (l.length = i)) (fun (s : (Nat) × (Rd) × (Bt) × (List Bt)) => match s with | (i, r4, b, l) => k - i) (0, r3, btZero, []) ?_ ?_ ?_ ?_
    · exact ⟨by omega, rfl, by omega, rfl⟩
    · (try dsimp only); exact (hweakL (by repeat (first | exact Fr_refl _ _ | refine Fr_new (by assumption) ?_ | refine Fr_old (by simp only [List.map_cons, List.mem_cons, true_or, or_true]) ?_)) (by simp only [go_sem, reduceIte, Nat.reduceEqDiff, Nat.reduceLT, decide_true, reduceCtorEq, Nat.reduceAdd, Nat.reduceBEq, Nat.reduceMul, Nat.reduceLeDiff, Int.reduceToNat, h_1, nB0_B, nB0_B.symm, nB1_B, nB1_B.symm, nB1_B0, nB1_B0.symm, nB2_B, nB2_B.symm, nB2_B0, nB2_B0.symm, nB2_B1, nB2_B1.symm]; first | done | exact True.intro | (repeat' apply And.intro) <;> first | rfl | exact True.intro))
    · simp only [go_sem, reduceIte, Nat.reduceEqDiff, Nat.reduceLT, decide_true, reduceCtorEq, Nat.reduceAdd, Nat.reduceBEq, Nat.reduceMul, Nat.reduceLeDiff, Int.reduceToNat, h_1, nB0_B, nB0_B.symm, nB1_B, nB1_B.symm, nB1_B0, nB1_B0.symm, nB2_B, nB2_B.symm, nB2_B0, nB2_B0.symm, nB2_B1, nB2_B1.symm]; first | done | exact True.intro | (repeat' apply And.intro) <;> first | rfl | exact True.intro
    rintro ⟨i, r4, b, l⟩ ⟨hi0_0, hi0_1, hi0_2, hi0_3⟩ L0 hL0
    dsimp only at *
    refine AWp_seq fun K7 h7 => ?_
    refine AWp_region tab_ok [] ?_
    simp only [go_sem, reduceIte, Nat.reduceEqDiff, Nat.reduceLT, decide_true, reduceCtorEq, Nat.reduceAdd, Nat.reduceBEq, Nat.reduceMul, Nat.reduceLeDiff, Int.reduceToNat, h_1, nB0_B, nB0_B.symm, nB1_B, nB1_B.symm, nB1_B0, nB1_B0.symm, nB2_B, nB2_B.symm, nB2_B0, nB2_B0.symm, nB2_B1, nB2_B1.symm]
    repeat refine ⟨by first | assumption | omega | exact True.intro | exact rfl | exact bts_cells _ | exact List.mem_cons_self | exact bytes_cell (by omega) | exact fun _ => bytes_cell (by omega) | (simp +contextual only [go_sem]; done) | fail, ?_⟩
    refine h7 _ _ ?_
    clear h7
    refine AWp_seq fun K8 h8 => ?_
    refine AWp_if fun kk hkk => ?_
    simp only [go_sem, reduceIte, Nat.reduceEqDiff, Nat.reduceLT, decide_true, reduceCtorEq, Nat.reduceAdd, Nat.reduceBEq, Nat.reduceMul, Nat.reduceLeDiff, Int.reduceToNat, h_1, nB0_B, nB0_B.symm, nB1_B, nB1_B.symm, nB1_B0, nB1_B0.symm, nB2_B, nB2_B.symm, nB2_B0, nB2_B0.symm, nB2_B1, nB2_B1.symm]
    repeat refine ⟨by first | assumption | omega | exact True.intro | exact rfl | exact bts_cells _ | exact List.mem_cons_self | exact bytes_cell (by omega) | exact fun _ => bytes_cell (by omega) | (simp +contextual only [go_sem]; done) | fail, ?_⟩
    refine hkk _ (fun hb1 => ?_) (fun hb1 => ?_) <;> clear hkk kk
    · try simp only [bne_iff_ne, ne_eq, bne_eq_false_iff_eq, beq_iff_eq, beq_eq_false_iff_ne, decide_eq_true_eq, decide_eq_false_iff_not, Bool.not_eq_true', Bool.not_eq_false', Bool.and_eq_true, Bool.and_eq_false_iff, Bool.or_eq_true, Bool.or_eq_false_iff, Int.natCast_inj, not_true_eq_false, not_false_eq_true] at hb1
      refine AWp_skip ?_
      refine h8 _ _ ?_
      refine AWp_seq fun K9 h9 => ?_
      refine AWp_block ?_
      refine AWp_seq fun K10 h10 => ?_
      refine AWp_regionP tab_ok [] ?_
      simp only [go_sem, reduceIte, Nat.reduceEqDiff, Nat.reduceLT, decide_true, reduceCtorEq, Nat.reduceAdd, Nat.reduceBEq, Nat.reduceMul, Nat.reduceLeDiff, Int.reduceToNat, h_1, nB0_B, nB0_B.symm, nB1_B, nB1_B.symm, nB1_B0, nB1_B0.symm, nB2_B, nB2_B.symm, nB2_B0, nB2_B0.symm, nB2_B1, nB2_B1.symm]
      repeat refine ⟨by first | assumption | omega | exact True.intro | exact rfl | exact bts_cells _ | exact List.mem_cons_self | exact bytes_cell (by omega) | exact fun _ => bytes_cell (by omega) | (simp +contextual only [go_sem]; done) | fail, ?_⟩
      refine rread_spec _ _ _ r4 b B (by (first | assumption | omega | exact True.intro | exact bts_cells _ | (simp only [go_sem, reduceIte, Nat.reduceEqDiff, Nat.reduceLT, decide_true, reduceCtorEq, Nat.reduceAdd, Nat.reduceBEq, Nat.reduceMul, Nat.reduceLeDiff, Int.reduceToNat, h_1, nB0_B, nB0_B.symm, nB1_B, nB1_B.symm, nB1_B0, nB1_B0.symm, nB2_B, nB2_B.symm, nB2_B0, nB2_B0.symm, nB2_B1, nB2_B1.symm] <;> rfl))) (by (first | assumption | omega | exact True.intro | exact bts_cells _ | (simp only [go_sem, reduceIte, Nat.reduceEqDiff, Nat.reduceLT, decide_true, reduceCtorEq, Nat.reduceAdd, Nat.reduceBEq, Nat.reduceMul, Nat.reduceLeDiff, Int.reduceToNat, h_1, nB0_B, nB0_B.symm, nB1_B, nB1_B.symm, nB1_B0, nB1_B0.symm, nB2_B, nB2_B.symm, nB2_B0, nB2_B0.symm, nB2_B1, nB2_B1.symm] <;> rfl))) ?_ ?_
      rotate_left 1
      · intro hg H9 hF9
        try simp only [go_sem, reduceIte, Nat.reduceEqDiff, Nat.reduceLT, decide_true, reduceCtorEq, Nat.reduceAdd, Nat.reduceBEq, Nat.reduceMul, Nat.reduceLeDiff, Int.reduceToNat, h_1, nB0_B, nB0_B.symm, nB1_B, nB1_B.symm, nB1_B0, nB1_B0.symm, nB2_B, nB2_B.symm, nB2_B0, nB2_B0.symm, nB2_B1, nB2_B1.symm]
        have hc9 := hF9 B1 (.cells [.sc (.int .i64 0)]) (by simp [nB1_B]) (by simp only [go_sem, reduceIte, Nat.reduceEqDiff, Nat.reduceLT, decide_true, reduceCtorEq, Nat.reduceAdd, Nat.reduceBEq, Nat.reduceMul, Nat.reduceLeDiff, Int.reduceToNat, h_1, nB0_B, nB0_B.symm, nB1_B, nB1_B.symm, nB1_B0, nB1_B0.symm, nB2_B, nB2_B.symm, nB2_B0, nB2_B0.symm, nB2_B1, nB2_B1.symm])
        refine retD_panic 0 (by simp only [go_sem, reduceIte, Nat.reduceEqDiff, Nat.reduceLT, decide_true, reduceCtorEq, Nat.reduceAdd, Nat.reduceBEq, Nat.reduceMul, Nat.reduceLeDiff, Int.reduceToNat, h_1, nB0_B, nB0_B.symm, nB1_B, nB1_B.symm, nB1_B0, nB1_B0.symm, nB2_B, nB2_B.symm, nB2_B0, nB2_B0.symm, nB2_B1, nB2_B1.symm]) (by first | assumption | (simp only [go_sem, reduceIte, Nat.reduceEqDiff, Nat.reduceLT, decide_true, reduceCtorEq, Nat.reduceAdd, Nat.reduceBEq, Nat.reduceMul, Nat.reduceLeDiff, Int.reduceToNat, h_1, nB0_B, nB0_B.symm, nB1_B, nB1_B.symm, nB1_B0, nB1_B0.symm, nB2_B, nB2_B.symm, nB2_B0, nB2_B0.symm, nB2_B1, nB2_B1.symm])) _ (fun _ _ h => h) ?_
        simp only [go_sem, reduceIte, Nat.reduceEqDiff, Nat.reduceLT, decide_true, reduceCtorEq, Nat.reduceAdd, Nat.reduceBEq, Nat.reduceMul, Nat.reduceLeDiff, Int.reduceToNat, h_1, nB0_B, nB0_B.symm, nB1_B, nB1_B.symm, nB1_B0, nB1_B0.symm, nB2_B, nB2_B.symm, nB2_B0, nB2_B0.symm, nB2_B1, nB2_B1.symm]
        repeat refine ⟨by first | assumption | omega | exact True.intro | exact rfl | exact bts_cells _ | exact List.mem_cons_self | exact bytes_cell (by omega) | exact fun _ => bytes_cell (by omega) | (simp +contextual only [go_sem]; done) | fail, ?_⟩
        exact h_2 _ (by refine Fr_new (by assumption) (Fr_trans ?_ hF9); repeat (first | exact Fr_refl _ _ | refine Fr_new (by assumption) ?_ | refine Fr_old (by simp only [List.map_cons, List.mem_cons, true_or, or_true]) ?_)) (by rw [hsB, streamB, hg2]; dsimp only; rw [btsTo_none (i := i + 1) (by omega) (by rw [btsTo_succ, hi0_1, btStep, hg])])
      intro b' r5 hg3 hl5
      have hcells' : AVcells b' = [.sc (.int .i64 b'.a0), .sc (.int .i64 b'.a1), .sc (.bool b'.clear), .sc (.int .i64 b'.a3), .sc (.int .i64 b'.a4), .sc (.int .i64 b'.a5), .lst 0 (ints b'.ids)] := rfl
      simp only [hcells']
      simp only [callK]
      simp only [go_sem, reduceIte, Nat.reduceEqDiff, Nat.reduceLT, decide_true, reduceCtorEq, Nat.reduceAdd, Nat.reduceBEq, Nat.reduceMul, Nat.reduceLeDiff, Int.reduceToNat, h_1, nB0_B, nB0_B.symm, nB1_B, nB1_B.symm, nB1_B0, nB1_B0.symm, nB2_B, nB2_B.symm, nB2_B0, nB2_B0.symm, nB2_B1, nB2_B1.symm]
      repeat refine ⟨by first | assumption | omega | exact True.intro | exact rfl | exact bts_cells _ | exact List.mem_cons_self | exact bytes_cell (by omega) | exact fun _ => bytes_cell (by omega) | (simp +contextual only [go_sem]; done) | fail, ?_⟩
      refine h10 _ _ ?_
      clear h10
      refine AWp_region tab_ok [0] ?_
      simp only [go_sem, reduceIte, Nat.reduceEqDiff, Nat.reduceLT, decide_true, reduceCtorEq, Nat.reduceAdd, Nat.reduceBEq, Nat.reduceMul, Nat.reduceLeDiff, Int.reduceToNat, h_1, nB0_B, nB0_B.symm, nB1_B, nB1_B.symm, nB1_B0, nB1_B0.symm, nB2_B, nB2_B.symm, nB2_B0, nB2_B0.symm, nB2_B1, nB2_B1.symm, bts_append1]
      repeat refine ⟨by first | assumption | omega | exact True.intro | exact rfl | exact bts_cells _ | exact List.mem_cons_self | exact bytes_cell (by omega) | exact fun _ => bytes_cell (by omega) | (simp +contextual only [go_sem]; done) | fail, ?_⟩
      refine h9 _ _ ?_
      refine AWp_region tab_ok [] ?_
      simp only [go_sem, reduceIte, Nat.reduceEqDiff, Nat.reduceLT, decide_true, reduceCtorEq, Nat.reduceAdd, Nat.reduceBEq, Nat.reduceMul, Nat.reduceLeDiff, Int.reduceToNat, h_1, nB0_B, nB0_B.symm, nB1_B, nB1_B.symm, nB1_B0, nB1_B0.symm, nB2_B, nB2_B.symm, nB2_B0, nB2_B0.symm, nB2_B1, nB2_B1.symm]
      try simp (disch := omega) only [wrap64]
      repeat refine ⟨by first | assumption | omega | exact True.intro | exact rfl | exact bts_cells _ | exact List.mem_cons_self | exact bytes_cell (by omega) | exact fun _ => bytes_cell (by omega) | (simp +contextual only [go_sem]; done) | fail, ?_⟩
      refine hL0 ((i + 1), r5, b', (l ++ [b'])) _ _ ?_ ?_ (by (try dsimp only); exact hweakL (by repeat (first | exact Fr_refl _ _ | refine Fr_new (by assumption) ?_ | refine Fr_old (by simp only [List.map_cons, List.mem_cons, true_or, or_true]) ?_)) (by simp only [go_sem, reduceIte, Nat.reduceEqDiff, Nat.reduceLT, decide_true, reduceCtorEq, Nat.reduceAdd, Nat.reduceBEq, Nat.reduceMul, Nat.reduceLeDiff, Int.reduceToNat, h_1, nB0_B, nB0_B.symm, nB1_B, nB1_B.symm, nB1_B0, nB1_B0.symm, nB2_B, nB2_B.symm, nB2_B0, nB2_B0.symm, nB2_B1, nB2_B1.symm]; first | done | exact True.intro | (repeat' apply And.intro) <;> first | rfl | exact True.intro)) ?_
      · dsimp only; exact ⟨by omega, by rw [btsTo_succ, hi0_1, btStep, hg3], by omega, by simp; omega⟩
      · dsimp only; omega
      · simp only [go_sem, reduceIte, Nat.reduceEqDiff, Nat.reduceLT, decide_true, reduceCtorEq, Nat.reduceAdd, Nat.reduceBEq, Nat.reduceMul, Nat.reduceLeDiff, Int.reduceToNat, h_1, nB0_B, nB0_B.symm, nB1_B, nB1_B.symm, nB1_B0, nB1_B0.symm, nB2_B, nB2_B.symm, nB2_B0, nB2_B0.symm, nB2_B1, nB2_B1.symm]; first | done | exact True.intro | (repeat' apply And.intro) <;> first | rfl | exact True.intro
    · simp only [bne_iff_ne, ne_eq, bne_eq_false_iff_eq, beq_iff_eq, beq_eq_false_iff_ne, decide_eq_true_eq, decide_eq_false_iff_not, Bool.not_eq_true', Bool.not_eq_false', Bool.and_eq_true, Bool.and_eq_false_iff, Bool.or_eq_true, Bool.or_eq_false_iff, Int.natCast_inj, not_true_eq_false, not_false_eq_true] at hb1
      obtain rfl : i = k := by omega
      refine AWp_exit ?_
      refine h5 _ _ ?_
      refine AWp_seq fun K11 h11 => ?_
      refine AWp_seq fun K12 h12 => ?_
      refine AWp_region tab_ok [] ?_
      simp only [go_sem, reduceIte, Nat.reduceEqDiff, Nat.reduceLT, decide_true, reduceCtorEq, Nat.reduceAdd, Nat.reduceBEq, Nat.reduceMul, Nat.reduceLeDiff, Int.reduceToNat, h_1, nB0_B, nB0_B.symm, nB1_B, nB1_B.symm, nB1_B0, nB1_B0.symm, nB2_B, nB2_B.symm, nB2_B0, nB2_B0.symm, nB2_B1, nB2_B1.symm]
      repeat refine ⟨by first | assumption | omega | exact True.intro | exact rfl | exact bts_cells _ | exact List.mem_cons_self | exact bytes_cell (by omega) | exact fun _ => bytes_cell (by omega) | (simp +contextual only [go_sem]; done) | fail, ?_⟩
      refine left_spec _ _ _ _ _ (by (first | assumption | omega | exact True.intro | exact bts_cells _ | (simp only [go_sem, reduceIte, Nat.reduceEqDiff, Nat.reduceLT, decide_true, reduceCtorEq, Nat.reduceAdd, Nat.reduceBEq, Nat.reduceMul, Nat.reduceLeDiff, Int.reduceToNat, h_1, nB0_B, nB0_B.symm, nB1_B, nB1_B.symm, nB1_B0, nB1_B0.symm, nB2_B, nB2_B.symm, nB2_B0, nB2_B0.symm, nB2_B1, nB2_B1.symm] <;> rfl))) ?_
      simp only [callK]
      simp only [go_sem, reduceIte, Nat.reduceEqDiff, Nat.reduceLT, decide_true, reduceCtorEq, Nat.reduceAdd, Nat.reduceBEq, Nat.reduceMul, Nat.reduceLeDiff, Int.reduceToNat, h_1, nB0_B, nB0_B.symm, nB1_B, nB1_B.symm, nB1_B0, nB1_B0.symm, nB2_B, nB2_B.symm, nB2_B0, nB2_B0.symm, nB2_B1, nB2_B1.symm]
      repeat refine ⟨by first | assumption | omega | exact True.intro | exact rfl | exact bts_cells _ | exact List.mem_cons_self | exact bytes_cell (by omega) | exact fun _ => bytes_cell (by omega) | (simp +contextual only [go_sem]; done) | fail, ?_⟩
      refine h12 _ _ ?_
      clear h12
      refine AWp_if fun kk hkk => ?_
      simp only [go_sem, reduceIte, Nat.reduceEqDiff, Nat.reduceLT, decide_true, reduceCtorEq, Nat.reduceAdd, Nat.reduceBEq, Nat.reduceMul, Nat.reduceLeDiff, Int.reduceToNat, h_1, nB0_B, nB0_B.symm, nB1_B, nB1_B.symm, nB1_B0, nB1_B0.symm, nB2_B, nB2_B.symm, nB2_B0, nB2_B0.symm, nB2_B1, nB2_B1.symm]
      repeat refine ⟨by first | assumption | omega | exact True.intro | exact rfl | exact bts_cells _ | exact List.mem_cons_self | exact bytes_cell (by omega) | exact fun _ => bytes_cell (by omega) | (simp +contextual only [go_sem]; done) | fail, ?_⟩
      refine hkk _ (fun hb2 => ?_) (fun hb2 => ?_) <;> clear hkk kk
      · try simp only [bne_iff_ne, ne_eq, bne_eq_false_iff_eq, beq_iff_eq, beq_eq_false_iff_ne, decide_eq_true_eq, decide_eq_false_iff_not, Bool.not_eq_true', Bool.not_eq_false', Bool.and_eq_true, Bool.and_eq_false_iff, Bool.or_eq_true, Bool.or_eq_false_iff, Int.natCast_inj, not_true_eq_false, not_false_eq_true] at hb2
        refine AWp_regionP tab_ok [] ?_
        simp only [go_sem, reduceIte, Nat.reduceEqDiff, Nat.reduceLT, decide_true, reduceCtorEq, Nat.reduceAdd, Nat.reduceBEq, Nat.reduceMul, Nat.reduceLeDiff, Int.reduceToNat, h_1, nB0_B, nB0_B.symm, nB1_B, nB1_B.symm, nB1_B0, nB1_B0.symm, nB2_B, nB2_B.symm, nB2_B0, nB2_B0.symm, nB2_B1, nB2_B1.symm]
        repeat refine ⟨by first | assumption | omega | exact True.intro | exact rfl | exact bts_cells _ | exact List.mem_cons_self | exact bytes_cell (by omega) | exact fun _ => bytes_cell (by omega) | (simp +contextual only [go_sem]; done) | fail, ?_⟩
        refine retD_panic 0 (by simp only [go_sem, reduceIte, Nat.reduceEqDiff, Nat.reduceLT, decide_true, reduceCtorEq, Nat.reduceAdd, Nat.reduceBEq, Nat.reduceMul, Nat.reduceLeDiff, Int.reduceToNat, h_1, nB0_B, nB0_B.symm, nB1_B, nB1_B.symm, nB1_B0, nB1_B0.symm, nB2_B, nB2_B.symm, nB2_B0, nB2_B0.symm, nB2_B1, nB2_B1.symm]) (by first | assumption | (simp only [go_sem, reduceIte, Nat.reduceEqDiff, Nat.reduceLT, decide_true, reduceCtorEq, Nat.reduceAdd, Nat.reduceBEq, Nat.reduceMul, Nat.reduceLeDiff, Int.reduceToNat, h_1, nB0_B, nB0_B.symm, nB1_B, nB1_B.symm, nB1_B0, nB1_B0.symm, nB2_B, nB2_B.symm, nB2_B0, nB2_B0.symm, nB2_B1, nB2_B1.symm])) _ (fun _ _ h => h) ?_
        simp only [go_sem, reduceIte, Nat.reduceEqDiff, Nat.reduceLT, decide_true, reduceCtorEq, Nat.reduceAdd, Nat.reduceBEq, Nat.reduceMul, Nat.reduceLeDiff, Int.reduceToNat, h_1, nB0_B, nB0_B.symm, nB1_B, nB1_B.symm, nB1_B0, nB1_B0.symm, nB2_B, nB2_B.symm, nB2_B0, nB2_B0.symm, nB2_B1, nB2_B1.symm]
        repeat refine ⟨by first | assumption | omega | exact True.intro | exact rfl | exact bts_cells _ | exact List.mem_cons_self | exact bytes_cell (by omega) | exact fun _ => bytes_cell (by omega) | (simp +contextual only [go_sem]; done) | fail, ?_⟩
        exact h_2 _ (by repeat (first | exact Fr_refl _ _ | refine Fr_new (by assumption) ?_ | refine Fr_old (by simp only [List.map_cons, List.mem_cons, true_or, or_true]) ?_)) (by rw [hsB, streamB, hg2]; dsimp only; rw [hi0_1]; dsimp only; rw [streamC, if_pos (by omega)])
      · try simp only [bne_iff_ne, ne_eq, bne_eq_false_iff_eq, beq_iff_eq, beq_eq_false_iff_ne, decide_eq_true_eq, decide_eq_false_iff_not, Bool.not_eq_true', Bool.not_eq_false', Bool.and_eq_true, Bool.and_eq_false_iff, Bool.or_eq_true, Bool.or_eq_false_iff, Int.natCast_inj, not_true_eq_false, not_false_eq_true] at hb2
        refine AWp_skip ?_
        refine h11 _ _ ?_
        refine AWp_seq fun K13 h13 => ?_
        refine AWp_region tab_ok [0, 1] ?_
        simp only [go_sem, reduceIte, Nat.reduceEqDiff, Nat.reduceLT, decide_true, reduceCtorEq, Nat.reduceAdd, Nat.reduceBEq, Nat.reduceMul, Nat.reduceLeDiff, Int.reduceToNat, h_1, nB0_B, nB0_B.symm, nB1_B, nB1_B.symm, nB1_B0, nB1_B0.symm, nB2_B, nB2_B.symm, nB2_B0, nB2_B0.symm, nB2_B1, nB2_B1.symm]
        repeat refine ⟨by first | assumption | omega | exact True.intro | exact rfl | exact bts_cells _ | exact List.mem_cons_self | exact bytes_cell (by omega) | exact fun _ => bytes_cell (by omega) | (simp +contextual only [go_sem]; done) | fail, ?_⟩
        refine h13 _ _ ?_
        clear h13
        refine AWp_fzE (l := [.tmp 2, .tmp 3]) ?_
        refine AWp_ret ?_
        refine retD_ret _ (fun _ _ h => h) (.inr rfl) ?_
        simp only [go_sem, reduceIte, Nat.reduceEqDiff, Nat.reduceLT, decide_true, reduceCtorEq, Nat.reduceAdd, Nat.reduceBEq, Nat.reduceMul, Nat.reduceLeDiff, Int.reduceToNat, h_1, nB0_B, nB0_B.symm, nB1_B, nB1_B.symm, nB1_B0, nB1_B0.symm, nB2_B, nB2_B.symm, nB2_B0, nB2_B0.symm, nB2_B1, nB2_B1.symm]
        repeat refine ⟨by first | assumption | omega | exact True.intro | exact rfl | exact bts_cells _ | exact List.mem_cons_self | exact bytes_cell (by omega) | exact fun _ => bytes_cell (by omega) | (simp +contextual only [go_sem]; done) | fail, ?_⟩
        exact hK _ _ (by rw [hsB, streamB, hg2]; dsimp only; rw [hi0_1]; dsimp only; rw [streamC, if_neg (by omega)]) _ (by repeat (first | exact Fr_refl _ _ | refine Fr_new (by assumption) ?_ | refine Fr_old (by simp only [List.map_cons, List.mem_cons, true_or, or_true]) ?_))

end Go.Ab
