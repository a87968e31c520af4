/- Ab.WWriter: what the functions of octets compute, that write. -/
import Derived.Test.YtgnlnkbkbddfaaaAbWSum
import Derived.Test.YtgnlnkbkbddfaaaAbOctets
import Derived.Test.YtgnlnkbkbddfaaaAbLists
namespace Go.Ab
set_option maxHeartbeats 1000000
set_option linter.unusedSimpArgs false

theorem put_spec (H : Hp) (K : AV → Hp → Prop) (B : Nat) (w : List (BitVec 8) × Bool) (l : List Int) (h_0 : H B = some (.cells [.lst 1 (bytes w.1), .sc (.bool w.2)])) (h_1 : w.1.length + 6 * l.length < 2^28) (hK : K (.sc (.pointer (some ⟨B, 0, none⟩))) (hset H B (.cells [.lst 1 (bytes (putL w l).1), .sc (.bool (putL w l).2)]))) :
    ACalls Go.Proofs.Try.prog 147 [.sc (.pointer (some ⟨B, 0, none⟩)), .lst 0 (ints l)] H K := by
  refine ACalls_fn tab_ok Go.Proofs.Try.func147 53 [.tmp 4] rfl rfl rfl rfl fun d => ?_
  refine AWp_seq fun K1 h1 => ?_
  refine AWp_region tab_ok [] ?_
  simp only [go_sem, reduceIte, Nat.reduceEqDiff, Nat.reduceLT, decide_true, reduceCtorEq, Nat.reduceAdd, Nat.reduceBEq, Nat.reduceMul, Nat.reduceLeDiff, Int.reduceToNat, h_0]
  repeat refine ⟨by first | assumption | omega | exact True.intro | exact rfl | exact bytes_cells _ | exact Or.inl rfl | (simp only [List.length_append]; omega) | exact List.mem_cons_self | exact bytes_cell (by omega) | exact fun _ => bytes_cell (by omega) | (simp +contextual only [go_sem]; done) | fail, ?_⟩
  refine h1 _ _ ?_
  clear h1
  refine AWp_seq fun K2 h2 => ?_
  refine AWp_seq fun K3 h3 => ?_
  refine AWp_region tab_ok [] ?_
  simp only [go_sem, reduceIte, Nat.reduceEqDiff, Nat.reduceLT, decide_true, reduceCtorEq, Nat.reduceAdd, Nat.reduceBEq, Nat.reduceMul, Nat.reduceLeDiff, Int.reduceToNat, h_0]
  repeat refine ⟨by first | assumption | omega | exact True.intro | exact rfl | exact bytes_cells _ | exact Or.inl rfl | (simp only [List.length_append]; omega) | exact List.mem_cons_self | exact bytes_cell (by omega) | exact fun _ => bytes_cell (by omega) | (simp +contextual only [go_sem]; done) | fail, ?_⟩
  refine h3 _ _ ?_
  clear h3
  refine AWp_if fun kk hkk => ?_
  simp only [go_sem, reduceIte, Nat.reduceEqDiff, Nat.reduceLT, decide_true, reduceCtorEq, Nat.reduceAdd, Nat.reduceBEq, Nat.reduceMul, Nat.reduceLeDiff, Int.reduceToNat, h_0]
  repeat refine ⟨by first | assumption | omega | exact True.intro | exact rfl | exact bytes_cells _ | exact Or.inl rfl | (simp only [List.length_append]; omega) | exact List.mem_cons_self | exact bytes_cell (by omega) | exact fun _ => bytes_cell (by omega) | (simp +contextual only [go_sem]; done) | fail, ?_⟩
  refine hkk _ (fun hb => by first | (cases hb; done) | (exfalso; simp only [bne_iff_ne, ne_eq, bne_eq_false_iff_eq, beq_iff_eq, beq_eq_false_iff_ne, decide_eq_true_eq, decide_eq_false_iff_not, Bool.not_eq_true', Bool.not_eq_false', Bool.and_eq_true, Bool.and_eq_false_iff, Bool.or_eq_true, Bool.or_eq_false_iff, Int.natCast_inj, not_true_eq_false, not_false_eq_true] at hb; omega)) (fun _ => ?_)
  refine AWp_skip ?_
  refine h2 _ _ ?_
  refine AWp_seq fun K4 h4 => ?_
  refine AWp_seq fun K5 h5 => ?_
  refine AWp_region tab_ok [] ?_
  simp only [go_sem, reduceIte, Nat.reduceEqDiff, Nat.reduceLT, decide_true, reduceCtorEq, Nat.reduceAdd, Nat.reduceBEq, Nat.reduceMul, Nat.reduceLeDiff, Int.reduceToNat, h_0]
  repeat refine ⟨by first | assumption | omega | exact True.intro | exact rfl | exact bytes_cells _ | exact Or.inl rfl | (simp only [List.length_append]; omega) | exact List.mem_cons_self | exact bytes_cell (by omega) | exact fun _ => bytes_cell (by omega) | (simp +contextual only [go_sem]; done) | fail, ?_⟩
  refine h5 _ _ ?_
  clear h5
  refine AWp_block ?_
  refine AWp_loop_ind (ι := (Nat)) (fun (i : Nat) => [(11, .sc (.int .i64 i)), (10, .sc (.int .i64 l.length)), (9, .lst 0 (ints l)), (0, .sc (.pointer (some ⟨B, 0, none⟩)))]) (fun (i : Nat) => hset H B (.cells [.lst 1 (bytes (putL w (l.take i)).1), .sc (.bool (putL w (l.take i)).2)])) (fun (i : Nat) => (i ≤ l.length)) (fun (i : Nat) => l.length - i) 0 ?_ ?_ ?_ ?_
  · first | omega | exact True.intro | simp
  · rw [List.take_zero, show putL w [] = w from rfl, hset_same h_0]; exact fun _ _ h => h
  · simp only [go_sem, reduceIte, Nat.reduceEqDiff, Nat.reduceLT, decide_true, reduceCtorEq, Nat.reduceAdd, Nat.reduceBEq, Nat.reduceMul, Nat.reduceLeDiff, Int.reduceToNat, h_0]; first | done | exact True.intro | (repeat' apply And.intro) <;> first | rfl | exact True.intro
  rintro i hi0_0 L0 hL0
  skip
  have hlen := putL_length (l.take i) w
  rw [List.length_take, Nat.min_eq_left hi0_0] at hlen
  refine AWp_seq fun K6 h6 => ?_
  refine AWp_region tab_ok [] ?_
  simp only [go_sem, reduceIte, Nat.reduceEqDiff, Nat.reduceLT, decide_true, reduceCtorEq, Nat.reduceAdd, Nat.reduceBEq, Nat.reduceMul, Nat.reduceLeDiff, Int.reduceToNat, h_0]
  repeat refine ⟨by first | assumption | omega | exact True.intro | exact rfl | exact bytes_cells _ | exact Or.inl rfl | (simp only [List.length_append]; omega) | exact List.mem_cons_self | exact bytes_cell (by omega) | exact fun _ => bytes_cell (by omega) | (simp +contextual only [go_sem]; done) | fail, ?_⟩
  refine h6 _ _ ?_
  clear h6
  refine AWp_seq fun K7 h7 => ?_
  refine AWp_if fun kk hkk => ?_
  simp only [go_sem, reduceIte, Nat.reduceEqDiff, Nat.reduceLT, decide_true, reduceCtorEq, Nat.reduceAdd, Nat.reduceBEq, Nat.reduceMul, Nat.reduceLeDiff, Int.reduceToNat, h_0]
  repeat refine ⟨by first | assumption | omega | exact True.intro | exact rfl | exact bytes_cells _ | exact Or.inl rfl | (simp only [List.length_append]; omega) | exact List.mem_cons_self | exact bytes_cell (by omega) | exact fun _ => bytes_cell (by omega) | (simp +contextual only [go_sem]; done) | fail, ?_⟩
  refine hkk _ (fun hb1 => ?_) (fun hb1 => ?_) <;> clear hkk kk
  · try simp only [bne_iff_ne, ne_eq, bne_eq_false_iff_eq, beq_iff_eq, beq_eq_false_iff_ne, decide_eq_true_eq, decide_eq_false_iff_not, Bool.not_eq_true', Bool.not_eq_false', Bool.and_eq_true, Bool.and_eq_false_iff, Bool.or_eq_true, Bool.or_eq_false_iff, Int.natCast_inj, not_true_eq_false, not_false_eq_true] at hb1
    refine AWp_skip ?_
    refine h7 _ _ ?_
    refine AWp_seq fun K8 h8 => ?_
    refine AWp_block ?_
    refine AWp_seq fun K9 h9 => ?_
    refine AWp_region tab_ok [] ?_
    simp only [go_sem, reduceIte, Nat.reduceEqDiff, Nat.reduceLT, decide_true, reduceCtorEq, Nat.reduceAdd, Nat.reduceBEq, Nat.reduceMul, Nat.reduceLeDiff, Int.reduceToNat, h_0]
    try simp (disch := omega) only [ints_get]
    try simp only [go_sem, reduceIte, Nat.reduceEqDiff, Nat.reduceLT, decide_true, reduceCtorEq, Nat.reduceAdd, Nat.reduceBEq, Nat.reduceMul, Nat.reduceLeDiff, Int.reduceToNat, h_0]
    repeat refine ⟨by first | assumption | omega | exact True.intro | exact rfl | exact bytes_cells _ | exact Or.inl rfl | (simp only [List.length_append]; omega) | exact List.mem_cons_self | exact bytes_cell (by omega) | exact fun _ => bytes_cell (by omega) | (simp +contextual only [go_sem]; done) | fail, ?_⟩
    refine h9 _ _ ?_
    clear h9
    refine AWp_seq fun K10 h10 => ?_
    refine AWp_seq fun K11 h11 => ?_
    refine AWp_region tab_ok [] ?_
    simp only [go_sem, reduceIte, Nat.reduceEqDiff, Nat.reduceLT, decide_true, reduceCtorEq, Nat.reduceAdd, Nat.reduceBEq, Nat.reduceMul, Nat.reduceLeDiff, Int.reduceToNat, h_0]
    repeat refine ⟨by first | assumption | omega | exact True.intro | exact rfl | exact bytes_cells _ | exact Or.inl rfl | (simp only [List.length_append]; omega) | exact List.mem_cons_self | exact bytes_cell (by omega) | exact fun _ => bytes_cell (by omega) | (simp +contextual only [go_sem]; done) | fail, ?_⟩
    refine h11 _ _ ?_
    clear h11
    refine AWp_if fun kk hkk => ?_
    simp only [go_sem, reduceIte, Nat.reduceEqDiff, Nat.reduceLT, decide_true, reduceCtorEq, Nat.reduceAdd, Nat.reduceBEq, Nat.reduceMul, Nat.reduceLeDiff, Int.reduceToNat, h_0]
    repeat refine ⟨by first | assumption | omega | exact True.intro | exact rfl | exact bytes_cells _ | exact Or.inl rfl | (simp only [List.length_append]; omega) | exact List.mem_cons_self | exact bytes_cell (by omega) | exact fun _ => bytes_cell (by omega) | (simp +contextual only [go_sem]; done) | fail, ?_⟩
    refine hkk _ (fun hb2 => ?_) (fun hb2 => ?_) <;> clear hkk kk
    · try simp only [bne_iff_ne, ne_eq, bne_eq_false_iff_eq, beq_iff_eq, beq_eq_false_iff_ne, decide_eq_true_eq, decide_eq_false_iff_not, Bool.not_eq_true', Bool.not_eq_false', Bool.and_eq_true, Bool.and_eq_false_iff, Bool.or_eq_true, Bool.or_eq_false_iff, Int.natCast_inj, not_true_eq_false, not_false_eq_true] at hb2
      refine AWp_seq fun K12 h12 => ?_
      refine AWp_region tab_ok [] ?_
      simp only [go_sem, reduceIte, Nat.reduceEqDiff, Nat.reduceLT, decide_true, reduceCtorEq, Nat.reduceAdd, Nat.reduceBEq, Nat.reduceMul, Nat.reduceLeDiff, Int.reduceToNat, h_0]
      repeat refine ⟨by first | assumption | omega | exact True.intro | exact rfl | exact bytes_cells _ | exact Or.inl rfl | (simp only [List.length_append]; omega) | exact List.mem_cons_self | exact bytes_cell (by omega) | exact fun _ => bytes_cell (by omega) | (simp +contextual only [go_sem]; done) | fail, ?_⟩
      refine h12 _ _ ?_
      clear h12
      refine AWp_exit ?_
      refine h8 _ _ ?_
      refine AWp_region tab_ok [] ?_
      simp only [go_sem, reduceIte, Nat.reduceEqDiff, Nat.reduceLT, decide_true, reduceCtorEq, Nat.reduceAdd, Nat.reduceBEq, Nat.reduceMul, Nat.reduceLeDiff, Int.reduceToNat, h_0]
      try simp (disch := omega) only [wrap64]
      repeat refine ⟨by first | assumption | omega | exact True.intro | exact rfl | exact bytes_cells _ | exact Or.inl rfl | (simp only [List.length_append]; omega) | exact List.mem_cons_self | exact bytes_cell (by omega) | exact fun _ => bytes_cell (by omega) | (simp +contextual only [go_sem]; done) | fail, ?_⟩
      refine hL0 (i + 1) _ _ ?_ ?_ (by rw [putL_take_succ _ _ (by omega), putOne, if_pos hb2]; exact fun _ _ h => h) ?_
      · first | omega | exact True.intro | (refine ⟨?_, ?_⟩ <;> first | omega | simp)
      · omega
      · simp only [go_sem, reduceIte, Nat.reduceEqDiff, Nat.reduceLT, decide_true, reduceCtorEq, Nat.reduceAdd, Nat.reduceBEq, Nat.reduceMul, Nat.reduceLeDiff, Int.reduceToNat, h_0]; first | done | exact True.intro | (repeat' apply And.intro) <;> first | rfl | exact True.intro
    · try simp only [bne_iff_ne, ne_eq, bne_eq_false_iff_eq, beq_iff_eq, beq_eq_false_iff_ne, decide_eq_true_eq, decide_eq_false_iff_not, Bool.not_eq_true', Bool.not_eq_false', Bool.and_eq_true, Bool.and_eq_false_iff, Bool.or_eq_true, Bool.or_eq_false_iff, Int.natCast_inj, not_true_eq_false, not_false_eq_true] at hb2
      refine AWp_skip ?_
      refine h10 _ _ ?_
      refine AWp_seq fun K13 h13 => ?_
      refine AWp_block ?_
      refine AWp_loop_ind (ι := (Nat) × (Nat) × (List (BitVec 8))) (fun (s : (Nat) × (Nat) × (List (BitVec 8))) => match s with | (n, f, a) => [(6, .sc (.int .i64 n)), (11, .sc (.int .i64 i)), (10, .sc (.int .i64 l.length)), (9, .lst 0 (ints l)), (0, .sc (.pointer (some ⟨B, 0, none⟩)))]) (fun (s : (Nat) × (Nat) × (List (BitVec 8))) => match s with | (n, f, a) => hset H B (.cells [.lst 1 (bytes ((putL w (l.take i)).1 ++ a)), .sc (.bool (putL w (l.take i)).2)])) (fun (s : (Nat) × (Nat) × (List (BitVec 8))) => match s with | (n, f, a) => (n < 128 ^ (f + 1)) ∧ (a ++ encF (f + 1) n = encF 6 (l[i]'(by omega)).toNat) ∧ (a.length + f = 5) ∧ (n ≤ 1099511627776)) (fun (s : (Nat) × (Nat) × (List (BitVec 8))) => match s with | (n, f, a) => f) ((l[i]'(by omega)).toNat, 5, []) ?_ ?_ ?_ ?_
      · refine ⟨?_, rfl, rfl, by omega⟩; show (l[i]'(by omega)).toNat < 4398046511104; omega
      · dsimp only; rw [List.append_nil]; exact fun _ _ h => h
      · simp only [go_sem, reduceIte, Nat.reduceEqDiff, Nat.reduceLT, decide_true, reduceCtorEq, Nat.reduceAdd, Nat.reduceBEq, Nat.reduceMul, Nat.reduceLeDiff, Int.reduceToNat, h_0]; rw [Int.toNat_of_nonneg (by omega)]; first | done | exact True.intro | (repeat' apply And.intro) <;> first | rfl | exact True.intro
      rintro ⟨n, f, a⟩ ⟨hi1_0, hi1_1, hi1_2, hi1_3⟩ L1 hL1
      dsimp only at *
      refine AWp_seq fun K14 h14 => ?_
      refine AWp_seq fun K15 h15 => ?_
      refine AWp_region tab_ok [] ?_
      simp only [go_sem, reduceIte, Nat.reduceEqDiff, Nat.reduceLT, decide_true, reduceCtorEq, Nat.reduceAdd, Nat.reduceBEq, Nat.reduceMul, Nat.reduceLeDiff, Int.reduceToNat, h_0]
      repeat refine ⟨by first | assumption | omega | exact True.intro | exact rfl | exact bytes_cells _ | exact Or.inl rfl | (simp only [List.length_append]; omega) | exact List.mem_cons_self | exact bytes_cell (by omega) | exact fun _ => bytes_cell (by omega) | (simp +contextual only [go_sem]; done) | fail, ?_⟩
      refine h15 _ _ ?_
      clear h15
      refine AWp_if fun kk hkk => ?_
      simp only [go_sem, reduceIte, Nat.reduceEqDiff, Nat.reduceLT, decide_true, reduceCtorEq, Nat.reduceAdd, Nat.reduceBEq, Nat.reduceMul, Nat.reduceLeDiff, Int.reduceToNat, h_0]
      repeat refine ⟨by first | assumption | omega | exact True.intro | exact rfl | exact bytes_cells _ | exact Or.inl rfl | (simp only [List.length_append]; omega) | exact List.mem_cons_self | exact bytes_cell (by omega) | exact fun _ => bytes_cell (by omega) | (simp +contextual only [go_sem]; done) | fail, ?_⟩
      refine hkk _ (fun hb3 => ?_) (fun hb3 => ?_) <;> clear hkk kk
      · try simp only [bne_iff_ne, ne_eq, bne_eq_false_iff_eq, beq_iff_eq, beq_eq_false_iff_ne, decide_eq_true_eq, decide_eq_false_iff_not, Bool.not_eq_true', Bool.not_eq_false', Bool.and_eq_true, Bool.and_eq_false_iff, Bool.or_eq_true, Bool.or_eq_false_iff, Int.natCast_inj, not_true_eq_false, not_false_eq_true] at hb3
        refine AWp_skip ?_
        refine h14 _ _ ?_
        refine AWp_seq fun K16 h16 => ?_
        refine AWp_block ?_
        refine AWp_region tab_ok [4] ?_
        simp only [go_sem, reduceIte, Nat.reduceEqDiff, Nat.reduceLT, decide_true, reduceCtorEq, Nat.reduceAdd, Nat.reduceBEq, Nat.reduceMul, Nat.reduceLeDiff, Int.reduceToNat, h_0]
        rw [or64l n 128 (by omega) (by omega)]
        simp only [go_sem, reduceIte, Nat.reduceEqDiff, Nat.reduceLT, decide_true, reduceCtorEq, Nat.reduceAdd, Nat.reduceBEq, Nat.reduceMul, Nat.reduceLeDiff, Int.reduceToNat, h_0]
        simp only [w8_nat, bytes_append1]
        repeat refine ⟨by first | assumption | omega | exact True.intro | exact rfl | exact bytes_cells _ | exact Or.inl rfl | (simp only [List.length_append]; omega) | exact List.mem_cons_self | exact bytes_cell (by omega) | exact fun _ => bytes_cell (by omega) | (simp +contextual only [go_sem]; done) | fail, ?_⟩
        refine h16 _ _ ?_
        refine AWp_region tab_ok [] ?_
        simp only [go_sem, reduceIte, Nat.reduceEqDiff, Nat.reduceLT, decide_true, reduceCtorEq, Nat.reduceAdd, Nat.reduceBEq, Nat.reduceMul, Nat.reduceLeDiff, Int.reduceToNat, h_0]
        repeat refine ⟨by first | assumption | omega | exact True.intro | exact rfl | exact bytes_cells _ | exact Or.inl rfl | (simp only [List.length_append]; omega) | exact List.mem_cons_self | exact bytes_cell (by omega) | exact fun _ => bytes_cell (by omega) | (simp +contextual only [go_sem]; done) | fail, ?_⟩
        simp only [shr64_7]
        rcases f with _ | f
        · exfalso; simp at hi1_0; omega
        refine hL1 ((n / 128), f, (a ++ [BitVec.ofNat 8 (n ||| 128)])) _ _ ?_ ?_ (by dsimp only; rw [← List.append_assoc]; exact fun _ _ h => h) ?_
        · dsimp only; refine ⟨Nat.div_lt_of_lt_mul (by rw [Nat.pow_succ, Nat.mul_comm] at hi1_0; exact hi1_0), ?_, by simp; omega, by omega⟩; rw [← hi1_1, show encF (f + 1 + 1) n = BitVec.ofNat 8 (n ||| 128) :: encF (f + 1) (n / 128) from by rw [encF, if_neg (by omega)], List.append_assoc]; rfl
        · dsimp only; omega
        · simp only [go_sem, reduceIte, Nat.reduceEqDiff, Nat.reduceLT, decide_true, reduceCtorEq, Nat.reduceAdd, Nat.reduceBEq, Nat.reduceMul, Nat.reduceLeDiff, Int.reduceToNat, h_0]; first | done | exact True.intro | (repeat' apply And.intro) <;> first | rfl | exact True.intro
      · try simp only [bne_iff_ne, ne_eq, bne_eq_false_iff_eq, beq_iff_eq, beq_eq_false_iff_ne, decide_eq_true_eq, decide_eq_false_iff_not, Bool.not_eq_true', Bool.not_eq_false', Bool.and_eq_true, Bool.and_eq_false_iff, Bool.or_eq_true, Bool.or_eq_false_iff, Int.natCast_inj, not_true_eq_false, not_false_eq_true] at hb3
        refine AWp_exit ?_
        refine h13 _ _ ?_
        refine AWp_region tab_ok [4] ?_
        simp only [go_sem, reduceIte, Nat.reduceEqDiff, Nat.reduceLT, decide_true, reduceCtorEq, Nat.reduceAdd, Nat.reduceBEq, Nat.reduceMul, Nat.reduceLeDiff, Int.reduceToNat, h_0]
        simp only [w8_nat, bytes_append1]
        repeat refine ⟨by first | assumption | omega | exact True.intro | exact rfl | exact bytes_cells _ | exact Or.inl rfl | (simp only [List.length_append]; omega) | exact List.mem_cons_self | exact bytes_cell (by omega) | exact fun _ => bytes_cell (by omega) | (simp +contextual only [go_sem]; done) | fail, ?_⟩
        refine h8 _ _ ?_
        refine AWp_region tab_ok [] ?_
        simp only [go_sem, reduceIte, Nat.reduceEqDiff, Nat.reduceLT, decide_true, reduceCtorEq, Nat.reduceAdd, Nat.reduceBEq, Nat.reduceMul, Nat.reduceLeDiff, Int.reduceToNat, h_0]
        try simp (disch := omega) only [wrap64]
        repeat refine ⟨by first | assumption | omega | exact True.intro | exact rfl | exact bytes_cells _ | exact Or.inl rfl | (simp only [List.length_append]; omega) | exact List.mem_cons_self | exact bytes_cell (by omega) | exact fun _ => bytes_cell (by omega) | (simp +contextual only [go_sem]; done) | fail, ?_⟩
        refine hL0 (i + 1) _ _ ?_ ?_ (by rw [putL_take_succ _ _ (by omega), putOne, if_neg (by omega), ← hi1_1, encF, if_pos (by omega), ← List.append_assoc]; exact fun _ _ h => h) ?_
        · first | omega | exact True.intro | (refine ⟨?_, ?_⟩ <;> first | omega | simp)
        · omega
        · simp only [go_sem, reduceIte, Nat.reduceEqDiff, Nat.reduceLT, decide_true, reduceCtorEq, Nat.reduceAdd, Nat.reduceBEq, Nat.reduceMul, Nat.reduceLeDiff, Int.reduceToNat, h_0]; first | done | exact True.intro | (repeat' apply And.intro) <;> first | rfl | exact True.intro
  · try simp only [bne_iff_ne, ne_eq, bne_eq_false_iff_eq, beq_iff_eq, beq_eq_false_iff_ne, decide_eq_true_eq, decide_eq_false_iff_not, Bool.not_eq_true', Bool.not_eq_false', Bool.and_eq_true, Bool.and_eq_false_iff, Bool.or_eq_true, Bool.or_eq_false_iff, Int.natCast_inj, not_true_eq_false, not_false_eq_true] at hb1
    refine AWp_exit ?_
    refine h4 _ _ ?_
    refine AWp_seq fun K17 h17 => ?_
    refine AWp_region tab_ok [0] ?_
    simp only [go_sem, reduceIte, Nat.reduceEqDiff, Nat.reduceLT, decide_true, reduceCtorEq, Nat.reduceAdd, Nat.reduceBEq, Nat.reduceMul, Nat.reduceLeDiff, Int.reduceToNat, h_0]
    repeat refine ⟨by first | assumption | omega | exact True.intro | exact rfl | exact bytes_cells _ | exact Or.inl rfl | (simp only [List.length_append]; omega) | exact List.mem_cons_self | exact bytes_cell (by omega) | exact fun _ => bytes_cell (by omega) | (simp +contextual only [go_sem]; done) | fail, ?_⟩
    refine h17 _ _ ?_
    clear h17
    refine AWp_ret ?_
    refine retQ_ret ?_
    simp only [go_sem, reduceIte, Nat.reduceEqDiff, Nat.reduceLT, decide_true, reduceCtorEq, Nat.reduceAdd, Nat.reduceBEq, Nat.reduceMul, Nat.reduceLeDiff, Int.reduceToNat, h_0]
    repeat refine ⟨by first | assumption | omega | exact True.intro | exact rfl | exact bytes_cells _ | exact Or.inl rfl | (simp only [List.length_append]; omega) | exact List.mem_cons_self | exact bytes_cell (by omega) | exact fun _ => bytes_cell (by omega) | (simp +contextual only [go_sem]; done) | fail, ?_⟩
    rw [show i = l.length by omega, List.take_length]
    exact hK

end Go.Ab
