/- Ab.WBatch: what the functions of key, pool and batch compute, that tell what may be. -/
import Derived.Test.YtgnlnkbkbddfaaaAbBatch
import Derived.Test.YtgnlnkbkbddfaaaAbHeap
namespace Go.Ab
set_option maxHeartbeats 1000000
set_option linter.unusedSimpArgs false

theorem idxBatch_spec (H : Hp) (K : AV → Hp → Prop) (f : Nat) (p : Bt → Bool) (xs : List Bt) (h_0 : xs.length < 2^63) (h_1 : ∀ x ∈ xs, ∀ H K, K (.sc (.bool (p x))) H → ACalls Go.Proofs.Try.prog f [.agg [.sc (.int .i64 x.a0), .sc (.int .i64 x.a1), .sc (.bool x.clear), .sc (.int .i64 x.a3), .sc (.int .i64 x.a4), .sc (.int .i64 x.a5), .lst 0 (ints x.ids)]] H K) (hK : K (.sc (.int .i64 (idxOf p xs))) H) :
    ACalls Go.Proofs.Try.prog 232 [.lst 0 (bts xs), .sc (.func (.func f) #[] #[])] H K := by
  refine ACalls_fn tab_ok Go.Proofs.Try.func232 19 [.tmp 4] rfl rfl rfl rfl fun d => ?_
  refine AWp_seq fun K1 h1 => ?_
  refine AWp_region tab_ok [] ?_
  simp only [go_sem, reduceIte, Nat.reduceEqDiff, Nat.reduceLT, decide_true, reduceCtorEq, Nat.reduceAdd, Nat.reduceBEq, Nat.reduceMul, Nat.reduceLeDiff, Int.reduceToNat]
  repeat refine ⟨by first | assumption | omega | exact True.intro | exact rfl | exact bts_cell (by omega) | exact ints_cell (by omega) | exact List.mem_cons_self | exact bytes_cell (by omega) | exact fun _ => bytes_cell (by omega) | (simp +contextual only [go_sem]; done) | fail, ?_⟩
  refine h1 _ _ ?_
  clear h1
  refine AWp_seq fun K2 h2 => ?_
  refine AWp_seq fun K3 h3 => ?_
  refine AWp_region tab_ok [] ?_
  simp only [go_sem, reduceIte, Nat.reduceEqDiff, Nat.reduceLT, decide_true, reduceCtorEq, Nat.reduceAdd, Nat.reduceBEq, Nat.reduceMul, Nat.reduceLeDiff, Int.reduceToNat]
  repeat refine ⟨by first | assumption | omega | exact True.intro | exact rfl | exact bts_cell (by omega) | exact ints_cell (by omega) | exact List.mem_cons_self | exact bytes_cell (by omega) | exact fun _ => bytes_cell (by omega) | (simp +contextual only [go_sem]; done) | fail, ?_⟩
  refine h3 _ _ ?_
  clear h3
  refine AWp_block ?_
  refine AWp_loop_ind (ι := (Nat)) (fun (i : Nat) => [(8, .sc (.int .i64 i)), (7, .sc (.int .i64 xs.length)), (0, .lst 0 (bts xs)), (1, .sc (.func (.func f) #[] #[]))]) (fun (i : Nat) => H) (fun (i : Nat) => (i ≤ xs.length) ∧ ((xs.take i).any p = false)) (fun (i : Nat) => xs.length - i) 0 ?_ ?_ ?_ ?_
  · first | omega | exact True.intro | simp
  · exact fun _ _ h => h
  · simp only [go_sem, reduceIte, Nat.reduceEqDiff, Nat.reduceLT, decide_true, reduceCtorEq, Nat.reduceAdd, Nat.reduceBEq, Nat.reduceMul, Nat.reduceLeDiff, Int.reduceToNat]; first | done | exact True.intro | (repeat' apply And.intro) <;> first | rfl | exact True.intro
  rintro i ⟨hi0_0, hi0_1⟩ L0 hL0
  skip
  refine AWp_seq fun K4 h4 => ?_
  refine AWp_region tab_ok [] ?_
  simp only [go_sem, reduceIte, Nat.reduceEqDiff, Nat.reduceLT, decide_true, reduceCtorEq, Nat.reduceAdd, Nat.reduceBEq, Nat.reduceMul, Nat.reduceLeDiff, Int.reduceToNat]
  repeat refine ⟨by first | assumption | omega | exact True.intro | exact rfl | exact bts_cell (by omega) | exact ints_cell (by omega) | exact List.mem_cons_self | exact bytes_cell (by omega) | exact fun _ => bytes_cell (by omega) | (simp +contextual only [go_sem]; done) | fail, ?_⟩
  refine h4 _ _ ?_
  clear h4
  refine AWp_seq fun K5 h5 => ?_
  refine AWp_if fun kk hkk => ?_
  simp only [go_sem, reduceIte, Nat.reduceEqDiff, Nat.reduceLT, decide_true, reduceCtorEq, Nat.reduceAdd, Nat.reduceBEq, Nat.reduceMul, Nat.reduceLeDiff, Int.reduceToNat]
  repeat refine ⟨by first | assumption | omega | exact True.intro | exact rfl | exact bts_cell (by omega) | exact ints_cell (by omega) | exact List.mem_cons_self | exact bytes_cell (by omega) | exact fun _ => bytes_cell (by omega) | (simp +contextual only [go_sem]; done) | fail, ?_⟩
  refine hkk _ (fun hb0 => ?_) (fun hb0 => ?_) <;> clear hkk kk
  · try simp only [bne_iff_ne, ne_eq, bne_eq_false_iff_eq, beq_iff_eq, beq_eq_false_iff_ne, decide_eq_true_eq, decide_eq_false_iff_not, Bool.not_eq_true', Bool.not_eq_false', Bool.and_eq_true, Bool.and_eq_false_iff, Bool.or_eq_true, Bool.or_eq_false_iff, Int.natCast_inj, not_true_eq_false, not_false_eq_true] at hb0
    refine AWp_skip ?_
    refine h5 _ _ ?_
    refine AWp_seq fun K6 h6 => ?_
    refine AWp_block ?_
    refine AWp_seq fun K7 h7 => ?_
    refine AWp_region tab_ok [] ?_
    simp only [go_sem, reduceIte, Nat.reduceEqDiff, Nat.reduceLT, decide_true, reduceCtorEq, Nat.reduceAdd, Nat.reduceBEq, Nat.reduceMul, Nat.reduceLeDiff, Int.reduceToNat]
    repeat refine ⟨by first | assumption | omega | exact True.intro | exact rfl | exact bts_cell (by omega) | exact ints_cell (by omega) | exact List.mem_cons_self | exact bytes_cell (by omega) | exact fun _ => bytes_cell (by omega) | (simp +contextual only [go_sem]; done) | fail, ?_⟩
    refine h7 _ _ ?_
    clear h7
    refine AWp_seq fun K8 h8 => ?_
    refine AWp_region tab_ok [] ?_
    simp only [go_sem, reduceIte, Nat.reduceEqDiff, Nat.reduceLT, decide_true, reduceCtorEq, Nat.reduceAdd, Nat.reduceBEq, Nat.reduceMul, Nat.reduceLeDiff, Int.reduceToNat]
    try simp (disch := omega) only [bytes_get, ints_get, bts_get]
    try simp only [go_sem, reduceIte, Nat.reduceEqDiff, Nat.reduceLT, decide_true, reduceCtorEq, Nat.reduceAdd, Nat.reduceBEq, Nat.reduceMul, Nat.reduceLeDiff, Int.reduceToNat]
    repeat refine ⟨by first | assumption | omega | exact True.intro | exact rfl | exact bts_cell (by omega) | exact ints_cell (by omega) | exact List.mem_cons_self | exact bytes_cell (by omega) | exact fun _ => bytes_cell (by omega) | (simp +contextual only [go_sem]; done) | fail, ?_⟩
    refine h_1 _ (List.getElem_mem (by omega)) _ _ ?_
    simp only [callK]
    simp only [go_sem, reduceIte, Nat.reduceEqDiff, Nat.reduceLT, decide_true, reduceCtorEq, Nat.reduceAdd, Nat.reduceBEq, Nat.reduceMul, Nat.reduceLeDiff, Int.reduceToNat]
    repeat refine ⟨by first | assumption | omega | exact True.intro | exact rfl | exact bts_cell (by omega) | exact ints_cell (by omega) | exact List.mem_cons_self | exact bytes_cell (by omega) | exact fun _ => bytes_cell (by omega) | (simp +contextual only [go_sem]; done) | fail, ?_⟩
    refine h8 _ _ ?_
    clear h8
    refine AWp_if fun kk hkk => ?_
    simp only [go_sem, reduceIte, Nat.reduceEqDiff, Nat.reduceLT, decide_true, reduceCtorEq, Nat.reduceAdd, Nat.reduceBEq, Nat.reduceMul, Nat.reduceLeDiff, Int.reduceToNat]
    repeat refine ⟨by first | assumption | omega | exact True.intro | exact rfl | exact bts_cell (by omega) | exact ints_cell (by omega) | exact List.mem_cons_self | exact bytes_cell (by omega) | exact fun _ => bytes_cell (by omega) | (simp +contextual only [go_sem]; done) | fail, ?_⟩
    refine hkk _ (fun hb1 => ?_) (fun hb1 => ?_) <;> clear hkk kk
    · try simp only [bne_iff_ne, ne_eq, bne_eq_false_iff_eq, beq_iff_eq, beq_eq_false_iff_ne, decide_eq_true_eq, decide_eq_false_iff_not, Bool.not_eq_true', Bool.not_eq_false', Bool.and_eq_true, Bool.and_eq_false_iff, Bool.or_eq_true, Bool.or_eq_false_iff, Int.natCast_inj, not_true_eq_false, not_false_eq_true] at hb1
      refine AWp_seq fun K9 h9 => ?_
      refine AWp_region tab_ok [0] ?_
      simp only [go_sem, reduceIte, Nat.reduceEqDiff, Nat.reduceLT, decide_true, reduceCtorEq, Nat.reduceAdd, Nat.reduceBEq, Nat.reduceMul, Nat.reduceLeDiff, Int.reduceToNat]
      repeat refine ⟨by first | assumption | omega | exact True.intro | exact rfl | exact bts_cell (by omega) | exact ints_cell (by omega) | exact List.mem_cons_self | exact bytes_cell (by omega) | exact fun _ => bytes_cell (by omega) | (simp +contextual only [go_sem]; done) | fail, ?_⟩
      refine h9 _ _ ?_
      clear h9
      refine AWp_ret ?_
      refine retQ_ret ?_
      simp only [go_sem, reduceIte, Nat.reduceEqDiff, Nat.reduceLT, decide_true, reduceCtorEq, Nat.reduceAdd, Nat.reduceBEq, Nat.reduceMul, Nat.reduceLeDiff, Int.reduceToNat]
      repeat refine ⟨by first | assumption | omega | exact True.intro | exact rfl | exact bts_cell (by omega) | exact ints_cell (by omega) | exact List.mem_cons_self | exact bytes_cell (by omega) | exact fun _ => bytes_cell (by omega) | (simp +contextual only [go_sem]; done) | fail, ?_⟩
      rw [← idxOf_found (by omega) hi0_1 hb1]
      exact hK
    · try simp only [bne_iff_ne, ne_eq, bne_eq_false_iff_eq, beq_iff_eq, beq_eq_false_iff_ne, decide_eq_true_eq, decide_eq_false_iff_not, Bool.not_eq_true', Bool.not_eq_false', Bool.and_eq_true, Bool.and_eq_false_iff, Bool.or_eq_true, Bool.or_eq_false_iff, Int.natCast_inj, not_true_eq_false, not_false_eq_true] at hb1
      refine AWp_skip ?_
      refine h6 _ _ ?_
      refine AWp_region tab_ok [] ?_
      simp only [go_sem, reduceIte, Nat.reduceEqDiff, Nat.reduceLT, decide_true, reduceCtorEq, Nat.reduceAdd, Nat.reduceBEq, Nat.reduceMul, Nat.reduceLeDiff, Int.reduceToNat]
      try simp (disch := omega) only [wrap64]
      repeat refine ⟨by first | assumption | omega | exact True.intro | exact rfl | exact bts_cell (by omega) | exact ints_cell (by omega) | exact List.mem_cons_self | exact bytes_cell (by omega) | exact fun _ => bytes_cell (by omega) | (simp +contextual only [go_sem]; done) | fail, ?_⟩
      refine hL0 (i + 1) _ _ ?_ ?_ (fun _ _ h => h) ?_
      · refine ⟨by omega, ?_⟩; rw [any_take_succ (by omega), hi0_1, hb1]; rfl
      · omega
      · simp only [go_sem, reduceIte, Nat.reduceEqDiff, Nat.reduceLT, decide_true, reduceCtorEq, Nat.reduceAdd, Nat.reduceBEq, Nat.reduceMul, Nat.reduceLeDiff, Int.reduceToNat]; first | done | exact True.intro | (repeat' apply And.intro) <;> first | rfl | exact True.intro
  · try simp only [bne_iff_ne, ne_eq, bne_eq_false_iff_eq, beq_iff_eq, beq_eq_false_iff_ne, decide_eq_true_eq, decide_eq_false_iff_not, Bool.not_eq_true', Bool.not_eq_false', Bool.and_eq_true, Bool.and_eq_false_iff, Bool.or_eq_true, Bool.or_eq_false_iff, Int.natCast_inj, not_true_eq_false, not_false_eq_true] at hb0
    refine AWp_exit ?_
    refine h2 _ _ ?_
    refine AWp_seq fun K10 h10 => ?_
    refine AWp_region tab_ok [] ?_
    simp only [go_sem, reduceIte, Nat.reduceEqDiff, Nat.reduceLT, decide_true, reduceCtorEq, Nat.reduceAdd, Nat.reduceBEq, Nat.reduceMul, Nat.reduceLeDiff, Int.reduceToNat]
    repeat refine ⟨by first | assumption | omega | exact True.intro | exact rfl | exact bts_cell (by omega) | exact ints_cell (by omega) | exact List.mem_cons_self | exact bytes_cell (by omega) | exact fun _ => bytes_cell (by omega) | (simp +contextual only [go_sem]; done) | fail, ?_⟩
    refine h10 _ _ ?_
    clear h10
    refine AWp_ret ?_
    refine retQ_ret ?_
    simp only [go_sem, reduceIte, Nat.reduceEqDiff, Nat.reduceLT, decide_true, reduceCtorEq, Nat.reduceAdd, Nat.reduceBEq, Nat.reduceMul, Nat.reduceLeDiff, Int.reduceToNat]
    repeat refine ⟨by first | assumption | omega | exact True.intro | exact rfl | exact bts_cell (by omega) | exact ints_cell (by omega) | exact List.mem_cons_self | exact bytes_cell (by omega) | exact fun _ => bytes_cell (by omega) | (simp +contextual only [go_sem]; done) | fail, ?_⟩
    rw [show i = xs.length by omega, List.take_length] at hi0_1
    rw [idxOf_none hi0_1] at hK
    exact hK

theorem hasBatch_spec (H : Hp) (K : AV → Hp → Prop) (f : Nat) (p : Bt → Bool) (xs : List Bt) (h_0 : xs.length < 2^63) (h_1 : ∀ x ∈ xs, ∀ H K, K (.sc (.bool (p x))) H → ACalls Go.Proofs.Try.prog f [.agg [.sc (.int .i64 x.a0), .sc (.int .i64 x.a1), .sc (.bool x.clear), .sc (.int .i64 x.a3), .sc (.int .i64 x.a4), .sc (.int .i64 x.a5), .lst 0 (ints x.ids)]] H K) (hK : K (.sc (.bool (xs.any p))) H) :
    ACalls Go.Proofs.Try.prog 187 [.lst 0 (bts xs), .sc (.func (.func f) #[] #[])] H K := by
  refine ACalls_fn tab_ok Go.Proofs.Try.func187 9 [.tmp 4] rfl rfl rfl rfl fun d => ?_
  refine AWp_seq fun K1 h1 => ?_
  refine AWp_region tab_ok [] ?_
  simp only [go_sem, reduceIte, Nat.reduceEqDiff, Nat.reduceLT, decide_true, reduceCtorEq, Nat.reduceAdd, Nat.reduceBEq, Nat.reduceMul, Nat.reduceLeDiff, Int.reduceToNat]
  repeat refine ⟨by first | assumption | omega | exact True.intro | exact rfl | exact List.mem_cons_self | exact bytes_cell (by omega) | exact fun _ => bytes_cell (by omega) | (simp +contextual only [go_sem]; done) | fail, ?_⟩
  refine h1 _ _ ?_
  clear h1
  refine AWp_seq fun K2 h2 => ?_
  refine AWp_region tab_ok [] ?_
  simp only [go_sem, reduceIte, Nat.reduceEqDiff, Nat.reduceLT, decide_true, reduceCtorEq, Nat.reduceAdd, Nat.reduceBEq, Nat.reduceMul, Nat.reduceLeDiff, Int.reduceToNat]
  repeat refine ⟨by first | assumption | omega | exact True.intro | exact rfl | exact List.mem_cons_self | exact bytes_cell (by omega) | exact fun _ => bytes_cell (by omega) | (simp +contextual only [go_sem]; done) | fail, ?_⟩
  refine idxBatch_spec _ _ _ _ _ (by (first | assumption | omega | exact True.intro | (simp only [go_sem, reduceIte, Nat.reduceEqDiff, Nat.reduceLT, decide_true, reduceCtorEq, Nat.reduceAdd, Nat.reduceBEq, Nat.reduceMul, Nat.reduceLeDiff, Int.reduceToNat] <;> rfl))) (by (first | assumption | omega | exact True.intro | (simp only [go_sem, reduceIte, Nat.reduceEqDiff, Nat.reduceLT, decide_true, reduceCtorEq, Nat.reduceAdd, Nat.reduceBEq, Nat.reduceMul, Nat.reduceLeDiff, Int.reduceToNat] <;> rfl))) ?_
  simp only [callK]
  simp only [go_sem, reduceIte, Nat.reduceEqDiff, Nat.reduceLT, decide_true, reduceCtorEq, Nat.reduceAdd, Nat.reduceBEq, Nat.reduceMul, Nat.reduceLeDiff, Int.reduceToNat]
  repeat refine ⟨by first | assumption | omega | exact True.intro | exact rfl | exact List.mem_cons_self | exact bytes_cell (by omega) | exact fun _ => bytes_cell (by omega) | (simp +contextual only [go_sem]; done) | fail, ?_⟩
  refine h2 _ _ ?_
  clear h2
  refine AWp_ret ?_
  refine retQ_ret ?_
  simp only [go_sem, reduceIte, Nat.reduceEqDiff, Nat.reduceLT, decide_true, reduceCtorEq, Nat.reduceAdd, Nat.reduceBEq, Nat.reduceMul, Nat.reduceLeDiff, Int.reduceToNat]
  repeat refine ⟨by first | assumption | omega | exact True.intro | exact rfl | exact List.mem_cons_self | exact bytes_cell (by omega) | exact fun _ => bytes_cell (by omega) | (simp +contextual only [go_sem]; done) | fail, ?_⟩
  rw [idxOf_ge]
  exact hK

theorem idxID_spec (H : Hp) (K : AV → Hp → Prop) (f : Nat) (p : Int → Bool) (xs : List Int) (h_0 : xs.length < 2^63) (h_1 : ∀ x ∈ xs, ∀ H K, K (.sc (.bool (p x))) H → ACalls Go.Proofs.Try.prog f [.sc (.int .i64 x)] H K) (hK : K (.sc (.int .i64 (idxOf p xs))) H) :
    ACalls Go.Proofs.Try.prog 174 [.lst 0 (ints xs), .sc (.func (.func f) #[] #[])] H K := by
  refine ACalls_fn tab_ok Go.Proofs.Try.func174 19 [.tmp 4] rfl rfl rfl rfl fun d => ?_
  refine AWp_seq fun K1 h1 => ?_
  refine AWp_region tab_ok [] ?_
  simp only [go_sem, reduceIte, Nat.reduceEqDiff, Nat.reduceLT, decide_true, reduceCtorEq, Nat.reduceAdd, Nat.reduceBEq, Nat.reduceMul, Nat.reduceLeDiff, Int.reduceToNat]
  repeat refine ⟨by first | assumption | omega | exact True.intro | exact rfl | exact bts_cell (by omega) | exact ints_cell (by omega) | exact List.mem_cons_self | exact bytes_cell (by omega) | exact fun _ => bytes_cell (by omega) | (simp +contextual only [go_sem]; done) | fail, ?_⟩
  refine h1 _ _ ?_
  clear h1
  refine AWp_seq fun K2 h2 => ?_
  refine AWp_seq fun K3 h3 => ?_
  refine AWp_region tab_ok [] ?_
  simp only [go_sem, reduceIte, Nat.reduceEqDiff, Nat.reduceLT, decide_true, reduceCtorEq, Nat.reduceAdd, Nat.reduceBEq, Nat.reduceMul, Nat.reduceLeDiff, Int.reduceToNat]
  repeat refine ⟨by first | assumption | omega | exact True.intro | exact rfl | exact bts_cell (by omega) | exact ints_cell (by omega) | exact List.mem_cons_self | exact bytes_cell (by omega) | exact fun _ => bytes_cell (by omega) | (simp +contextual only [go_sem]; done) | fail, ?_⟩
  refine h3 _ _ ?_
  clear h3
  refine AWp_block ?_
  refine AWp_loop_ind (ι := (Nat)) (fun (i : Nat) => [(8, .sc (.int .i64 i)), (7, .sc (.int .i64 xs.length)), (0, .lst 0 (ints xs)), (1, .sc (.func (.func f) #[] #[]))]) (fun (i : Nat) => H) (fun (i : Nat) => (i ≤ xs.length) ∧ ((xs.take i).any p = false)) (fun (i : Nat) => xs.length - i) 0 ?_ ?_ ?_ ?_
  · first | omega | exact True.intro | simp
  · exact fun _ _ h => h
  · simp only [go_sem, reduceIte, Nat.reduceEqDiff, Nat.reduceLT, decide_true, reduceCtorEq, Nat.reduceAdd, Nat.reduceBEq, Nat.reduceMul, Nat.reduceLeDiff, Int.reduceToNat]; first | done | exact True.intro | (repeat' apply And.intro) <;> first | rfl | exact True.intro
  rintro i ⟨hi0_0, hi0_1⟩ L0 hL0
  skip
  refine AWp_seq fun K4 h4 => ?_
  refine AWp_region tab_ok [] ?_
  simp only [go_sem, reduceIte, Nat.reduceEqDiff, Nat.reduceLT, decide_true, reduceCtorEq, Nat.reduceAdd, Nat.reduceBEq, Nat.reduceMul, Nat.reduceLeDiff, Int.reduceToNat]
  repeat refine ⟨by first | assumption | omega | exact True.intro | exact rfl | exact bts_cell (by omega) | exact ints_cell (by omega) | exact List.mem_cons_self | exact bytes_cell (by omega) | exact fun _ => bytes_cell (by omega) | (simp +contextual only [go_sem]; done) | fail, ?_⟩
  refine h4 _ _ ?_
  clear h4
  refine AWp_seq fun K5 h5 => ?_
  refine AWp_if fun kk hkk => ?_
  simp only [go_sem, reduceIte, Nat.reduceEqDiff, Nat.reduceLT, decide_true, reduceCtorEq, Nat.reduceAdd, Nat.reduceBEq, Nat.reduceMul, Nat.reduceLeDiff, Int.reduceToNat]
  repeat refine ⟨by first | assumption | omega | exact True.intro | exact rfl | exact bts_cell (by omega) | exact ints_cell (by omega) | exact List.mem_cons_self | exact bytes_cell (by omega) | exact fun _ => bytes_cell (by omega) | (simp +contextual only [go_sem]; done) | fail, ?_⟩
  refine hkk _ (fun hb0 => ?_) (fun hb0 => ?_) <;> clear hkk kk
  · try simp only [bne_iff_ne, ne_eq, bne_eq_false_iff_eq, beq_iff_eq, beq_eq_false_iff_ne, decide_eq_true_eq, decide_eq_false_iff_not, Bool.not_eq_true', Bool.not_eq_false', Bool.and_eq_true, Bool.and_eq_false_iff, Bool.or_eq_true, Bool.or_eq_false_iff, Int.natCast_inj, not_true_eq_false, not_false_eq_true] at hb0
    refine AWp_skip ?_
    refine h5 _ _ ?_
    refine AWp_seq fun K6 h6 => ?_
    refine AWp_block ?_
    refine AWp_seq fun K7 h7 => ?_
    refine AWp_region tab_ok [] ?_
    simp only [go_sem, reduceIte, Nat.reduceEqDiff, Nat.reduceLT, decide_true, reduceCtorEq, Nat.reduceAdd, Nat.reduceBEq, Nat.reduceMul, Nat.reduceLeDiff, Int.reduceToNat]
    repeat refine ⟨by first | assumption | omega | exact True.intro | exact rfl | exact bts_cell (by omega) | exact ints_cell (by omega) | exact List.mem_cons_self | exact bytes_cell (by omega) | exact fun _ => bytes_cell (by omega) | (simp +contextual only [go_sem]; done) | fail, ?_⟩
    refine h7 _ _ ?_
    clear h7
    refine AWp_seq fun K8 h8 => ?_
    refine AWp_region tab_ok [] ?_
    simp only [go_sem, reduceIte, Nat.reduceEqDiff, Nat.reduceLT, decide_true, reduceCtorEq, Nat.reduceAdd, Nat.reduceBEq, Nat.reduceMul, Nat.reduceLeDiff, Int.reduceToNat]
    try simp (disch := omega) only [bytes_get, ints_get, bts_get]
    try simp only [go_sem, reduceIte, Nat.reduceEqDiff, Nat.reduceLT, decide_true, reduceCtorEq, Nat.reduceAdd, Nat.reduceBEq, Nat.reduceMul, Nat.reduceLeDiff, Int.reduceToNat]
    repeat refine ⟨by first | assumption | omega | exact True.intro | exact rfl | exact bts_cell (by omega) | exact ints_cell (by omega) | exact List.mem_cons_self | exact bytes_cell (by omega) | exact fun _ => bytes_cell (by omega) | (simp +contextual only [go_sem]; done) | fail, ?_⟩
    refine h_1 _ (List.getElem_mem (by omega)) _ _ ?_
    simp only [callK]
    simp only [go_sem, reduceIte, Nat.reduceEqDiff, Nat.reduceLT, decide_true, reduceCtorEq, Nat.reduceAdd, Nat.reduceBEq, Nat.reduceMul, Nat.reduceLeDiff, Int.reduceToNat]
    repeat refine ⟨by first | assumption | omega | exact True.intro | exact rfl | exact bts_cell (by omega) | exact ints_cell (by omega) | exact List.mem_cons_self | exact bytes_cell (by omega) | exact fun _ => bytes_cell (by omega) | (simp +contextual only [go_sem]; done) | fail, ?_⟩
    refine h8 _ _ ?_
    clear h8
    refine AWp_if fun kk hkk => ?_
    simp only [go_sem, reduceIte, Nat.reduceEqDiff, Nat.reduceLT, decide_true, reduceCtorEq, Nat.reduceAdd, Nat.reduceBEq, Nat.reduceMul, Nat.reduceLeDiff, Int.reduceToNat]
    repeat refine ⟨by first | assumption | omega | exact True.intro | exact rfl | exact bts_cell (by omega) | exact ints_cell (by omega) | exact List.mem_cons_self | exact bytes_cell (by omega) | exact fun _ => bytes_cell (by omega) | (simp +contextual only [go_sem]; done) | fail, ?_⟩
    refine hkk _ (fun hb1 => ?_) (fun hb1 => ?_) <;> clear hkk kk
    · try simp only [bne_iff_ne, ne_eq, bne_eq_false_iff_eq, beq_iff_eq, beq_eq_false_iff_ne, decide_eq_true_eq, decide_eq_false_iff_not, Bool.not_eq_true', Bool.not_eq_false', Bool.and_eq_true, Bool.and_eq_false_iff, Bool.or_eq_true, Bool.or_eq_false_iff, Int.natCast_inj, not_true_eq_false, not_false_eq_true] at hb1
      refine AWp_seq fun K9 h9 => ?_
      refine AWp_region tab_ok [0] ?_
      simp only [go_sem, reduceIte, Nat.reduceEqDiff, Nat.reduceLT, decide_true, reduceCtorEq, Nat.reduceAdd, Nat.reduceBEq, Nat.reduceMul, Nat.reduceLeDiff, Int.reduceToNat]
      repeat refine ⟨by first | assumption | omega | exact True.intro | exact rfl | exact bts_cell (by omega) | exact ints_cell (by omega) | exact List.mem_cons_self | exact bytes_cell (by omega) | exact fun _ => bytes_cell (by omega) | (simp +contextual only [go_sem]; done) | fail, ?_⟩
      refine h9 _ _ ?_
      clear h9
      refine AWp_ret ?_
      refine retQ_ret ?_
      simp only [go_sem, reduceIte, Nat.reduceEqDiff, Nat.reduceLT, decide_true, reduceCtorEq, Nat.reduceAdd, Nat.reduceBEq, Nat.reduceMul, Nat.reduceLeDiff, Int.reduceToNat]
      repeat refine ⟨by first | assumption | omega | exact True.intro | exact rfl | exact bts_cell (by omega) | exact ints_cell (by omega) | exact List.mem_cons_self | exact bytes_cell (by omega) | exact fun _ => bytes_cell (by omega) | (simp +contextual only [go_sem]; done) | fail, ?_⟩
      rw [← idxOf_found (by omega) hi0_1 hb1]
      exact hK
    · try simp only [bne_iff_ne, ne_eq, bne_eq_false_iff_eq, beq_iff_eq, beq_eq_false_iff_ne, decide_eq_true_eq, decide_eq_false_iff_not, Bool.not_eq_true', Bool.not_eq_false', Bool.and_eq_true, Bool.and_eq_false_iff, Bool.or_eq_true, Bool.or_eq_false_iff, Int.natCast_inj, not_true_eq_false, not_false_eq_true] at hb1
      refine AWp_skip ?_
      refine h6 _ _ ?_
      refine AWp_region tab_ok [] ?_
      simp only [go_sem, reduceIte, Nat.reduceEqDiff, Nat.reduceLT, decide_true, reduceCtorEq, Nat.reduceAdd, Nat.reduceBEq, Nat.reduceMul, Nat.reduceLeDiff, Int.reduceToNat]
      try simp (disch := omega) only [wrap64]
      repeat refine ⟨by first | assumption | omega | exact True.intro | exact rfl | exact bts_cell (by omega) | exact ints_cell (by omega) | exact List.mem_cons_self | exact bytes_cell (by omega) | exact fun _ => bytes_cell (by omega) | (simp +contextual only [go_sem]; done) | fail, ?_⟩
      refine hL0 (i + 1) _ _ ?_ ?_ (fun _ _ h => h) ?_
      · refine ⟨by omega, ?_⟩; rw [any_take_succ (by omega), hi0_1, hb1]; rfl
      · omega
      · simp only [go_sem, reduceIte, Nat.reduceEqDiff, Nat.reduceLT, decide_true, reduceCtorEq, Nat.reduceAdd, Nat.reduceBEq, Nat.reduceMul, Nat.reduceLeDiff, Int.reduceToNat]; first | done | exact True.intro | (repeat' apply And.intro) <;> first | rfl | exact True.intro
  · try simp only [bne_iff_ne, ne_eq, bne_eq_false_iff_eq, beq_iff_eq, beq_eq_false_iff_ne, decide_eq_true_eq, decide_eq_false_iff_not, Bool.not_eq_true', Bool.not_eq_false', Bool.and_eq_true, Bool.and_eq_false_iff, Bool.or_eq_true, Bool.or_eq_false_iff, Int.natCast_inj, not_true_eq_false, not_false_eq_true] at hb0
    refine AWp_exit ?_
    refine h2 _ _ ?_
    refine AWp_seq fun K10 h10 => ?_
    refine AWp_region tab_ok [] ?_
    simp only [go_sem, reduceIte, Nat.reduceEqDiff, Nat.reduceLT, decide_true, reduceCtorEq, Nat.reduceAdd, Nat.reduceBEq, Nat.reduceMul, Nat.reduceLeDiff, Int.reduceToNat]
    repeat refine ⟨by first | assumption | omega | exact True.intro | exact rfl | exact bts_cell (by omega) | exact ints_cell (by omega) | exact List.mem_cons_self | exact bytes_cell (by omega) | exact fun _ => bytes_cell (by omega) | (simp +contextual only [go_sem]; done) | fail, ?_⟩
    refine h10 _ _ ?_
    clear h10
    refine AWp_ret ?_
    refine retQ_ret ?_
    simp only [go_sem, reduceIte, Nat.reduceEqDiff, Nat.reduceLT, decide_true, reduceCtorEq, Nat.reduceAdd, Nat.reduceBEq, Nat.reduceMul, Nat.reduceLeDiff, Int.reduceToNat]
    repeat refine ⟨by first | assumption | omega | exact True.intro | exact rfl | exact bts_cell (by omega) | exact ints_cell (by omega) | exact List.mem_cons_self | exact bytes_cell (by omega) | exact fun _ => bytes_cell (by omega) | (simp +contextual only [go_sem]; done) | fail, ?_⟩
    rw [show i = xs.length by omega, List.take_length] at hi0_1
    rw [idxOf_none hi0_1] at hK
    exact hK

theorem hasID_spec (H : Hp) (K : AV → Hp → Prop) (f : Nat) (p : Int → Bool) (xs : List Int) (h_0 : xs.length < 2^63) (h_1 : ∀ x ∈ xs, ∀ H K, K (.sc (.bool (p x))) H → ACalls Go.Proofs.Try.prog f [.sc (.int .i64 x)] H K) (hK : K (.sc (.bool (xs.any p))) H) :
    ACalls Go.Proofs.Try.prog 125 [.lst 0 (ints xs), .sc (.func (.func f) #[] #[])] H K := by
  refine ACalls_fn tab_ok Go.Proofs.Try.func125 9 [.tmp 4] rfl rfl rfl rfl fun d => ?_
  refine AWp_seq fun K1 h1 => ?_
  refine AWp_region tab_ok [] ?_
  simp only [go_sem, reduceIte, Nat.reduceEqDiff, Nat.reduceLT, decide_true, reduceCtorEq, Nat.reduceAdd, Nat.reduceBEq, Nat.reduceMul, Nat.reduceLeDiff, Int.reduceToNat]
  repeat refine ⟨by first | assumption | omega | exact True.intro | exact rfl | exact List.mem_cons_self | exact bytes_cell (by omega) | exact fun _ => bytes_cell (by omega) | (simp +contextual only [go_sem]; done) | fail, ?_⟩
  refine h1 _ _ ?_
  clear h1
  refine AWp_seq fun K2 h2 => ?_
  refine AWp_region tab_ok [] ?_
  simp only [go_sem, reduceIte, Nat.reduceEqDiff, Nat.reduceLT, decide_true, reduceCtorEq, Nat.reduceAdd, Nat.reduceBEq, Nat.reduceMul, Nat.reduceLeDiff, Int.reduceToNat]
  repeat refine ⟨by first | assumption | omega | exact True.intro | exact rfl | exact List.mem_cons_self | exact bytes_cell (by omega) | exact fun _ => bytes_cell (by omega) | (simp +contextual only [go_sem]; done) | fail, ?_⟩
  refine idxID_spec _ _ _ _ _ (by (first | assumption | omega | exact True.intro | (simp only [go_sem, reduceIte, Nat.reduceEqDiff, Nat.reduceLT, decide_true, reduceCtorEq, Nat.reduceAdd, Nat.reduceBEq, Nat.reduceMul, Nat.reduceLeDiff, Int.reduceToNat] <;> rfl))) (by (first | assumption | omega | exact True.intro | (simp only [go_sem, reduceIte, Nat.reduceEqDiff, Nat.reduceLT, decide_true, reduceCtorEq, Nat.reduceAdd, Nat.reduceBEq, Nat.reduceMul, Nat.reduceLeDiff, Int.reduceToNat] <;> rfl))) ?_
  simp only [callK]
  simp only [go_sem, reduceIte, Nat.reduceEqDiff, Nat.reduceLT, decide_true, reduceCtorEq, Nat.reduceAdd, Nat.reduceBEq, Nat.reduceMul, Nat.reduceLeDiff, Int.reduceToNat]
  repeat refine ⟨by first | assumption | omega | exact True.intro | exact rfl | exact List.mem_cons_self | exact bytes_cell (by omega) | exact fun _ => bytes_cell (by omega) | (simp +contextual only [go_sem]; done) | fail, ?_⟩
  refine h2 _ _ ?_
  clear h2
  refine AWp_ret ?_
  refine retQ_ret ?_
  simp only [go_sem, reduceIte, Nat.reduceEqDiff, Nat.reduceLT, decide_true, reduceCtorEq, Nat.reduceAdd, Nat.reduceBEq, Nat.reduceMul, Nat.reduceLeDiff, Int.reduceToNat]
  repeat refine ⟨by first | assumption | omega | exact True.intro | exact rfl | exact List.mem_cons_self | exact bytes_cell (by omega) | exact fun _ => bytes_cell (by omega) | (simp +contextual only [go_sem]; done) | fail, ?_⟩
  rw [idxOf_ge]
  exact hK

theorem poolRight_spec (H : Hp) (K : AV → Hp → Prop) (n : Int)  (hK : K (.sc (.bool (idRight n))) H) :
    ACalls Go.Proofs.Try.prog 269 [.sc (.int .i64 n)] H K := by
  refine ACalls_fn tab_ok Go.Proofs.Try.func269 9 [.tmp 2] rfl rfl rfl rfl fun d => ?_
  refine AWp_seq fun K1 h1 => ?_
  refine AWp_region tab_ok [] ?_
  simp only [go_sem, reduceIte, Nat.reduceEqDiff, Nat.reduceLT, decide_true, reduceCtorEq, Nat.reduceAdd, Nat.reduceBEq, Nat.reduceMul, Nat.reduceLeDiff, Int.reduceToNat]
  repeat refine ⟨by first | assumption | omega | exact True.intro | exact rfl | exact List.mem_cons_self | exact bytes_cell (by omega) | exact fun _ => bytes_cell (by omega) | (simp +contextual only [go_sem]; done) | fail, ?_⟩
  refine h1 _ _ ?_
  clear h1
  refine AWp_seq fun K2 h2 => ?_
  refine AWp_region tab_ok [] ?_
  simp only [go_sem, reduceIte, Nat.reduceEqDiff, Nat.reduceLT, decide_true, reduceCtorEq, Nat.reduceAdd, Nat.reduceBEq, Nat.reduceMul, Nat.reduceLeDiff, Int.reduceToNat]
  repeat refine ⟨by first | assumption | omega | exact True.intro | exact rfl | exact List.mem_cons_self | exact bytes_cell (by omega) | exact fun _ => bytes_cell (by omega) | (simp +contextual only [go_sem]; done) | fail, ?_⟩
  refine h2 _ _ ?_
  clear h2
  refine AWp_ret ?_
  refine retQ_ret ?_
  simp only [go_sem, reduceIte, Nat.reduceEqDiff, Nat.reduceLT, decide_true, reduceCtorEq, Nat.reduceAdd, Nat.reduceBEq, Nat.reduceMul, Nat.reduceLeDiff, Int.reduceToNat]
  repeat refine ⟨by first | assumption | omega | exact True.intro | exact rfl | exact List.mem_cons_self | exact bytes_cell (by omega) | exact fun _ => bytes_cell (by omega) | (simp +contextual only [go_sem]; done) | fail, ?_⟩
  exact hK

theorem poolIndex_spec (H : Hp) (K : AV → Hp → Prop) (n : Int)  (hK : K (.sc (.int .i64 (if idRight n then n.tmod 256 else -1))) H) :
    ACalls Go.Proofs.Try.prog 235 [.sc (.int .i64 n)] H K := by
  refine ACalls_fn tab_ok Go.Proofs.Try.func235 8 [.tmp 2] rfl rfl rfl rfl fun d => ?_
  refine AWp_seq fun K1 h1 => ?_
  refine AWp_region tab_ok [] ?_
  simp only [go_sem, reduceIte, Nat.reduceEqDiff, Nat.reduceLT, decide_true, reduceCtorEq, Nat.reduceAdd, Nat.reduceBEq, Nat.reduceMul, Nat.reduceLeDiff, Int.reduceToNat]
  repeat refine ⟨by first | assumption | omega | exact True.intro | exact rfl | exact List.mem_cons_self | exact bytes_cell (by omega) | exact fun _ => bytes_cell (by omega) | (simp +contextual only [go_sem]; done) | fail, ?_⟩
  refine h1 _ _ ?_
  clear h1
  refine AWp_seq fun K2 h2 => ?_
  refine AWp_seq fun K3 h3 => ?_
  refine AWp_region tab_ok [] ?_
  simp only [go_sem, reduceIte, Nat.reduceEqDiff, Nat.reduceLT, decide_true, reduceCtorEq, Nat.reduceAdd, Nat.reduceBEq, Nat.reduceMul, Nat.reduceLeDiff, Int.reduceToNat]
  repeat refine ⟨by first | assumption | omega | exact True.intro | exact rfl | exact List.mem_cons_self | exact bytes_cell (by omega) | exact fun _ => bytes_cell (by omega) | (simp +contextual only [go_sem]; done) | fail, ?_⟩
  refine poolRight_spec _ _ _  ?_
  simp only [callK]
  simp only [go_sem, reduceIte, Nat.reduceEqDiff, Nat.reduceLT, decide_true, reduceCtorEq, Nat.reduceAdd, Nat.reduceBEq, Nat.reduceMul, Nat.reduceLeDiff, Int.reduceToNat]
  repeat refine ⟨by first | assumption | omega | exact True.intro | exact rfl | exact List.mem_cons_self | exact bytes_cell (by omega) | exact fun _ => bytes_cell (by omega) | (simp +contextual only [go_sem]; done) | fail, ?_⟩
  refine h3 _ _ ?_
  clear h3
  refine AWp_if fun kk hkk => ?_
  simp only [go_sem, reduceIte, Nat.reduceEqDiff, Nat.reduceLT, decide_true, reduceCtorEq, Nat.reduceAdd, Nat.reduceBEq, Nat.reduceMul, Nat.reduceLeDiff, Int.reduceToNat]
  repeat refine ⟨by first | assumption | omega | exact True.intro | exact rfl | exact List.mem_cons_self | exact bytes_cell (by omega) | exact fun _ => bytes_cell (by omega) | (simp +contextual only [go_sem]; done) | fail, ?_⟩
  refine hkk _ (fun hb0 => ?_) (fun hb0 => ?_) <;> clear hkk kk
  · simp only [Bool.not_eq_true'] at hb0
    refine AWp_seq fun K4 h4 => ?_
    refine AWp_region tab_ok [] ?_
    simp only [go_sem, reduceIte, Nat.reduceEqDiff, Nat.reduceLT, decide_true, reduceCtorEq, Nat.reduceAdd, Nat.reduceBEq, Nat.reduceMul, Nat.reduceLeDiff, Int.reduceToNat]
    repeat refine ⟨by first | assumption | omega | exact True.intro | exact rfl | exact List.mem_cons_self | exact bytes_cell (by omega) | exact fun _ => bytes_cell (by omega) | (simp +contextual only [go_sem]; done) | fail, ?_⟩
    refine h4 _ _ ?_
    clear h4
    refine AWp_ret ?_
    refine retQ_ret ?_
    simp only [go_sem, reduceIte, Nat.reduceEqDiff, Nat.reduceLT, decide_true, reduceCtorEq, Nat.reduceAdd, Nat.reduceBEq, Nat.reduceMul, Nat.reduceLeDiff, Int.reduceToNat]
    repeat refine ⟨by first | assumption | omega | exact True.intro | exact rfl | exact List.mem_cons_self | exact bytes_cell (by omega) | exact fun _ => bytes_cell (by omega) | (simp +contextual only [go_sem]; done) | fail, ?_⟩
    rw [if_neg (by simp [hb0])] at hK
    exact hK
  · simp only [Bool.not_eq_false'] at hb0
    refine AWp_skip ?_
    refine h2 _ _ ?_
    refine AWp_seq fun K5 h5 => ?_
    refine AWp_region tab_ok [] ?_
    simp only [go_sem, reduceIte, Nat.reduceEqDiff, Nat.reduceLT, decide_true, reduceCtorEq, Nat.reduceAdd, Nat.reduceBEq, Nat.reduceMul, Nat.reduceLeDiff, Int.reduceToNat]
    repeat refine ⟨by first | assumption | omega | exact True.intro | exact rfl | exact List.mem_cons_self | exact bytes_cell (by omega) | exact fun _ => bytes_cell (by omega) | (simp +contextual only [go_sem]; done) | fail, ?_⟩
    refine h5 _ _ ?_
    clear h5
    refine AWp_ret ?_
    refine retQ_ret ?_
    simp only [go_sem, reduceIte, Nat.reduceEqDiff, Nat.reduceLT, decide_true, reduceCtorEq, Nat.reduceAdd, Nat.reduceBEq, Nat.reduceMul, Nat.reduceLeDiff, Int.reduceToNat]
    repeat refine ⟨by first | assumption | omega | exact True.intro | exact rfl | exact List.mem_cons_self | exact bytes_cell (by omega) | exact fun _ => bytes_cell (by omega) | (simp +contextual only [go_sem]; done) | fail, ?_⟩
    rw [if_pos hb0] at hK
    exact hK

theorem batchOne1_spec (H : Hp) (K : AV → Hp → Prop) (n : Int)  (hK : K (.sc (.bool (!idRight n))) H) :
    ACalls Go.Proofs.Try.prog 234 [.sc (.int .i64 n)] H K := by
  refine ACalls_fn tab_ok Go.Proofs.Try.func234 6 [.tmp 2] rfl rfl rfl rfl fun d => ?_
  refine AWp_seq fun K1 h1 => ?_
  refine AWp_region tab_ok [] ?_
  simp only [go_sem, reduceIte, Nat.reduceEqDiff, Nat.reduceLT, decide_true, reduceCtorEq, Nat.reduceAdd, Nat.reduceBEq, Nat.reduceMul, Nat.reduceLeDiff, Int.reduceToNat]
  repeat refine ⟨by first | assumption | omega | exact True.intro | exact rfl | exact List.mem_cons_self | exact bytes_cell (by omega) | exact fun _ => bytes_cell (by omega) | (simp +contextual only [go_sem]; done) | fail, ?_⟩
  refine h1 _ _ ?_
  clear h1
  refine AWp_seq fun K2 h2 => ?_
  refine AWp_region tab_ok [] ?_
  simp only [go_sem, reduceIte, Nat.reduceEqDiff, Nat.reduceLT, decide_true, reduceCtorEq, Nat.reduceAdd, Nat.reduceBEq, Nat.reduceMul, Nat.reduceLeDiff, Int.reduceToNat]
  repeat refine ⟨by first | assumption | omega | exact True.intro | exact rfl | exact List.mem_cons_self | exact bytes_cell (by omega) | exact fun _ => bytes_cell (by omega) | (simp +contextual only [go_sem]; done) | fail, ?_⟩
  refine poolIndex_spec _ _ _  ?_
  simp only [callK]
  simp only [go_sem, reduceIte, Nat.reduceEqDiff, Nat.reduceLT, decide_true, reduceCtorEq, Nat.reduceAdd, Nat.reduceBEq, Nat.reduceMul, Nat.reduceLeDiff, Int.reduceToNat]
  repeat refine ⟨by first | assumption | omega | exact True.intro | exact rfl | exact List.mem_cons_self | exact bytes_cell (by omega) | exact fun _ => bytes_cell (by omega) | (simp +contextual only [go_sem]; done) | fail, ?_⟩
  refine h2 _ _ ?_
  clear h2
  refine AWp_ret ?_
  refine retQ_ret ?_
  simp only [go_sem, reduceIte, Nat.reduceEqDiff, Nat.reduceLT, decide_true, reduceCtorEq, Nat.reduceAdd, Nat.reduceBEq, Nat.reduceMul, Nat.reduceLeDiff, Int.reduceToNat]
  repeat refine ⟨by first | assumption | omega | exact True.intro | exact rfl | exact List.mem_cons_self | exact bytes_cell (by omega) | exact fun _ => bytes_cell (by omega) | (simp +contextual only [go_sem]; done) | fail, ?_⟩
  have : decide ((if idRight n = true then n.tmod 256 else -1) < 0) = !idRight n := by
    cases h : idRight n
    · simp
    · simp only [idRight, Bool.and_eq_true, decide_eq_true_eq] at h
      have := Int.tmod_nonneg 256 h.1
      simp; omega
  rw [this]
  exact hK

theorem keyFits_spec (H : Hp) (K : AV → Hp → Prop) (l : List (Int × Nat)) (xs : List AV) (h_0 : xs = prs l) (h_1 : l.length < 2^63) (h_2 : ∀ q ∈ l, q.2 ≤ 60) (hK : K (.sc (.bool (fitsL l))) H) :
    ACalls Go.Proofs.Try.prog 268 [.lst 0 xs] H K := by
  refine ACalls_fn tab_ok Go.Proofs.Try.func268 23 [.tmp 2] rfl rfl rfl rfl fun d => ?_
  subst h_0
  refine AWp_seq fun K1 h1 => ?_
  refine AWp_region tab_ok [] ?_
  simp only [go_sem, reduceIte, Nat.reduceEqDiff, Nat.reduceLT, decide_true, reduceCtorEq, Nat.reduceAdd, Nat.reduceBEq, Nat.reduceMul, Nat.reduceLeDiff, Int.reduceToNat]
  repeat refine ⟨by first | assumption | omega | exact True.intro | exact rfl | exact prs_cell (by omega) | exact List.mem_cons_self | exact bytes_cell (by omega) | exact fun _ => bytes_cell (by omega) | (simp +contextual only [go_sem]; done) | fail, ?_⟩
  refine h1 _ _ ?_
  clear h1
  refine AWp_seq fun K2 h2 => ?_
  refine AWp_seq fun K3 h3 => ?_
  refine AWp_region tab_ok [] ?_
  simp only [go_sem, reduceIte, Nat.reduceEqDiff, Nat.reduceLT, decide_true, reduceCtorEq, Nat.reduceAdd, Nat.reduceBEq, Nat.reduceMul, Nat.reduceLeDiff, Int.reduceToNat]
  repeat refine ⟨by first | assumption | omega | exact True.intro | exact rfl | exact prs_cell (by omega) | exact List.mem_cons_self | exact bytes_cell (by omega) | exact fun _ => bytes_cell (by omega) | (simp +contextual only [go_sem]; done) | fail, ?_⟩
  refine h3 _ _ ?_
  clear h3
  refine AWp_block ?_
  refine AWp_loop_ind (ι := (Nat)) (fun (i : Nat) => [(7, .sc (.int .i64 i)), (6, .sc (.int .i64 l.length)), (5, .lst 0 (prs l))]) (fun (i : Nat) => H) (fun (i : Nat) => (i ≤ l.length) ∧ (((l.take i).any fun q => decide (q.1 < 0) || decide (q.1 ≥ 2 ^ q.2)) = false)) (fun (i : Nat) => l.length - i) 0 ?_ ?_ ?_ ?_
  · first | omega | exact True.intro | simp
  · exact fun _ _ h => h
  · simp only [go_sem, reduceIte, Nat.reduceEqDiff, Nat.reduceLT, decide_true, reduceCtorEq, Nat.reduceAdd, Nat.reduceBEq, Nat.reduceMul, Nat.reduceLeDiff, Int.reduceToNat]; first | done | exact True.intro | (repeat' apply And.intro) <;> first | rfl | exact True.intro
  rintro i ⟨hi0_0, hi0_1⟩ L0 hL0
  skip
  refine AWp_seq fun K4 h4 => ?_
  refine AWp_region tab_ok [] ?_
  simp only [go_sem, reduceIte, Nat.reduceEqDiff, Nat.reduceLT, decide_true, reduceCtorEq, Nat.reduceAdd, Nat.reduceBEq, Nat.reduceMul, Nat.reduceLeDiff, Int.reduceToNat]
  repeat refine ⟨by first | assumption | omega | exact True.intro | exact rfl | exact prs_cell (by omega) | exact List.mem_cons_self | exact bytes_cell (by omega) | exact fun _ => bytes_cell (by omega) | (simp +contextual only [go_sem]; done) | fail, ?_⟩
  refine h4 _ _ ?_
  clear h4
  refine AWp_seq fun K5 h5 => ?_
  refine AWp_if fun kk hkk => ?_
  simp only [go_sem, reduceIte, Nat.reduceEqDiff, Nat.reduceLT, decide_true, reduceCtorEq, Nat.reduceAdd, Nat.reduceBEq, Nat.reduceMul, Nat.reduceLeDiff, Int.reduceToNat]
  repeat refine ⟨by first | assumption | omega | exact True.intro | exact rfl | exact prs_cell (by omega) | exact List.mem_cons_self | exact bytes_cell (by omega) | exact fun _ => bytes_cell (by omega) | (simp +contextual only [go_sem]; done) | fail, ?_⟩
  refine hkk _ (fun hb0 => ?_) (fun hb0 => ?_) <;> clear hkk kk
  · try simp only [bne_iff_ne, ne_eq, bne_eq_false_iff_eq, beq_iff_eq, beq_eq_false_iff_ne, decide_eq_true_eq, decide_eq_false_iff_not, Bool.not_eq_true', Bool.not_eq_false', Bool.and_eq_true, Bool.and_eq_false_iff, Bool.or_eq_true, Bool.or_eq_false_iff, Int.natCast_inj, not_true_eq_false, not_false_eq_true] at hb0
    refine AWp_skip ?_
    refine h5 _ _ ?_
    refine AWp_seq fun K6 h6 => ?_
    refine AWp_block ?_
    refine AWp_seq fun K7 h7 => ?_
    refine AWp_region tab_ok [] ?_
    simp only [go_sem, reduceIte, Nat.reduceEqDiff, Nat.reduceLT, decide_true, reduceCtorEq, Nat.reduceAdd, Nat.reduceBEq, Nat.reduceMul, Nat.reduceLeDiff, Int.reduceToNat]
    try simp (disch := omega) only [prs_get]
    try simp only [go_sem, reduceIte, Nat.reduceEqDiff, Nat.reduceLT, decide_true, reduceCtorEq, Nat.reduceAdd, Nat.reduceBEq, Nat.reduceMul, Nat.reduceLeDiff, Int.reduceToNat]
    repeat refine ⟨by first | assumption | omega | exact True.intro | exact rfl | exact prs_cell (by omega) | exact List.mem_cons_self | exact bytes_cell (by omega) | exact fun _ => bytes_cell (by omega) | (simp +contextual only [go_sem]; done) | fail, ?_⟩
    refine fun B0 hB0 => ?_
    repeat (first | replace hB0 := ite_none hB0 | replace hB0 := hset_none hB0)
    try simp only [go_sem, reduceIte, Nat.reduceEqDiff, Nat.reduceLT, decide_true, reduceCtorEq, Nat.reduceAdd, Nat.reduceBEq, Nat.reduceMul, Nat.reduceLeDiff, Int.reduceToNat]
    repeat refine ⟨by first | assumption | omega | exact True.intro | exact rfl | exact prs_cell (by omega) | exact List.mem_cons_self | exact bytes_cell (by omega) | exact fun _ => bytes_cell (by omega) | (simp +contextual only [go_sem]; done) | fail, ?_⟩
    refine h7 _ _ ?_
    clear h7
    refine AWp_seq fun K8 h8 => ?_
    refine AWp_draw tab_ok (by kernel_rfl) (q := [0, 1, 2, 3, 4, 5, 6, 7, 8, 9, 10]) (tk := []) (cv := fun _ => none) (by kernel_rfl) ?_
    simp only [go_sem, reduceIte, Nat.reduceEqDiff, Nat.reduceLT, decide_true, reduceCtorEq, Nat.reduceAdd, Nat.reduceBEq, Nat.reduceMul, Nat.reduceLeDiff, Int.reduceToNat]
    rw [shl1 (h_2 _ (List.getElem_mem (by omega)))]
    repeat refine ⟨by first | assumption | omega | exact True.intro | exact rfl | exact prs_cell (by omega) | exact List.mem_cons_self | exact bytes_cell (by omega) | exact fun _ => bytes_cell (by omega) | (simp +contextual only [go_sem]; done) | fail, ?_⟩
    refine h8 _ _ ?_
    clear h8
    refine AWp_if fun kk hkk => ?_
    simp only [go_sem, reduceIte, Nat.reduceEqDiff, Nat.reduceLT, decide_true, reduceCtorEq, Nat.reduceAdd, Nat.reduceBEq, Nat.reduceMul, Nat.reduceLeDiff, Int.reduceToNat]
    repeat refine ⟨by first | assumption | omega | exact True.intro | exact rfl | exact prs_cell (by omega) | exact List.mem_cons_self | exact bytes_cell (by omega) | exact fun _ => bytes_cell (by omega) | (simp +contextual only [go_sem]; done) | fail, ?_⟩
    refine hkk _ (fun hb1 => ?_) (fun hb1 => ?_) <;> clear hkk kk
    · refine AWp_seq fun K9 h9 => ?_
      refine AWp_region tab_ok [] ?_
      simp only [go_sem, reduceIte, Nat.reduceEqDiff, Nat.reduceLT, decide_true, reduceCtorEq, Nat.reduceAdd, Nat.reduceBEq, Nat.reduceMul, Nat.reduceLeDiff, Int.reduceToNat]
      repeat refine ⟨by first | assumption | omega | exact True.intro | exact rfl | exact prs_cell (by omega) | exact List.mem_cons_self | exact bytes_cell (by omega) | exact fun _ => bytes_cell (by omega) | (simp +contextual only [go_sem]; done) | fail, ?_⟩
      refine h9 _ _ ?_
      clear h9
      refine AWp_ret ?_
      refine retQ_mk H (by first | exact fun _ _ h => h | assumption | exact Fr_weak (by repeat (first | exact Fr_refl _ _ | refine Fr_new (by assumption) ?_ | refine Fr_old (by simp only [List.map_cons, List.mem_cons, true_or, or_true]) ?_))) (.inr rfl) ?_
      simp only [go_sem, reduceIte, Nat.reduceEqDiff, Nat.reduceLT, decide_true, reduceCtorEq, Nat.reduceAdd, Nat.reduceBEq, Nat.reduceMul, Nat.reduceLeDiff, Int.reduceToNat]
      repeat refine ⟨by first | assumption | omega | exact True.intro | exact rfl | exact prs_cell (by omega) | exact List.mem_cons_self | exact bytes_cell (by omega) | exact fun _ => bytes_cell (by omega) | (simp +contextual only [go_sem]; done) | fail, ?_⟩
      have : fitsL l = false := by
        simp only [fitsL, Bool.not_eq_false']
        exact List.any_eq_true.2 ⟨_, List.getElem_mem (by omega), hb1⟩
      rw [this] at hK
      exact hK
    · refine AWp_skip ?_
      refine h6 _ _ ?_
      refine AWp_region tab_ok [] ?_
      simp only [go_sem, reduceIte, Nat.reduceEqDiff, Nat.reduceLT, decide_true, reduceCtorEq, Nat.reduceAdd, Nat.reduceBEq, Nat.reduceMul, Nat.reduceLeDiff, Int.reduceToNat]
      try simp (disch := omega) only [wrap64]
      repeat refine ⟨by first | assumption | omega | exact True.intro | exact rfl | exact prs_cell (by omega) | exact List.mem_cons_self | exact bytes_cell (by omega) | exact fun _ => bytes_cell (by omega) | (simp +contextual only [go_sem]; done) | fail, ?_⟩
      refine hL0 (i + 1) _ _ ?_ ?_ (hset_weak hB0) ?_
      · refine ⟨by omega, ?_⟩; rw [any_take_succ (by omega), hi0_1, hb1]; rfl
      · omega
      · simp only [go_sem, reduceIte, Nat.reduceEqDiff, Nat.reduceLT, decide_true, reduceCtorEq, Nat.reduceAdd, Nat.reduceBEq, Nat.reduceMul, Nat.reduceLeDiff, Int.reduceToNat]; first | done | exact True.intro | (repeat' apply And.intro) <;> first | rfl | exact True.intro
  · try simp only [bne_iff_ne, ne_eq, bne_eq_false_iff_eq, beq_iff_eq, beq_eq_false_iff_ne, decide_eq_true_eq, decide_eq_false_iff_not, Bool.not_eq_true', Bool.not_eq_false', Bool.and_eq_true, Bool.and_eq_false_iff, Bool.or_eq_true, Bool.or_eq_false_iff, Int.natCast_inj, not_true_eq_false, not_false_eq_true] at hb0
    refine AWp_exit ?_
    refine h2 _ _ ?_
    refine AWp_seq fun K10 h10 => ?_
    refine AWp_region tab_ok [] ?_
    simp only [go_sem, reduceIte, Nat.reduceEqDiff, Nat.reduceLT, decide_true, reduceCtorEq, Nat.reduceAdd, Nat.reduceBEq, Nat.reduceMul, Nat.reduceLeDiff, Int.reduceToNat]
    repeat refine ⟨by first | assumption | omega | exact True.intro | exact rfl | exact prs_cell (by omega) | exact List.mem_cons_self | exact bytes_cell (by omega) | exact fun _ => bytes_cell (by omega) | (simp +contextual only [go_sem]; done) | fail, ?_⟩
    refine h10 _ _ ?_
    clear h10
    refine AWp_ret ?_
    refine retQ_mk H (by first | exact fun _ _ h => h | assumption | exact Fr_weak (by repeat (first | exact Fr_refl _ _ | refine Fr_new (by assumption) ?_ | refine Fr_old (by simp only [List.map_cons, List.mem_cons, true_or, or_true]) ?_))) (.inr rfl) ?_
    simp only [go_sem, reduceIte, Nat.reduceEqDiff, Nat.reduceLT, decide_true, reduceCtorEq, Nat.reduceAdd, Nat.reduceBEq, Nat.reduceMul, Nat.reduceLeDiff, Int.reduceToNat]
    repeat refine ⟨by first | assumption | omega | exact True.intro | exact rfl | exact prs_cell (by omega) | exact List.mem_cons_self | exact bytes_cell (by omega) | exact fun _ => bytes_cell (by omega) | (simp +contextual only [go_sem]; done) | fail, ?_⟩
    rw [show i = l.length by omega, List.take_length] at hi0_1
    rw [show fitsL l = true from by simp only [fitsL, hi0_1]; rfl] at hK
    exact hK

theorem keyRight_spec (H : Hp) (K : AV → Hp → Prop) (a0 a1 a3 a4 a5 a6 : Int) (c : Bool)  (hK : K (.sc (.bool (keyRight a0 a1 a3 a4 a5))) H) :
    ACalls Go.Proofs.Try.prog 233 [.agg [.sc (.int .i64 a0), .sc (.int .i64 a1), .sc (.bool c), .sc (.int .i64 a3), .sc (.int .i64 a4), .sc (.int .i64 a5), .sc (.int .i64 a6)]] H K := by
  refine ACalls_fn tab_ok Go.Proofs.Try.func233 20 [.tmp 2] rfl rfl rfl rfl fun d => ?_
  refine AWp_seq fun K1 h1 => ?_
  refine AWp_region tab_ok [] ?_
  simp only [go_sem, reduceIte, Nat.reduceEqDiff, Nat.reduceLT, decide_true, reduceCtorEq, Nat.reduceAdd, Nat.reduceBEq, Nat.reduceMul, Nat.reduceLeDiff, Int.reduceToNat]
  repeat refine ⟨by first | assumption | omega | exact True.intro | exact rfl | exact List.mem_cons_self | exact bytes_cell (by omega) | exact fun _ => bytes_cell (by omega) | (simp +contextual only [go_sem]; done) | fail, ?_⟩
  refine fun B0 hB0 => ?_
  repeat (first | replace hB0 := ite_none hB0 | replace hB0 := hset_none hB0)
  try simp only [go_sem, reduceIte, Nat.reduceEqDiff, Nat.reduceLT, decide_true, reduceCtorEq, Nat.reduceAdd, Nat.reduceBEq, Nat.reduceMul, Nat.reduceLeDiff, Int.reduceToNat]
  repeat refine ⟨by first | assumption | omega | exact True.intro | exact rfl | exact List.mem_cons_self | exact bytes_cell (by omega) | exact fun _ => bytes_cell (by omega) | (simp +contextual only [go_sem]; done) | fail, ?_⟩
  refine h1 _ _ ?_
  clear h1
  refine AWp_seq fun K2 h2 => ?_
  refine AWp_region tab_ok [] ?_
  simp only [go_sem, reduceIte, Nat.reduceEqDiff, Nat.reduceLT, decide_true, reduceCtorEq, Nat.reduceAdd, Nat.reduceBEq, Nat.reduceMul, Nat.reduceLeDiff, Int.reduceToNat]
  repeat refine ⟨by first | assumption | omega | exact True.intro | exact rfl | exact List.mem_cons_self | exact bytes_cell (by omega) | exact fun _ => bytes_cell (by omega) | (simp +contextual only [go_sem]; done) | fail, ?_⟩
  refine keyFits_spec _ _ [(a0, 4), (a1, 2), (a3, 6), (a4, 8), (a5, 8)] _ rfl (by simp) (by simp) ?_
  simp only [callK]
  simp only [go_sem, reduceIte, Nat.reduceEqDiff, Nat.reduceLT, decide_true, reduceCtorEq, Nat.reduceAdd, Nat.reduceBEq, Nat.reduceMul, Nat.reduceLeDiff, Int.reduceToNat]
  repeat refine ⟨by first | assumption | omega | exact True.intro | exact rfl | exact List.mem_cons_self | exact bytes_cell (by omega) | exact fun _ => bytes_cell (by omega) | (simp +contextual only [go_sem]; done) | fail, ?_⟩
  refine h2 _ _ ?_
  clear h2
  refine AWp_ret ?_
  refine retQ_mk H (by first | exact fun _ _ h => h | assumption | exact Fr_weak (by repeat (first | exact Fr_refl _ _ | refine Fr_new (by assumption) ?_ | refine Fr_old (by simp only [List.map_cons, List.mem_cons, true_or, or_true]) ?_))) (.inr rfl) ?_
  simp only [go_sem, reduceIte, Nat.reduceEqDiff, Nat.reduceLT, decide_true, reduceCtorEq, Nat.reduceAdd, Nat.reduceBEq, Nat.reduceMul, Nat.reduceLeDiff, Int.reduceToNat]
  repeat refine ⟨by first | assumption | omega | exact True.intro | exact rfl | exact List.mem_cons_self | exact bytes_cell (by omega) | exact fun _ => bytes_cell (by omega) | (simp +contextual only [go_sem]; done) | fail, ?_⟩
  exact hK

theorem batchOne_spec (H : Hp) (K : AV → Hp → Prop) (b : Bt) (h_0 : b.ids.length < 2^63) (hK : K (.sc (.bool (btRight b))) H) :
    ACalls Go.Proofs.Try.prog 189 [.agg [.sc (.int .i64 b.a0), .sc (.int .i64 b.a1), .sc (.bool b.clear), .sc (.int .i64 b.a3), .sc (.int .i64 b.a4), .sc (.int .i64 b.a5), .lst 0 (ints b.ids)]] H K := by
  refine ACalls_fn tab_ok Go.Proofs.Try.func189 33 [.tmp 2] rfl rfl rfl rfl fun d => ?_
  refine AWp_seq fun K1 h1 => ?_
  refine AWp_region tab_ok [] ?_
  simp only [go_sem, reduceIte, Nat.reduceEqDiff, Nat.reduceLT, decide_true, reduceCtorEq, Nat.reduceAdd, Nat.reduceBEq, Nat.reduceMul, Nat.reduceLeDiff, Int.reduceToNat]
  repeat refine ⟨by first | assumption | omega | exact True.intro | exact rfl | exact List.mem_cons_self | exact bytes_cell (by omega) | exact fun _ => bytes_cell (by omega) | (simp +contextual only [go_sem]; done) | fail, ?_⟩
  refine fun B0 hB0 => ?_
  repeat (first | replace hB0 := ite_none hB0 | replace hB0 := hset_none hB0)
  try simp only [go_sem, reduceIte, Nat.reduceEqDiff, Nat.reduceLT, decide_true, reduceCtorEq, Nat.reduceAdd, Nat.reduceBEq, Nat.reduceMul, Nat.reduceLeDiff, Int.reduceToNat]
  repeat refine ⟨by first | assumption | omega | exact True.intro | exact rfl | exact List.mem_cons_self | exact bytes_cell (by omega) | exact fun _ => bytes_cell (by omega) | (simp +contextual only [go_sem]; done) | fail, ?_⟩
  refine h1 _ _ ?_
  clear h1
  refine AWp_seq fun K2 h2 => ?_
  refine AWp_region tab_ok [] ?_
  simp only [go_sem, reduceIte, Nat.reduceEqDiff, Nat.reduceLT, decide_true, reduceCtorEq, Nat.reduceAdd, Nat.reduceBEq, Nat.reduceMul, Nat.reduceLeDiff, Int.reduceToNat]
  repeat refine ⟨by first | assumption | omega | exact True.intro | exact rfl | exact List.mem_cons_self | exact bytes_cell (by omega) | exact fun _ => bytes_cell (by omega) | (simp +contextual only [go_sem]; done) | fail, ?_⟩
  refine keyRight_spec _ _ _ _ _ _ _ _ _  ?_
  simp only [callK]
  simp only [go_sem, reduceIte, Nat.reduceEqDiff, Nat.reduceLT, decide_true, reduceCtorEq, Nat.reduceAdd, Nat.reduceBEq, Nat.reduceMul, Nat.reduceLeDiff, Int.reduceToNat]
  repeat refine ⟨by first | assumption | omega | exact True.intro | exact rfl | exact List.mem_cons_self | exact bytes_cell (by omega) | exact fun _ => bytes_cell (by omega) | (simp +contextual only [go_sem]; done) | fail, ?_⟩
  first | refine gcall_of _ (fun hG => ⟨by (first | assumption | omega | exact True.intro | (simp only [go_sem, reduceIte, Nat.reduceEqDiff, Nat.reduceLT, decide_true, reduceCtorEq, Nat.reduceAdd, Nat.reduceBEq, Nat.reduceMul, Nat.reduceLeDiff, Int.reduceToNat] <;> rfl)), hasID_spec _ _ 234 (fun n => !idRight n) _ (by omega) (fun n _ H K hK => batchOne1_spec H K n hK) ⟨rfl, rfl⟩⟩) ?_ | refine gcall_of _ (fun hG => hasID_spec _ _ 234 (fun n => !idRight n) _ (by omega) (fun n _ H K hK => batchOne1_spec H K n hK) ⟨rfl, rfl⟩) ?_ | refine gcall_of _ (hasID_spec _ _ 234 (fun n => !idRight n) _ (by omega) (fun n _ H K hK => batchOne1_spec H K n hK) ⟨rfl, rfl⟩) ?_ | refine gcall_of _ ⟨by (first | assumption | omega | exact True.intro | (simp only [go_sem, reduceIte, Nat.reduceEqDiff, Nat.reduceLT, decide_true, reduceCtorEq, Nat.reduceAdd, Nat.reduceBEq, Nat.reduceMul, Nat.reduceLeDiff, Int.reduceToNat] <;> rfl)), hasID_spec _ _ 234 (fun n => !idRight n) _ (by omega) (fun n _ H K hK => batchOne1_spec H K n hK) ⟨rfl, rfl⟩⟩ ?_
  simp only [go_sem, reduceIte, Nat.reduceEqDiff, Nat.reduceLT, decide_true, reduceCtorEq, Nat.reduceAdd, Nat.reduceBEq, Nat.reduceMul, Nat.reduceLeDiff, Int.reduceToNat]
  repeat refine ⟨by first | assumption | omega | exact True.intro | exact rfl | exact List.mem_cons_self | exact bytes_cell (by omega) | exact fun _ => bytes_cell (by omega) | (simp +contextual only [go_sem]; done) | fail, ?_⟩
  refine h2 _ _ ?_
  clear h2
  refine AWp_ret ?_
  refine retQ_mk H (by first | exact fun _ _ h => h | assumption | exact Fr_weak (by repeat (first | exact Fr_refl _ _ | refine Fr_new (by assumption) ?_ | refine Fr_old (by simp only [List.map_cons, List.mem_cons, true_or, or_true]) ?_))) (.inr rfl) ?_
  simp only [go_sem, reduceIte, Nat.reduceEqDiff, Nat.reduceLT, decide_true, reduceCtorEq, Nat.reduceAdd, Nat.reduceBEq, Nat.reduceMul, Nat.reduceLeDiff, Int.reduceToNat]
  repeat refine ⟨by first | assumption | omega | exact True.intro | exact rfl | exact List.mem_cons_self | exact bytes_cell (by omega) | exact fun _ => bytes_cell (by omega) | (simp +contextual only [go_sem]; done) | fail, ?_⟩
  exact hK

theorem batchRight1_spec (H : Hp) (K : AV → Hp → Prop) (b : Bt) (h_0 : b.ids.length < 2^63) (hK : K (.sc (.bool (!btRight b))) H) :
    ACalls Go.Proofs.Try.prog 188 [.agg [.sc (.int .i64 b.a0), .sc (.int .i64 b.a1), .sc (.bool b.clear), .sc (.int .i64 b.a3), .sc (.int .i64 b.a4), .sc (.int .i64 b.a5), .lst 0 (ints b.ids)]] H K := by
  refine ACalls_fn tab_ok Go.Proofs.Try.func188 6 [.tmp 2] rfl rfl rfl rfl fun d => ?_
  refine AWp_seq fun K1 h1 => ?_
  refine AWp_region tab_ok [] ?_
  simp only [go_sem, reduceIte, Nat.reduceEqDiff, Nat.reduceLT, decide_true, reduceCtorEq, Nat.reduceAdd, Nat.reduceBEq, Nat.reduceMul, Nat.reduceLeDiff, Int.reduceToNat]
  repeat refine ⟨by first | assumption | omega | exact True.intro | exact rfl | exact List.mem_cons_self | exact bytes_cell (by omega) | exact fun _ => bytes_cell (by omega) | (simp +contextual only [go_sem]; done) | fail, ?_⟩
  refine fun B0 hB0 => ?_
  repeat (first | replace hB0 := ite_none hB0 | replace hB0 := hset_none hB0)
  try simp only [go_sem, reduceIte, Nat.reduceEqDiff, Nat.reduceLT, decide_true, reduceCtorEq, Nat.reduceAdd, Nat.reduceBEq, Nat.reduceMul, Nat.reduceLeDiff, Int.reduceToNat]
  repeat refine ⟨by first | assumption | omega | exact True.intro | exact rfl | exact List.mem_cons_self | exact bytes_cell (by omega) | exact fun _ => bytes_cell (by omega) | (simp +contextual only [go_sem]; done) | fail, ?_⟩
  refine h1 _ _ ?_
  clear h1
  refine AWp_seq fun K2 h2 => ?_
  refine AWp_region tab_ok [] ?_
  simp only [go_sem, reduceIte, Nat.reduceEqDiff, Nat.reduceLT, decide_true, reduceCtorEq, Nat.reduceAdd, Nat.reduceBEq, Nat.reduceMul, Nat.reduceLeDiff, Int.reduceToNat]
  repeat refine ⟨by first | assumption | omega | exact True.intro | exact rfl | exact List.mem_cons_self | exact bytes_cell (by omega) | exact fun _ => bytes_cell (by omega) | (simp +contextual only [go_sem]; done) | fail, ?_⟩
  refine batchOne_spec _ _ b h_0 ?_
  simp only [callK]
  simp only [go_sem, reduceIte, Nat.reduceEqDiff, Nat.reduceLT, decide_true, reduceCtorEq, Nat.reduceAdd, Nat.reduceBEq, Nat.reduceMul, Nat.reduceLeDiff, Int.reduceToNat]
  repeat refine ⟨by first | assumption | omega | exact True.intro | exact rfl | exact List.mem_cons_self | exact bytes_cell (by omega) | exact fun _ => bytes_cell (by omega) | (simp +contextual only [go_sem]; done) | fail, ?_⟩
  refine h2 _ _ ?_
  clear h2
  refine AWp_ret ?_
  refine retQ_mk H (by first | exact fun _ _ h => h | assumption | exact Fr_weak (by repeat (first | exact Fr_refl _ _ | refine Fr_new (by assumption) ?_ | refine Fr_old (by simp only [List.map_cons, List.mem_cons, true_or, or_true]) ?_))) (.inr rfl) ?_
  simp only [go_sem, reduceIte, Nat.reduceEqDiff, Nat.reduceLT, decide_true, reduceCtorEq, Nat.reduceAdd, Nat.reduceBEq, Nat.reduceMul, Nat.reduceLeDiff, Int.reduceToNat]
  repeat refine ⟨by first | assumption | omega | exact True.intro | exact rfl | exact List.mem_cons_self | exact bytes_cell (by omega) | exact fun _ => bytes_cell (by omega) | (simp +contextual only [go_sem]; done) | fail, ?_⟩
  exact hK

theorem batchRight_spec (H : Hp) (K : AV → Hp → Prop) (l : List Bt) (h_0 : l.length < 2^63) (h_1 : ∀ b ∈ l, b.ids.length < 2^63) (hK : K (.sc (.bool (btsRight l))) H) :
    ACalls Go.Proofs.Try.prog 146 [.lst 0 (bts l)] H K := by
  refine ACalls_fn tab_ok Go.Proofs.Try.func146 6 [.tmp 2] rfl rfl rfl rfl fun d => ?_
  refine AWp_seq fun K1 h1 => ?_
  refine AWp_region tab_ok [] ?_
  simp only [go_sem, reduceIte, Nat.reduceEqDiff, Nat.reduceLT, decide_true, reduceCtorEq, Nat.reduceAdd, Nat.reduceBEq, Nat.reduceMul, Nat.reduceLeDiff, Int.reduceToNat]
  repeat refine ⟨by first | assumption | omega | exact True.intro | exact rfl | exact List.mem_cons_self | exact bytes_cell (by omega) | exact fun _ => bytes_cell (by omega) | (simp +contextual only [go_sem]; done) | fail, ?_⟩
  refine h1 _ _ ?_
  clear h1
  refine AWp_seq fun K2 h2 => ?_
  refine AWp_region tab_ok [] ?_
  simp only [go_sem, reduceIte, Nat.reduceEqDiff, Nat.reduceLT, decide_true, reduceCtorEq, Nat.reduceAdd, Nat.reduceBEq, Nat.reduceMul, Nat.reduceLeDiff, Int.reduceToNat]
  repeat refine ⟨by first | assumption | omega | exact True.intro | exact rfl | exact List.mem_cons_self | exact bytes_cell (by omega) | exact fun _ => bytes_cell (by omega) | (simp +contextual only [go_sem]; done) | fail, ?_⟩
  refine hasBatch_spec _ _ 188 (fun b => !btRight b) _ (by omega) (fun b hb H K hK => batchRight1_spec H K b (h_1 b hb) hK) ?_
  simp only [callK]
  simp only [go_sem, reduceIte, Nat.reduceEqDiff, Nat.reduceLT, decide_true, reduceCtorEq, Nat.reduceAdd, Nat.reduceBEq, Nat.reduceMul, Nat.reduceLeDiff, Int.reduceToNat]
  repeat refine ⟨by first | assumption | omega | exact True.intro | exact rfl | exact List.mem_cons_self | exact bytes_cell (by omega) | exact fun _ => bytes_cell (by omega) | (simp +contextual only [go_sem]; done) | fail, ?_⟩
  refine h2 _ _ ?_
  clear h2
  refine AWp_ret ?_
  refine retQ_ret ?_
  simp only [go_sem, reduceIte, Nat.reduceEqDiff, Nat.reduceLT, decide_true, reduceCtorEq, Nat.reduceAdd, Nat.reduceBEq, Nat.reduceMul, Nat.reduceLeDiff, Int.reduceToNat]
  repeat refine ⟨by first | assumption | omega | exact True.intro | exact rfl | exact List.mem_cons_self | exact bytes_cell (by omega) | exact fun _ => bytes_cell (by omega) | (simp +contextual only [go_sem]; done) | fail, ?_⟩
  exact hK

end Go.Ab
