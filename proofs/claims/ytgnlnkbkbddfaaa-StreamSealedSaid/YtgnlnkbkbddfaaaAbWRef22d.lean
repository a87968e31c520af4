/- Ab.WRef22d: what the reference reads of a stream; equal batches. -/
import Derived.Test.YtgnlnkbkbddfaaaAbWRef22c
namespace Go.Ab
set_option maxHeartbeats 1000000
set_option linter.unusedSimpArgs false

set_option maxRecDepth 100000 in
theorem decode22_spec (H : Hp) (K : AV → Hp → Prop) (xs : List (BitVec 8)) (h_0 : xs.length < 2^28) (hK : K (.tup [.sc (.int .i64 (decodeL xs).1), .lst 0 (bts (decodeL xs).2.1), .sc (.int .i64 (decodeL xs).2.2)]) H) :
    ACalls Go.Proofs.Try.prog 15 [.lst 0 (bytes xs)] H K := by
  refine ACalls_fn tab_ok Go.Proofs.Try.func15 85 [.tmp 2, .tmp 3, .tmp 4] rfl rfl rfl rfl fun d => ?_
  have hol := openOf_len xs
  refine AWp_seq fun K1 h1 => ?_
  refine AWp_region tab_ok [] ?_
  simp only [go_sem, reduceIte, Nat.reduceEqDiff, Nat.reduceLT, decide_true, reduceCtorEq, Nat.reduceAdd, Nat.reduceBEq, Nat.reduceMul, Nat.reduceLeDiff, Int.reduceToNat]
  repeat refine ⟨by first | assumption | omega | exact True.intro | exact rfl | exact bts_cells _ | exact bytes_all _ | exact fun h => ⟨h, bytes_all _⟩ | exact fun h => ⟨h, refLeft_spec _ _ (allL r3 n).2 B0 (by simp only [go_sem, reduceIte, Nat.reduceEqDiff, Nat.reduceLT, decide_true, reduceCtorEq, Nat.reduceAdd, Nat.reduceBEq, Nat.reduceMul, Nat.reduceLeDiff, Int.reduceToNat]) ⟨rfl, rfl⟩⟩ | exact fun h => ⟨h, bytes22_spec _ _ (fr : Nat) (allL r3 n).1.2 (by omega) hids ⟨rfl, rfl⟩⟩ | exact fun h => by simpa using h | exact List.mem_cons_self | exact bytes_cell (by omega) | exact fun _ => bytes_cell (by omega) | (simp +contextual only [go_sem]; done) | fail, ?_⟩
  refine h1 _ _ ?_
  clear h1
  refine AWp_seq fun K2 h2 => ?_
  refine AWp_seq fun K3 h3 => ?_
  refine AWp_region tab_ok [] ?_
  simp only [go_sem, reduceIte, Nat.reduceEqDiff, Nat.reduceLT, decide_true, reduceCtorEq, Nat.reduceAdd, Nat.reduceBEq, Nat.reduceMul, Nat.reduceLeDiff, Int.reduceToNat]
  repeat refine ⟨by first | assumption | omega | exact True.intro | exact rfl | exact bts_cells _ | exact bytes_all _ | exact fun h => ⟨h, bytes_all _⟩ | exact fun h => ⟨h, refLeft_spec _ _ (allL r3 n).2 B0 (by simp only [go_sem, reduceIte, Nat.reduceEqDiff, Nat.reduceLT, decide_true, reduceCtorEq, Nat.reduceAdd, Nat.reduceBEq, Nat.reduceMul, Nat.reduceLeDiff, Int.reduceToNat]) ⟨rfl, rfl⟩⟩ | exact fun h => ⟨h, bytes22_spec _ _ (fr : Nat) (allL r3 n).1.2 (by omega) hids ⟨rfl, rfl⟩⟩ | exact fun h => by simpa using h | exact List.mem_cons_self | exact bytes_cell (by omega) | exact fun _ => bytes_cell (by omega) | (simp +contextual only [go_sem]; done) | fail, ?_⟩
  refine h3 _ _ ?_
  clear h3
  refine AWp_if fun kk hkk => ?_
  simp only [go_sem, reduceIte, Nat.reduceEqDiff, Nat.reduceLT, decide_true, reduceCtorEq, Nat.reduceAdd, Nat.reduceBEq, Nat.reduceMul, Nat.reduceLeDiff, Int.reduceToNat]
  repeat refine ⟨by first | assumption | omega | exact True.intro | exact rfl | exact bts_cells _ | exact bytes_all _ | exact fun h => ⟨h, bytes_all _⟩ | exact fun h => ⟨h, refLeft_spec _ _ (allL r3 n).2 B0 (by simp only [go_sem, reduceIte, Nat.reduceEqDiff, Nat.reduceLT, decide_true, reduceCtorEq, Nat.reduceAdd, Nat.reduceBEq, Nat.reduceMul, Nat.reduceLeDiff, Int.reduceToNat]) ⟨rfl, rfl⟩⟩ | exact fun h => ⟨h, bytes22_spec _ _ (fr : Nat) (allL r3 n).1.2 (by omega) hids ⟨rfl, rfl⟩⟩ | exact fun h => by simpa using h | exact List.mem_cons_self | exact bytes_cell (by omega) | exact fun _ => bytes_cell (by omega) | (simp +contextual only [go_sem]; done) | fail, ?_⟩
  refine hkk _ (fun hb0 => ?_) (fun hb0 => ?_) <;> clear hkk kk
  · simp only [bne_iff_ne, ne_eq, bne_eq_false_iff_eq, beq_iff_eq, beq_eq_false_iff_ne, decide_eq_true_eq, decide_eq_false_iff_not, Bool.not_eq_true', Bool.not_eq_false', Bool.and_eq_true, Bool.and_eq_false_iff, Bool.or_eq_true, Bool.or_eq_false_iff, Int.natCast_inj, not_true_eq_false, not_false_eq_true] at hb0
    refine AWp_seq fun K4 h4 => ?_
    refine AWp_region tab_ok [] ?_
    simp only [go_sem, reduceIte, Nat.reduceEqDiff, Nat.reduceLT, decide_true, reduceCtorEq, Nat.reduceAdd, Nat.reduceBEq, Nat.reduceMul, Nat.reduceLeDiff, Int.reduceToNat]
    repeat refine ⟨by first | assumption | omega | exact True.intro | exact rfl | exact bts_cells _ | exact bytes_all _ | exact fun h => ⟨h, bytes_all _⟩ | exact fun h => ⟨h, refLeft_spec _ _ (allL r3 n).2 B0 (by simp only [go_sem, reduceIte, Nat.reduceEqDiff, Nat.reduceLT, decide_true, reduceCtorEq, Nat.reduceAdd, Nat.reduceBEq, Nat.reduceMul, Nat.reduceLeDiff, Int.reduceToNat]) ⟨rfl, rfl⟩⟩ | exact fun h => ⟨h, bytes22_spec _ _ (fr : Nat) (allL r3 n).1.2 (by omega) hids ⟨rfl, rfl⟩⟩ | exact fun h => by simpa using h | exact List.mem_cons_self | exact bytes_cell (by omega) | exact fun _ => bytes_cell (by omega) | (simp +contextual only [go_sem]; done) | fail, ?_⟩
    refine h4 _ _ ?_
    clear h4
    refine AWp_fzE (l := [.tmp 2, .tmp 3, .tmp 4]) ?_
    refine AWp_ret ?_
    refine retQ_mk H (by first | exact fun _ _ h => h | assumption | exact Fr_weak (by repeat (first | exact Fr_refl _ _ | refine Fr_new (by assumption) ?_ | refine Fr_old (by simp only [List.map_cons, List.mem_cons, true_or, or_true]) ?_))) (.inr rfl) ?_
    simp only [go_sem, reduceIte, Nat.reduceEqDiff, Nat.reduceLT, decide_true, reduceCtorEq, Nat.reduceAdd, Nat.reduceBEq, Nat.reduceMul, Nat.reduceLeDiff, Int.reduceToNat]
    repeat refine ⟨by first | assumption | omega | exact True.intro | exact rfl | exact bts_cells _ | exact bytes_all _ | exact fun h => ⟨h, bytes_all _⟩ | exact fun h => ⟨h, refLeft_spec _ _ (allL r3 n).2 B0 (by simp only [go_sem, reduceIte, Nat.reduceEqDiff, Nat.reduceLT, decide_true, reduceCtorEq, Nat.reduceAdd, Nat.reduceBEq, Nat.reduceMul, Nat.reduceLeDiff, Int.reduceToNat]) ⟨rfl, rfl⟩⟩ | exact fun h => ⟨h, bytes22_spec _ _ (fr : Nat) (allL r3 n).1.2 (by omega) hids ⟨rfl, rfl⟩⟩ | exact fun h => by simpa using h | exact List.mem_cons_self | exact bytes_cell (by omega) | exact fun _ => bytes_cell (by omega) | (simp +contextual only [go_sem]; done) | fail, ?_⟩
    rw [show decodeL xs = (0, [], 2) from by rw [decodeL, if_pos (by omega)]] at hK
    exact hK
  · simp only [bne_iff_ne, ne_eq, bne_eq_false_iff_eq, beq_iff_eq, beq_eq_false_iff_ne, decide_eq_true_eq, decide_eq_false_iff_not, Bool.not_eq_true', Bool.not_eq_false', Bool.and_eq_true, Bool.and_eq_false_iff, Bool.or_eq_true, Bool.or_eq_false_iff, Int.natCast_inj, not_true_eq_false, not_false_eq_true] at hb0
    refine AWp_skip ?_
    refine h2 _ _ ?_
    refine AWp_seq fun K5 h5 => ?_
    refine AWp_region tab_ok [] ?_
    simp only [go_sem, reduceIte, Nat.reduceEqDiff, Nat.reduceLT, decide_true, reduceCtorEq, Nat.reduceAdd, Nat.reduceBEq, Nat.reduceMul, Nat.reduceLeDiff, Int.reduceToNat]
    repeat refine ⟨by first | assumption | omega | exact True.intro | exact rfl | exact bts_cells _ | exact bytes_all _ | exact fun h => ⟨h, bytes_all _⟩ | exact fun h => ⟨h, refLeft_spec _ _ (allL r3 n).2 B0 (by simp only [go_sem, reduceIte, Nat.reduceEqDiff, Nat.reduceLT, decide_true, reduceCtorEq, Nat.reduceAdd, Nat.reduceBEq, Nat.reduceMul, Nat.reduceLeDiff, Int.reduceToNat]) ⟨rfl, rfl⟩⟩ | exact fun h => ⟨h, bytes22_spec _ _ (fr : Nat) (allL r3 n).1.2 (by omega) hids ⟨rfl, rfl⟩⟩ | exact fun h => by simpa using h | exact List.mem_cons_self | exact bytes_cell (by omega) | exact fun _ => bytes_cell (by omega) | (simp +contextual only [go_sem]; done) | fail, ?_⟩
    refine refOpen_spec _ _ _ (by (first | assumption | omega | exact True.intro | exact bts_cells _ | exact bytes_all _ | exact fun h => ⟨h, bytes_all _⟩ | exact fun h => ⟨h, refLeft_spec _ _ (allL r3 n).2 B0 (by simp only [go_sem, reduceIte, Nat.reduceEqDiff, Nat.reduceLT, decide_true, reduceCtorEq, Nat.reduceAdd, Nat.reduceBEq, Nat.reduceMul, Nat.reduceLeDiff, Int.reduceToNat]) ⟨rfl, rfl⟩⟩ | exact fun h => ⟨h, bytes22_spec _ _ (fr : Nat) (allL r3 n).1.2 (by omega) hids ⟨rfl, rfl⟩⟩ | exact fun h => by simpa using h | (simp only [go_sem, reduceIte, Nat.reduceEqDiff, Nat.reduceLT, decide_true, reduceCtorEq, Nat.reduceAdd, Nat.reduceBEq, Nat.reduceMul, Nat.reduceLeDiff, Int.reduceToNat] <;> rfl))) ?_
    simp only [callK]
    simp only [go_sem, reduceIte, Nat.reduceEqDiff, Nat.reduceLT, decide_true, reduceCtorEq, Nat.reduceAdd, Nat.reduceBEq, Nat.reduceMul, Nat.reduceLeDiff, Int.reduceToNat]
    repeat refine ⟨by first | assumption | omega | exact True.intro | exact rfl | exact bts_cells _ | exact bytes_all _ | exact fun h => ⟨h, bytes_all _⟩ | exact fun h => ⟨h, refLeft_spec _ _ (allL r3 n).2 B0 (by simp only [go_sem, reduceIte, Nat.reduceEqDiff, Nat.reduceLT, decide_true, reduceCtorEq, Nat.reduceAdd, Nat.reduceBEq, Nat.reduceMul, Nat.reduceLeDiff, Int.reduceToNat]) ⟨rfl, rfl⟩⟩ | exact fun h => ⟨h, bytes22_spec _ _ (fr : Nat) (allL r3 n).1.2 (by omega) hids ⟨rfl, rfl⟩⟩ | exact fun h => by simpa using h | exact List.mem_cons_self | exact bytes_cell (by omega) | exact fun _ => bytes_cell (by omega) | (simp +contextual only [go_sem]; done) | fail, ?_⟩
    refine h5 _ _ ?_
    clear h5
    refine AWp_seq fun K6 h6 => ?_
    refine AWp_seq fun K7 h7 => ?_
    refine AWp_region tab_ok [] ?_
    simp only [go_sem, reduceIte, Nat.reduceEqDiff, Nat.reduceLT, decide_true, reduceCtorEq, Nat.reduceAdd, Nat.reduceBEq, Nat.reduceMul, Nat.reduceLeDiff, Int.reduceToNat]
    repeat refine ⟨by first | assumption | omega | exact True.intro | exact rfl | exact bts_cells _ | exact bytes_all _ | exact fun h => ⟨h, bytes_all _⟩ | exact fun h => ⟨h, refLeft_spec _ _ (allL r3 n).2 B0 (by simp only [go_sem, reduceIte, Nat.reduceEqDiff, Nat.reduceLT, decide_true, reduceCtorEq, Nat.reduceAdd, Nat.reduceBEq, Nat.reduceMul, Nat.reduceLeDiff, Int.reduceToNat]) ⟨rfl, rfl⟩⟩ | exact fun h => ⟨h, bytes22_spec _ _ (fr : Nat) (allL r3 n).1.2 (by omega) hids ⟨rfl, rfl⟩⟩ | exact fun h => by simpa using h | exact List.mem_cons_self | exact bytes_cell (by omega) | exact fun _ => bytes_cell (by omega) | (simp +contextual only [go_sem]; done) | fail, ?_⟩
    refine h7 _ _ ?_
    clear h7
    refine AWp_if fun kk hkk => ?_
    simp only [go_sem, reduceIte, Nat.reduceEqDiff, Nat.reduceLT, decide_true, reduceCtorEq, Nat.reduceAdd, Nat.reduceBEq, Nat.reduceMul, Nat.reduceLeDiff, Int.reduceToNat]
    repeat refine ⟨by first | assumption | omega | exact True.intro | exact rfl | exact bts_cells _ | exact bytes_all _ | exact fun h => ⟨h, bytes_all _⟩ | exact fun h => ⟨h, refLeft_spec _ _ (allL r3 n).2 B0 (by simp only [go_sem, reduceIte, Nat.reduceEqDiff, Nat.reduceLT, decide_true, reduceCtorEq, Nat.reduceAdd, Nat.reduceBEq, Nat.reduceMul, Nat.reduceLeDiff, Int.reduceToNat]) ⟨rfl, rfl⟩⟩ | exact fun h => ⟨h, bytes22_spec _ _ (fr : Nat) (allL r3 n).1.2 (by omega) hids ⟨rfl, rfl⟩⟩ | exact fun h => by simpa using h | exact List.mem_cons_self | exact bytes_cell (by omega) | exact fun _ => bytes_cell (by omega) | (simp +contextual only [go_sem]; done) | fail, ?_⟩
    refine hkk _ (fun hb1 => ?_) (fun hb1 => ?_) <;> clear hkk kk
    · simp only [bne_iff_ne, ne_eq, bne_eq_false_iff_eq, beq_iff_eq, beq_eq_false_iff_ne, decide_eq_true_eq, decide_eq_false_iff_not, Bool.not_eq_true', Bool.not_eq_false', Bool.and_eq_true, Bool.and_eq_false_iff, Bool.or_eq_true, Bool.or_eq_false_iff, Int.natCast_inj, not_true_eq_false, not_false_eq_true] at hb1
      refine AWp_seq fun K8 h8 => ?_
      refine AWp_region tab_ok [0] ?_
      simp only [go_sem, reduceIte, Nat.reduceEqDiff, Nat.reduceLT, decide_true, reduceCtorEq, Nat.reduceAdd, Nat.reduceBEq, Nat.reduceMul, Nat.reduceLeDiff, Int.reduceToNat]
      repeat refine ⟨by first | assumption | omega | exact True.intro | exact rfl | exact bts_cells _ | exact bytes_all _ | exact fun h => ⟨h, bytes_all _⟩ | exact fun h => ⟨h, refLeft_spec _ _ (allL r3 n).2 B0 (by simp only [go_sem, reduceIte, Nat.reduceEqDiff, Nat.reduceLT, decide_true, reduceCtorEq, Nat.reduceAdd, Nat.reduceBEq, Nat.reduceMul, Nat.reduceLeDiff, Int.reduceToNat]) ⟨rfl, rfl⟩⟩ | exact fun h => ⟨h, bytes22_spec _ _ (fr : Nat) (allL r3 n).1.2 (by omega) hids ⟨rfl, rfl⟩⟩ | exact fun h => by simpa using h | exact List.mem_cons_self | exact bytes_cell (by omega) | exact fun _ => bytes_cell (by omega) | (simp +contextual only [go_sem]; done) | fail, ?_⟩
      refine h8 _ _ ?_
      clear h8
      refine AWp_fzE (l := [.tmp 2, .tmp 3, .tmp 4]) ?_
      refine AWp_ret ?_
      refine retQ_mk H (by first | exact fun _ _ h => h | assumption | exact Fr_weak (by repeat (first | exact Fr_refl _ _ | refine Fr_new (by assumption) ?_ | refine Fr_old (by simp only [List.map_cons, List.mem_cons, true_or, or_true]) ?_))) (.inr rfl) ?_
      simp only [go_sem, reduceIte, Nat.reduceEqDiff, Nat.reduceLT, decide_true, reduceCtorEq, Nat.reduceAdd, Nat.reduceBEq, Nat.reduceMul, Nat.reduceLeDiff, Int.reduceToNat]
      repeat refine ⟨by first | assumption | omega | exact True.intro | exact rfl | exact bts_cells _ | exact bytes_all _ | exact fun h => ⟨h, bytes_all _⟩ | exact fun h => ⟨h, refLeft_spec _ _ (allL r3 n).2 B0 (by simp only [go_sem, reduceIte, Nat.reduceEqDiff, Nat.reduceLT, decide_true, reduceCtorEq, Nat.reduceAdd, Nat.reduceBEq, Nat.reduceMul, Nat.reduceLeDiff, Int.reduceToNat]) ⟨rfl, rfl⟩⟩ | exact fun h => ⟨h, bytes22_spec _ _ (fr : Nat) (allL r3 n).1.2 (by omega) hids ⟨rfl, rfl⟩⟩ | exact fun h => by simpa using h | exact List.mem_cons_self | exact bytes_cell (by omega) | exact fun _ => bytes_cell (by omega) | (simp +contextual only [go_sem]; done) | fail, ?_⟩
      rw [show decodeL xs = (0, [], (openOf xs).2) from by rw [decodeL, if_neg (by omega), if_pos hb1]] at hK
      exact hK
    · simp only [bne_iff_ne, ne_eq, bne_eq_false_iff_eq, beq_iff_eq, beq_eq_false_iff_ne, decide_eq_true_eq, decide_eq_false_iff_not, Bool.not_eq_true', Bool.not_eq_false', Bool.and_eq_true, Bool.and_eq_false_iff, Bool.or_eq_true, Bool.or_eq_false_iff, Int.natCast_inj, not_true_eq_false, not_false_eq_true] at hb1
      refine AWp_skip ?_
      refine h6 _ _ ?_
      refine AWp_seq fun K9 h9 => ?_
      refine AWp_region tab_ok [] ?_
      simp only [go_sem, reduceIte, Nat.reduceEqDiff, Nat.reduceLT, decide_true, reduceCtorEq, Nat.reduceAdd, Nat.reduceBEq, Nat.reduceMul, Nat.reduceLeDiff, Int.reduceToNat]
      repeat refine ⟨by first | assumption | omega | exact True.intro | exact rfl | exact bts_cells _ | exact bytes_all _ | exact fun h => ⟨h, bytes_all _⟩ | exact fun h => ⟨h, refLeft_spec _ _ (allL r3 n).2 B0 (by simp only [go_sem, reduceIte, Nat.reduceEqDiff, Nat.reduceLT, decide_true, reduceCtorEq, Nat.reduceAdd, Nat.reduceBEq, Nat.reduceMul, Nat.reduceLeDiff, Int.reduceToNat]) ⟨rfl, rfl⟩⟩ | exact fun h => ⟨h, bytes22_spec _ _ (fr : Nat) (allL r3 n).1.2 (by omega) hids ⟨rfl, rfl⟩⟩ | exact fun h => by simpa using h | exact List.mem_cons_self | exact bytes_cell (by omega) | exact fun _ => bytes_cell (by omega) | (simp +contextual only [go_sem]; done) | fail, ?_⟩
      refine fun B0 hB0 => ?_
      repeat (first | replace hB0 := ite_none hB0 | replace hB0 := hset_none hB0)
      try simp only [go_sem, reduceIte, Nat.reduceEqDiff, Nat.reduceLT, decide_true, reduceCtorEq, Nat.reduceAdd, Nat.reduceBEq, Nat.reduceMul, Nat.reduceLeDiff, Int.reduceToNat]
      repeat refine ⟨by first | assumption | omega | exact True.intro | exact rfl | exact bts_cells _ | exact bytes_all _ | exact fun h => ⟨h, bytes_all _⟩ | exact fun h => ⟨h, refLeft_spec _ _ (allL r3 n).2 B0 (by simp only [go_sem, reduceIte, Nat.reduceEqDiff, Nat.reduceLT, decide_true, reduceCtorEq, Nat.reduceAdd, Nat.reduceBEq, Nat.reduceMul, Nat.reduceLeDiff, Int.reduceToNat]) ⟨rfl, rfl⟩⟩ | exact fun h => ⟨h, bytes22_spec _ _ (fr : Nat) (allL r3 n).1.2 (by omega) hids ⟨rfl, rfl⟩⟩ | exact fun h => by simpa using h | exact List.mem_cons_self | exact bytes_cell (by omega) | exact fun _ => bytes_cell (by omega) | (simp +contextual only [go_sem]; done) | fail, ?_⟩
      refine h9 _ _ ?_
      clear h9
      refine AWp_seq fun K10 h10 => ?_
      refine AWp_region tab_ok [] ?_
      simp only [go_sem, reduceIte, Nat.reduceEqDiff, Nat.reduceLT, decide_true, reduceCtorEq, Nat.reduceAdd, Nat.reduceBEq, Nat.reduceMul, Nat.reduceLeDiff, Int.reduceToNat]
      repeat refine ⟨by first | assumption | omega | exact True.intro | exact rfl | exact bts_cells _ | exact bytes_all _ | exact fun h => ⟨h, bytes_all _⟩ | exact fun h => ⟨h, refLeft_spec _ _ (allL r3 n).2 B0 (by simp only [go_sem, reduceIte, Nat.reduceEqDiff, Nat.reduceLT, decide_true, reduceCtorEq, Nat.reduceAdd, Nat.reduceBEq, Nat.reduceMul, Nat.reduceLeDiff, Int.reduceToNat]) ⟨rfl, rfl⟩⟩ | exact fun h => ⟨h, bytes22_spec _ _ (fr : Nat) (allL r3 n).1.2 (by omega) hids ⟨rfl, rfl⟩⟩ | exact fun h => by simpa using h | exact List.mem_cons_self | exact bytes_cell (by omega) | exact fun _ => bytes_cell (by omega) | (simp +contextual only [go_sem]; done) | fail, ?_⟩
      refine refGet_spec _ _ (⟨(openOf xs).1, false⟩ : Rd) B0 1 (by dsimp only; omega) (by simp only [go_sem, reduceIte, Nat.reduceEqDiff, Nat.reduceLT, decide_true, reduceCtorEq, Nat.reduceAdd, Nat.reduceBEq, Nat.reduceMul, Nat.reduceLeDiff, Int.reduceToNat]) ?_
      obtain ⟨ver, r1, hg1⟩ : ∃ v r, (⟨(openOf xs).1, false⟩ : Rd).get 1 = (v, r) := ⟨_, _, rfl⟩
      have hl1 := get_len (⟨(openOf xs).1, false⟩ : Rd) 1
      rw [hg1] at hl1 ⊢
      dsimp only at hl1 ⊢
      simp only [callK]
      simp only [go_sem, reduceIte, Nat.reduceEqDiff, Nat.reduceLT, decide_true, reduceCtorEq, Nat.reduceAdd, Nat.reduceBEq, Nat.reduceMul, Nat.reduceLeDiff, Int.reduceToNat]
      repeat refine ⟨by first | assumption | omega | exact True.intro | exact rfl | exact bts_cells _ | exact bytes_all _ | exact fun h => ⟨h, bytes_all _⟩ | exact fun h => ⟨h, refLeft_spec _ _ (allL r3 n).2 B0 (by simp only [go_sem, reduceIte, Nat.reduceEqDiff, Nat.reduceLT, decide_true, reduceCtorEq, Nat.reduceAdd, Nat.reduceBEq, Nat.reduceMul, Nat.reduceLeDiff, Int.reduceToNat]) ⟨rfl, rfl⟩⟩ | exact fun h => ⟨h, bytes22_spec _ _ (fr : Nat) (allL r3 n).1.2 (by omega) hids ⟨rfl, rfl⟩⟩ | exact fun h => by simpa using h | exact List.mem_cons_self | exact bytes_cell (by omega) | exact fun _ => bytes_cell (by omega) | (simp +contextual only [go_sem]; done) | fail, ?_⟩
      refine h10 _ _ ?_
      clear h10
      refine AWp_seq fun K11 h11 => ?_
      refine AWp_region tab_ok [] ?_
      simp only [go_sem, reduceIte, Nat.reduceEqDiff, Nat.reduceLT, decide_true, reduceCtorEq, Nat.reduceAdd, Nat.reduceBEq, Nat.reduceMul, Nat.reduceLeDiff, Int.reduceToNat]
      repeat refine ⟨by first | assumption | omega | exact True.intro | exact rfl | exact bts_cells _ | exact bytes_all _ | exact fun h => ⟨h, bytes_all _⟩ | exact fun h => ⟨h, refLeft_spec _ _ (allL r3 n).2 B0 (by simp only [go_sem, reduceIte, Nat.reduceEqDiff, Nat.reduceLT, decide_true, reduceCtorEq, Nat.reduceAdd, Nat.reduceBEq, Nat.reduceMul, Nat.reduceLeDiff, Int.reduceToNat]) ⟨rfl, rfl⟩⟩ | exact fun h => ⟨h, bytes22_spec _ _ (fr : Nat) (allL r3 n).1.2 (by omega) hids ⟨rfl, rfl⟩⟩ | exact fun h => by simpa using h | exact List.mem_cons_self | exact bytes_cell (by omega) | exact fun _ => bytes_cell (by omega) | (simp +contextual only [go_sem]; done) | fail, ?_⟩
      refine refGet_spec _ _ r1 B0 2147483647 (by omega) (by simp only [go_sem, reduceIte, Nat.reduceEqDiff, Nat.reduceLT, decide_true, reduceCtorEq, Nat.reduceAdd, Nat.reduceBEq, Nat.reduceMul, Nat.reduceLeDiff, Int.reduceToNat]) ?_
      obtain ⟨fr, r2, hg2⟩ : ∃ v r, r1.get 2147483647 = (v, r) := ⟨_, _, rfl⟩
      have hl2 := get_len r1 2147483647
      rw [hg2] at hl2 ⊢
      dsimp only at hl2 ⊢
      simp only [callK]
      simp only [go_sem, reduceIte, Nat.reduceEqDiff, Nat.reduceLT, decide_true, reduceCtorEq, Nat.reduceAdd, Nat.reduceBEq, Nat.reduceMul, Nat.reduceLeDiff, Int.reduceToNat]
      repeat refine ⟨by first | assumption | omega | exact True.intro | exact rfl | exact bts_cells _ | exact bytes_all _ | exact fun h => ⟨h, bytes_all _⟩ | exact fun h => ⟨h, refLeft_spec _ _ (allL r3 n).2 B0 (by simp only [go_sem, reduceIte, Nat.reduceEqDiff, Nat.reduceLT, decide_true, reduceCtorEq, Nat.reduceAdd, Nat.reduceBEq, Nat.reduceMul, Nat.reduceLeDiff, Int.reduceToNat]) ⟨rfl, rfl⟩⟩ | exact fun h => ⟨h, bytes22_spec _ _ (fr : Nat) (allL r3 n).1.2 (by omega) hids ⟨rfl, rfl⟩⟩ | exact fun h => by simpa using h | exact List.mem_cons_self | exact bytes_cell (by omega) | exact fun _ => bytes_cell (by omega) | (simp +contextual only [go_sem]; done) | fail, ?_⟩
      refine h11 _ _ ?_
      clear h11
      refine AWp_seq fun K12 h12 => ?_
      refine AWp_region tab_ok [] ?_
      simp only [go_sem, reduceIte, Nat.reduceEqDiff, Nat.reduceLT, decide_true, reduceCtorEq, Nat.reduceAdd, Nat.reduceBEq, Nat.reduceMul, Nat.reduceLeDiff, Int.reduceToNat]
      repeat refine ⟨by first | assumption | omega | exact True.intro | exact rfl | exact bts_cells _ | exact bytes_all _ | exact fun h => ⟨h, bytes_all _⟩ | exact fun h => ⟨h, refLeft_spec _ _ (allL r3 n).2 B0 (by simp only [go_sem, reduceIte, Nat.reduceEqDiff, Nat.reduceLT, decide_true, reduceCtorEq, Nat.reduceAdd, Nat.reduceBEq, Nat.reduceMul, Nat.reduceLeDiff, Int.reduceToNat]) ⟨rfl, rfl⟩⟩ | exact fun h => ⟨h, bytes22_spec _ _ (fr : Nat) (allL r3 n).1.2 (by omega) hids ⟨rfl, rfl⟩⟩ | exact fun h => by simpa using h | exact List.mem_cons_self | exact bytes_cell (by omega) | exact fun _ => bytes_cell (by omega) | (simp +contextual only [go_sem]; done) | fail, ?_⟩
      refine refGet_spec _ _ r2 B0 65536 (by omega) (by simp only [go_sem, reduceIte, Nat.reduceEqDiff, Nat.reduceLT, decide_true, reduceCtorEq, Nat.reduceAdd, Nat.reduceBEq, Nat.reduceMul, Nat.reduceLeDiff, Int.reduceToNat]) ?_
      obtain ⟨n, r3, hg3⟩ : ∃ v r, r2.get 65536 = (v, r) := ⟨_, _, rfl⟩
      have hl3 := get_len r2 65536
      have hn := get_le r2 65536
      rw [hg3] at hl3 hn ⊢
      dsimp only at hl3 hn ⊢
      simp only [callK]
      simp only [go_sem, reduceIte, Nat.reduceEqDiff, Nat.reduceLT, decide_true, reduceCtorEq, Nat.reduceAdd, Nat.reduceBEq, Nat.reduceMul, Nat.reduceLeDiff, Int.reduceToNat]
      repeat refine ⟨by first | assumption | omega | exact True.intro | exact rfl | exact bts_cells _ | exact bytes_all _ | exact fun h => ⟨h, bytes_all _⟩ | exact fun h => ⟨h, refLeft_spec _ _ (allL r3 n).2 B0 (by simp only [go_sem, reduceIte, Nat.reduceEqDiff, Nat.reduceLT, decide_true, reduceCtorEq, Nat.reduceAdd, Nat.reduceBEq, Nat.reduceMul, Nat.reduceLeDiff, Int.reduceToNat]) ⟨rfl, rfl⟩⟩ | exact fun h => ⟨h, bytes22_spec _ _ (fr : Nat) (allL r3 n).1.2 (by omega) hids ⟨rfl, rfl⟩⟩ | exact fun h => by simpa using h | exact List.mem_cons_self | exact bytes_cell (by omega) | exact fun _ => bytes_cell (by omega) | (simp +contextual only [go_sem]; done) | fail, ?_⟩
      refine h12 _ _ ?_
      clear h12
      refine AWp_seq fun K13 h13 => ?_
      refine AWp_region tab_ok [] ?_
      simp only [go_sem, reduceIte, Nat.reduceEqDiff, Nat.reduceLT, decide_true, reduceCtorEq, Nat.reduceAdd, Nat.reduceBEq, Nat.reduceMul, Nat.reduceLeDiff, Int.reduceToNat]
      repeat refine ⟨by first | assumption | omega | exact True.intro | exact rfl | exact bts_cells _ | exact bytes_all _ | exact fun h => ⟨h, bytes_all _⟩ | exact fun h => ⟨h, refLeft_spec _ _ (allL r3 n).2 B0 (by simp only [go_sem, reduceIte, Nat.reduceEqDiff, Nat.reduceLT, decide_true, reduceCtorEq, Nat.reduceAdd, Nat.reduceBEq, Nat.reduceMul, Nat.reduceLeDiff, Int.reduceToNat]) ⟨rfl, rfl⟩⟩ | exact fun h => ⟨h, bytes22_spec _ _ (fr : Nat) (allL r3 n).1.2 (by omega) hids ⟨rfl, rfl⟩⟩ | exact fun h => by simpa using h | exact List.mem_cons_self | exact bytes_cell (by omega) | exact fun _ => bytes_cell (by omega) | (simp +contextual only [go_sem]; done) | fail, ?_⟩
      refine h13 _ _ ?_
      clear h13
      refine AWp_seq fun K14 h14 => ?_
      refine AWp_region tab_ok [] ?_
      simp only [go_sem, reduceIte, Nat.reduceEqDiff, Nat.reduceLT, decide_true, reduceCtorEq, Nat.reduceAdd, Nat.reduceBEq, Nat.reduceMul, Nat.reduceLeDiff, Int.reduceToNat]
      repeat refine ⟨by first | assumption | omega | exact True.intro | exact rfl | exact bts_cells _ | exact bytes_all _ | exact fun h => ⟨h, bytes_all _⟩ | exact fun h => ⟨h, refLeft_spec _ _ (allL r3 n).2 B0 (by simp only [go_sem, reduceIte, Nat.reduceEqDiff, Nat.reduceLT, decide_true, reduceCtorEq, Nat.reduceAdd, Nat.reduceBEq, Nat.reduceMul, Nat.reduceLeDiff, Int.reduceToNat]) ⟨rfl, rfl⟩⟩ | exact fun h => ⟨h, bytes22_spec _ _ (fr : Nat) (allL r3 n).1.2 (by omega) hids ⟨rfl, rfl⟩⟩ | exact fun h => by simpa using h | exact List.mem_cons_self | exact bytes_cell (by omega) | exact fun _ => bytes_cell (by omega) | (simp +contextual only [go_sem]; done) | fail, ?_⟩
      refine fun B1 hB1 => ?_
      have nB1_B0 : B1 ≠ B0 := fun hh => by rw [hh] at hB1; revert hB1; (try simp only [hset]); (repeat' split) <;> simp_all
      repeat (first | replace hB1 := ite_none hB1 | replace hB1 := hset_none hB1)
      try simp only [go_sem, reduceIte, Nat.reduceEqDiff, Nat.reduceLT, decide_true, reduceCtorEq, Nat.reduceAdd, Nat.reduceBEq, Nat.reduceMul, Nat.reduceLeDiff, Int.reduceToNat, nB1_B0, nB1_B0.symm]
      repeat refine ⟨by first | assumption | omega | exact True.intro | exact rfl | exact bts_cells _ | exact bytes_all _ | exact fun h => ⟨h, bytes_all _⟩ | exact fun h => ⟨h, refLeft_spec _ _ (allL r3 n).2 B0 (by simp only [go_sem, reduceIte, Nat.reduceEqDiff, Nat.reduceLT, decide_true, reduceCtorEq, Nat.reduceAdd, Nat.reduceBEq, Nat.reduceMul, Nat.reduceLeDiff, Int.reduceToNat, nB1_B0, nB1_B0.symm]) ⟨rfl, rfl⟩⟩ | exact fun h => ⟨h, bytes22_spec _ _ (fr : Nat) (allL r3 n).1.2 (by omega) hids ⟨rfl, rfl⟩⟩ | exact fun h => by simpa using h | exact List.mem_cons_self | exact bytes_cell (by omega) | exact fun _ => bytes_cell (by omega) | (simp +contextual only [go_sem]; done) | fail, ?_⟩
      refine h14 _ _ ?_
      clear h14
      refine AWp_seq fun K15 h15 => ?_
      refine AWp_seq fun K16 h16 => ?_
      refine AWp_top [.sc (.int .i64 btZero.a0), .sc (.int .i64 btZero.a1), .sc (.bool btZero.clear), .sc (.int .i64 btZero.a3), .sc (.int .i64 btZero.a4), .sc (.int .i64 btZero.a5), .lst 0 (ints btZero.ids)] ⟨.inl rfl, .inl rfl, .inl rfl, .inl rfl, .inl rfl, .inl rfl, .inr (.inr (.inl ⟨rfl, .inl rfl⟩)), trivial⟩ ?_
      refine AWp_region tab_ok [] ?_
      simp only [go_sem, reduceIte, Nat.reduceEqDiff, Nat.reduceLT, decide_true, reduceCtorEq, Nat.reduceAdd, Nat.reduceBEq, Nat.reduceMul, Nat.reduceLeDiff, Int.reduceToNat, nB1_B0, nB1_B0.symm]
      repeat refine ⟨by first | assumption | omega | exact True.intro | exact rfl | exact bts_cells _ | exact bytes_all _ | exact fun h => ⟨h, bytes_all _⟩ | exact fun h => ⟨h, refLeft_spec _ _ (allL r3 n).2 B0 (by simp only [go_sem, reduceIte, Nat.reduceEqDiff, Nat.reduceLT, decide_true, reduceCtorEq, Nat.reduceAdd, Nat.reduceBEq, Nat.reduceMul, Nat.reduceLeDiff, Int.reduceToNat, nB1_B0, nB1_B0.symm]) ⟨rfl, rfl⟩⟩ | exact fun h => ⟨h, bytes22_spec _ _ (fr : Nat) (allL r3 n).1.2 (by omega) hids ⟨rfl, rfl⟩⟩ | exact fun h => by simpa using h | exact List.mem_cons_self | exact bytes_cell (by omega) | exact fun _ => bytes_cell (by omega) | (simp +contextual only [go_sem]; done) | fail, ?_⟩
      refine h16 _ _ ?_
      clear h16
      refine AWp_block ?_
      refine AWp_loop_ind (ι := (Nat)) (fun (i : Nat) => [(13, .sc (.int .i64 i)), (11, .lst 2 (bts (allL r3 i).1.2)), (10, .sc (.int .i64 n)), (9, .sc (.int .i64 fr)), (8, .sc (.int .i64 ver)), (7, .sc (.pointer (some ⟨B0, 0, none⟩))), (12, .sc (.pointer (some ⟨B1, 0, none⟩))), (0, .lst 0 (bytes xs))]) (fun (i : Nat) => (hsets H [(B0, (.cells [.lst 0 (bytes (allL r3 i).2.left), .sc (.bool (allL r3 i).2.bad)])), (B1, .cells (AVcells (allL r3 i).1.1))])) (fun (i : Nat) => (i ≤ n)) (fun (i : Nat) => n - i) 0 ?_ ?_ ?_ ?_
      · first | omega | exact True.intro | simp
      · (try dsimp only); exact (hweakL (by repeat (first | exact Fr_refl _ _ | refine Fr_new (by assumption) ?_ | refine Fr_old (by simp only [List.map_cons, List.mem_cons, true_or, or_true]) ?_)) (by simp only [go_sem, reduceIte, Nat.reduceEqDiff, Nat.reduceLT, decide_true, reduceCtorEq, Nat.reduceAdd, Nat.reduceBEq, Nat.reduceMul, Nat.reduceLeDiff, Int.reduceToNat, nB1_B0, nB1_B0.symm]; first | done | exact True.intro | (repeat' apply And.intro) <;> first | rfl | exact True.intro))
      · simp only [go_sem, reduceIte, Nat.reduceEqDiff, Nat.reduceLT, decide_true, reduceCtorEq, Nat.reduceAdd, Nat.reduceBEq, Nat.reduceMul, Nat.reduceLeDiff, Int.reduceToNat, nB1_B0, nB1_B0.symm]; first | done | exact True.intro | (repeat' apply And.intro) <;> first | rfl | exact True.intro
      rintro i hi0_0 L0 hL0
      skip
      obtain ⟨hal1, hal2, hal3⟩ := allL_len r3 i
      have hcells : AVcells (allL r3 i).1.1 = [.sc (.int .i64 (allL r3 i).1.1.a0), .sc (.int .i64 (allL r3 i).1.1.a1), .sc (.bool (allL r3 i).1.1.clear), .sc (.int .i64 (allL r3 i).1.1.a3), .sc (.int .i64 (allL r3 i).1.1.a4), .sc (.int .i64 (allL r3 i).1.1.a5), .lst 0 (ints (allL r3 i).1.1.ids)] := rfl
      simp only [hcells]
      refine AWp_seq fun K17 h17 => ?_
      refine AWp_seq fun K18 h18 => ?_
      refine AWp_region tab_ok [] ?_
      simp only [go_sem, reduceIte, Nat.reduceEqDiff, Nat.reduceLT, decide_true, reduceCtorEq, Nat.reduceAdd, Nat.reduceBEq, Nat.reduceMul, Nat.reduceLeDiff, Int.reduceToNat, nB1_B0, nB1_B0.symm]
      repeat refine ⟨by first | assumption | omega | exact True.intro | exact rfl | exact bts_cells _ | exact bytes_all _ | exact fun h => ⟨h, bytes_all _⟩ | exact fun h => ⟨h, refLeft_spec _ _ (allL r3 n).2 B0 (by simp only [go_sem, reduceIte, Nat.reduceEqDiff, Nat.reduceLT, decide_true, reduceCtorEq, Nat.reduceAdd, Nat.reduceBEq, Nat.reduceMul, Nat.reduceLeDiff, Int.reduceToNat, nB1_B0, nB1_B0.symm]) ⟨rfl, rfl⟩⟩ | exact fun h => ⟨h, bytes22_spec _ _ (fr : Nat) (allL r3 n).1.2 (by omega) hids ⟨rfl, rfl⟩⟩ | exact fun h => by simpa using h | exact List.mem_cons_self | exact bytes_cell (by omega) | exact fun _ => bytes_cell (by omega) | (simp +contextual only [go_sem]; done) | fail, ?_⟩
      refine h18 _ _ ?_
      clear h18
      refine AWp_if fun kk hkk => ?_
      simp only [go_sem, reduceIte, Nat.reduceEqDiff, Nat.reduceLT, decide_true, reduceCtorEq, Nat.reduceAdd, Nat.reduceBEq, Nat.reduceMul, Nat.reduceLeDiff, Int.reduceToNat, nB1_B0, nB1_B0.symm]
      repeat refine ⟨by first | assumption | omega | exact True.intro | exact rfl | exact bts_cells _ | exact bytes_all _ | exact fun h => ⟨h, bytes_all _⟩ | exact fun h => ⟨h, refLeft_spec _ _ (allL r3 n).2 B0 (by simp only [go_sem, reduceIte, Nat.reduceEqDiff, Nat.reduceLT, decide_true, reduceCtorEq, Nat.reduceAdd, Nat.reduceBEq, Nat.reduceMul, Nat.reduceLeDiff, Int.reduceToNat, nB1_B0, nB1_B0.symm]) ⟨rfl, rfl⟩⟩ | exact fun h => ⟨h, bytes22_spec _ _ (fr : Nat) (allL r3 n).1.2 (by omega) hids ⟨rfl, rfl⟩⟩ | exact fun h => by simpa using h | exact List.mem_cons_self | exact bytes_cell (by omega) | exact fun _ => bytes_cell (by omega) | (simp +contextual only [go_sem]; done) | fail, ?_⟩
      refine hkk _ (fun hb2 => ?_) (fun hb2 => ?_) <;> clear hkk kk
      · simp only [bne_iff_ne, ne_eq, bne_eq_false_iff_eq, beq_iff_eq, beq_eq_false_iff_ne, decide_eq_true_eq, decide_eq_false_iff_not, Bool.not_eq_true', Bool.not_eq_false', Bool.and_eq_true, Bool.and_eq_false_iff, Bool.or_eq_true, Bool.or_eq_false_iff, Int.natCast_inj, not_true_eq_false, not_false_eq_true] at hb2
        have hst : allL r3 (i + 1) = (((oneL (allL r3 i).2 (allL r3 i).1.1).1, (allL r3 i).1.2 ++ [(oneL (allL r3 i).2 (allL r3 i).1.1).1]), (oneL (allL r3 i).2 (allL r3 i).1.1).2) := by rw [allL_succ, allStep, if_neg (by simp [hb2.2])]
        refine AWp_skip ?_
        refine h17 _ _ ?_
        refine AWp_seq fun K19 h19 => ?_
        refine AWp_block ?_
        refine AWp_seq fun K20 h20 => ?_
        refine AWp_region tab_ok [] ?_
        simp only [go_sem, reduceIte, Nat.reduceEqDiff, Nat.reduceLT, decide_true, reduceCtorEq, Nat.reduceAdd, Nat.reduceBEq, Nat.reduceMul, Nat.reduceLeDiff, Int.reduceToNat, nB1_B0, nB1_B0.symm]
        repeat refine ⟨by first | assumption | omega | exact True.intro | exact rfl | exact bts_cells _ | exact bytes_all _ | exact fun h => ⟨h, bytes_all _⟩ | exact fun h => ⟨h, refLeft_spec _ _ (allL r3 n).2 B0 (by simp only [go_sem, reduceIte, Nat.reduceEqDiff, Nat.reduceLT, decide_true, reduceCtorEq, Nat.reduceAdd, Nat.reduceBEq, Nat.reduceMul, Nat.reduceLeDiff, Int.reduceToNat, nB1_B0, nB1_B0.symm]) ⟨rfl, rfl⟩⟩ | exact fun h => ⟨h, bytes22_spec _ _ (fr : Nat) (allL r3 n).1.2 (by omega) hids ⟨rfl, rfl⟩⟩ | exact fun h => by simpa using h | exact List.mem_cons_self | exact bytes_cell (by omega) | exact fun _ => bytes_cell (by omega) | (simp +contextual only [go_sem]; done) | fail, ?_⟩
        refine one22_spec _ _ (allL r3 i).2 (allL r3 i).1.1 B0 (by omega) (by simp only [go_sem, reduceIte, Nat.reduceEqDiff, Nat.reduceLT, decide_true, reduceCtorEq, Nat.reduceAdd, Nat.reduceBEq, Nat.reduceMul, Nat.reduceLeDiff, Int.reduceToNat, nB1_B0, nB1_B0.symm]) ?_
        rw [show AVcells (oneL (allL r3 i).2 (allL r3 i).1.1).1 = [.sc (.int .i64 (oneL (allL r3 i).2 (allL r3 i).1.1).1.a0), .sc (.int .i64 (oneL (allL r3 i).2 (allL r3 i).1.1).1.a1), .sc (.bool (oneL (allL r3 i).2 (allL r3 i).1.1).1.clear), .sc (.int .i64 (oneL (allL r3 i).2 (allL r3 i).1.1).1.a3), .sc (.int .i64 (oneL (allL r3 i).2 (allL r3 i).1.1).1.a4), .sc (.int .i64 (oneL (allL r3 i).2 (allL r3 i).1.1).1.a5), .lst 0 (ints (oneL (allL r3 i).2 (allL r3 i).1.1).1.ids)] from rfl]
        simp only [callK]
        simp only [go_sem, reduceIte, Nat.reduceEqDiff, Nat.reduceLT, decide_true, reduceCtorEq, Nat.reduceAdd, Nat.reduceBEq, Nat.reduceMul, Nat.reduceLeDiff, Int.reduceToNat, nB1_B0, nB1_B0.symm]
        repeat refine ⟨by first | assumption | omega | exact True.intro | exact rfl | exact bts_cells _ | exact bytes_all _ | exact fun h => ⟨h, bytes_all _⟩ | exact fun h => ⟨h, refLeft_spec _ _ (allL r3 n).2 B0 (by simp only [go_sem, reduceIte, Nat.reduceEqDiff, Nat.reduceLT, decide_true, reduceCtorEq, Nat.reduceAdd, Nat.reduceBEq, Nat.reduceMul, Nat.reduceLeDiff, Int.reduceToNat, nB1_B0, nB1_B0.symm]) ⟨rfl, rfl⟩⟩ | exact fun h => ⟨h, bytes22_spec _ _ (fr : Nat) (allL r3 n).1.2 (by omega) hids ⟨rfl, rfl⟩⟩ | exact fun h => by simpa using h | exact List.mem_cons_self | exact bytes_cell (by omega) | exact fun _ => bytes_cell (by omega) | (simp +contextual only [go_sem]; done) | fail, ?_⟩
        refine h20 _ _ ?_
        clear h20
        refine AWp_region tab_ok [0] ?_
        simp only [go_sem, reduceIte, Nat.reduceEqDiff, Nat.reduceLT, decide_true, reduceCtorEq, Nat.reduceAdd, Nat.reduceBEq, Nat.reduceMul, Nat.reduceLeDiff, Int.reduceToNat, nB1_B0, nB1_B0.symm, bts_append1]
        repeat refine ⟨by first | assumption | omega | exact True.intro | exact rfl | exact bts_cells _ | exact bytes_all _ | exact fun h => ⟨h, bytes_all _⟩ | exact fun h => ⟨h, refLeft_spec _ _ (allL r3 n).2 B0 (by simp only [go_sem, reduceIte, Nat.reduceEqDiff, Nat.reduceLT, decide_true, reduceCtorEq, Nat.reduceAdd, Nat.reduceBEq, Nat.reduceMul, Nat.reduceLeDiff, Int.reduceToNat, nB1_B0, nB1_B0.symm]) ⟨rfl, rfl⟩⟩ | exact fun h => ⟨h, bytes22_spec _ _ (fr : Nat) (allL r3 n).1.2 (by omega) hids ⟨rfl, rfl⟩⟩ | exact fun h => by simpa using h | exact List.mem_cons_self | exact bytes_cell (by omega) | exact fun _ => bytes_cell (by omega) | (simp +contextual only [go_sem]; done) | fail, ?_⟩
        refine h19 _ _ ?_
        refine AWp_region tab_ok [] ?_
        simp only [go_sem, reduceIte, Nat.reduceEqDiff, Nat.reduceLT, decide_true, reduceCtorEq, Nat.reduceAdd, Nat.reduceBEq, Nat.reduceMul, Nat.reduceLeDiff, Int.reduceToNat, nB1_B0, nB1_B0.symm]
        try simp (disch := omega) only [wrap64]
        repeat refine ⟨by first | assumption | omega | exact True.intro | exact rfl | exact bts_cells _ | exact bytes_all _ | exact fun h => ⟨h, bytes_all _⟩ | exact fun h => ⟨h, refLeft_spec _ _ (allL r3 n).2 B0 (by simp only [go_sem, reduceIte, Nat.reduceEqDiff, Nat.reduceLT, decide_true, reduceCtorEq, Nat.reduceAdd, Nat.reduceBEq, Nat.reduceMul, Nat.reduceLeDiff, Int.reduceToNat, nB1_B0, nB1_B0.symm]) ⟨rfl, rfl⟩⟩ | exact fun h => ⟨h, bytes22_spec _ _ (fr : Nat) (allL r3 n).1.2 (by omega) hids ⟨rfl, rfl⟩⟩ | exact fun h => by simpa using h | exact List.mem_cons_self | exact bytes_cell (by omega) | exact fun _ => bytes_cell (by omega) | (simp +contextual only [go_sem]; done) | fail, ?_⟩
        refine hL0 (i + 1) _ _ ?_ ?_ (by (try dsimp only); exact hweakL (by repeat (first | exact Fr_refl _ _ | refine Fr_new (by assumption) ?_ | refine Fr_old (by simp only [List.map_cons, List.mem_cons, true_or, or_true]) ?_)) (by rw [hst]; simp only [go_sem, reduceIte, Nat.reduceEqDiff, Nat.reduceLT, decide_true, reduceCtorEq, Nat.reduceAdd, Nat.reduceBEq, Nat.reduceMul, Nat.reduceLeDiff, Int.reduceToNat, nB1_B0, nB1_B0.symm]; first | done | exact True.intro | (repeat' apply And.intro) <;> first | rfl | exact True.intro)) ?_
        · first | omega | exact True.intro | (refine ⟨?_, ?_⟩ <;> first | omega | simp)
        · omega
        · simp only [go_sem, reduceIte, Nat.reduceEqDiff, Nat.reduceLT, decide_true, reduceCtorEq, Nat.reduceAdd, Nat.reduceBEq, Nat.reduceMul, Nat.reduceLeDiff, Int.reduceToNat, nB1_B0, nB1_B0.symm]; rw [hst]; first | done | exact True.intro | (repeat' apply And.intro) <;> first | rfl | exact True.intro
      · have hfin : allL r3 n = allL r3 i := by
          by_cases h : i < n
          · refine allL_stop ?_ hi0_0
            simpa [h] using hb2
          · rw [show i = n by omega]
        rw [← hfin] at hal1 hal2 hal3 ⊢
        have hids := hal3
        have hlen : (allL r3 n).1.2.length ≤ 65536 := by omega
        refine AWp_exit ?_
        refine h15 _ _ ?_
        refine AWp_seq fun K21 h21 => ?_
        refine AWp_region tab_ok [] ?_
        simp only [go_sem, reduceIte, Nat.reduceEqDiff, Nat.reduceLT, decide_true, reduceCtorEq, Nat.reduceAdd, Nat.reduceBEq, Nat.reduceMul, Nat.reduceLeDiff, Int.reduceToNat, nB1_B0, nB1_B0.symm]
        repeat refine ⟨by first | assumption | omega | exact True.intro | exact rfl | exact bts_cells _ | exact bytes_all _ | exact fun h => ⟨h, bytes_all _⟩ | exact fun h => ⟨h, refLeft_spec _ _ (allL r3 n).2 B0 (by simp only [go_sem, reduceIte, Nat.reduceEqDiff, Nat.reduceLT, decide_true, reduceCtorEq, Nat.reduceAdd, Nat.reduceBEq, Nat.reduceMul, Nat.reduceLeDiff, Int.reduceToNat, nB1_B0, nB1_B0.symm]) ⟨rfl, rfl⟩⟩ | exact fun h => ⟨h, bytes22_spec _ _ (fr : Nat) (allL r3 n).1.2 (by omega) hids ⟨rfl, rfl⟩⟩ | exact fun h => by simpa using h | exact List.mem_cons_self | exact bytes_cell (by omega) | exact fun _ => bytes_cell (by omega) | (simp +contextual only [go_sem]; done) | fail, ?_⟩
        refine refBts_spec _ _ (allL r3 n).1.2 (by omega) (fun b hb => by have := hids b hb; omega) ?_
        simp only [callK]
        simp only [go_sem, reduceIte, Nat.reduceEqDiff, Nat.reduceLT, decide_true, reduceCtorEq, Nat.reduceAdd, Nat.reduceBEq, Nat.reduceMul, Nat.reduceLeDiff, Int.reduceToNat, nB1_B0, nB1_B0.symm]
        repeat refine ⟨by first | assumption | omega | exact True.intro | exact rfl | exact bts_cells _ | exact bytes_all _ | exact fun h => ⟨h, bytes_all _⟩ | exact fun h => ⟨h, refLeft_spec _ _ (allL r3 n).2 B0 (by simp only [go_sem, reduceIte, Nat.reduceEqDiff, Nat.reduceLT, decide_true, reduceCtorEq, Nat.reduceAdd, Nat.reduceBEq, Nat.reduceMul, Nat.reduceLeDiff, Int.reduceToNat, nB1_B0, nB1_B0.symm]) ⟨rfl, rfl⟩⟩ | exact fun h => ⟨h, bytes22_spec _ _ (fr : Nat) (allL r3 n).1.2 (by omega) hids ⟨rfl, rfl⟩⟩ | exact fun h => by simpa using h | exact List.mem_cons_self | exact bytes_cell (by omega) | exact fun _ => bytes_cell (by omega) | (simp +contextual only [go_sem]; done) | fail, ?_⟩
        refine h21 _ _ ?_
        clear h21
        refine AWp_seq fun K22 h22 => ?_
        refine AWp_seq fun K23 h23 => ?_
        refine AWp_fzE (l := [.tmp 11]) ?_
        simp only [go_sem, reduceIte, Nat.reduceEqDiff, Nat.reduceLT, decide_true, reduceCtorEq, Nat.reduceAdd, Nat.reduceBEq, Nat.reduceMul, Nat.reduceLeDiff, Int.reduceToNat, nB1_B0, nB1_B0.symm]
        refine AWp_draw tab_ok (by kernel_rfl) (q := [0, 1, 2, 3, 4, 5, 6, 7, 8, 9, 10, 11, 12, 13, 14, 15, 16, 17, 18, 19, 20, 21, 22, 23, 24, 25]) (tk := []) (cv := (fun k => if k = 6 then some (.sc (.int .i64 (if (allL r3 n).2.bad then 0 else (allL r3 n).2.left.length : Int))) else if k = 20 then some (.lst 1 (bytes (bytesL (fr : Nat) (allL r3 n).1.2))) else none)) (by kernel_rfl) ?_
        simp only [go_sem, reduceIte, Nat.reduceEqDiff, Nat.reduceLT, decide_true, reduceCtorEq, Nat.reduceAdd, Nat.reduceBEq, Nat.reduceMul, Nat.reduceLeDiff, Int.reduceToNat, nB1_B0, nB1_B0.symm, strB_beq]
        repeat refine ⟨by first | assumption | omega | exact True.intro | exact rfl | exact bts_cells _ | exact bytes_all _ | exact fun h => ⟨h, bytes_all _⟩ | exact fun h => ⟨h, refLeft_spec _ _ (allL r3 n).2 B0 (by simp only [go_sem, reduceIte, Nat.reduceEqDiff, Nat.reduceLT, decide_true, reduceCtorEq, Nat.reduceAdd, Nat.reduceBEq, Nat.reduceMul, Nat.reduceLeDiff, Int.reduceToNat, nB1_B0, nB1_B0.symm]) ⟨rfl, rfl⟩⟩ | exact fun h => ⟨h, bytes22_spec _ _ (fr : Nat) (allL r3 n).1.2 (by omega) hids ⟨rfl, rfl⟩⟩ | exact fun h => by simpa using h | exact List.mem_cons_self | exact bytes_cell (by omega) | exact fun _ => bytes_cell (by omega) | (simp +contextual only [go_sem]; done) | fail, ?_⟩
        refine h23 _ _ ?_
        clear h23
        refine AWp_if fun kk hkk => ?_
        simp only [go_sem, reduceIte, Nat.reduceEqDiff, Nat.reduceLT, decide_true, reduceCtorEq, Nat.reduceAdd, Nat.reduceBEq, Nat.reduceMul, Nat.reduceLeDiff, Int.reduceToNat, nB1_B0, nB1_B0.symm]
        repeat refine ⟨by first | assumption | omega | exact True.intro | exact rfl | exact bts_cells _ | exact bytes_all _ | exact fun h => ⟨h, bytes_all _⟩ | exact fun h => ⟨h, refLeft_spec _ _ (allL r3 n).2 B0 (by simp only [go_sem, reduceIte, Nat.reduceEqDiff, Nat.reduceLT, decide_true, reduceCtorEq, Nat.reduceAdd, Nat.reduceBEq, Nat.reduceMul, Nat.reduceLeDiff, Int.reduceToNat, nB1_B0, nB1_B0.symm]) ⟨rfl, rfl⟩⟩ | exact fun h => ⟨h, bytes22_spec _ _ (fr : Nat) (allL r3 n).1.2 (by omega) hids ⟨rfl, rfl⟩⟩ | exact fun h => by simpa using h | exact List.mem_cons_self | exact bytes_cell (by omega) | exact fun _ => bytes_cell (by omega) | (simp +contextual only [go_sem]; done) | fail, ?_⟩
        refine hkk _ (fun hb3 => ?_) (fun hb3 => ?_) <;> clear hkk kk
        · have hds : decodeL xs = decS xs ver fr (allL r3 n) := by rw [decodeL, if_neg (by omega), if_neg (by simp [hb1]), decR, hg1]; dsimp only; rw [hg2]; dsimp only; rw [hg3]
          rw [decS] at hds
          refine AWp_seq fun K24 h24 => ?_
          refine AWp_region tab_ok [] ?_
          simp only [go_sem, reduceIte, Nat.reduceEqDiff, Nat.reduceLT, decide_true, reduceCtorEq, Nat.reduceAdd, Nat.reduceBEq, Nat.reduceMul, Nat.reduceLeDiff, Int.reduceToNat, nB1_B0, nB1_B0.symm]
          repeat refine ⟨by first | assumption | omega | exact True.intro | exact rfl | exact bts_cells _ | exact bytes_all _ | exact fun h => ⟨h, bytes_all _⟩ | exact fun h => ⟨h, refLeft_spec _ _ (allL r3 n).2 B0 (by simp only [go_sem, reduceIte, Nat.reduceEqDiff, Nat.reduceLT, decide_true, reduceCtorEq, Nat.reduceAdd, Nat.reduceBEq, Nat.reduceMul, Nat.reduceLeDiff, Int.reduceToNat, nB1_B0, nB1_B0.symm]) ⟨rfl, rfl⟩⟩ | exact fun h => ⟨h, bytes22_spec _ _ (fr : Nat) (allL r3 n).1.2 (by omega) hids ⟨rfl, rfl⟩⟩ | exact fun h => by simpa using h | exact List.mem_cons_self | exact bytes_cell (by omega) | exact fun _ => bytes_cell (by omega) | (simp +contextual only [go_sem]; done) | fail, ?_⟩
          refine h24 _ _ ?_
          clear h24
          refine AWp_fzE (l := [.tmp 2, .tmp 3, .tmp 4]) ?_
          refine AWp_ret ?_
          refine retQ_mk H (by first | exact fun _ _ h => h | assumption | exact Fr_weak (by repeat (first | exact Fr_refl _ _ | refine Fr_new (by assumption) ?_ | refine Fr_old (by simp only [List.map_cons, List.mem_cons, true_or, or_true]) ?_))) (.inr rfl) ?_
          simp only [go_sem, reduceIte, Nat.reduceEqDiff, Nat.reduceLT, decide_true, reduceCtorEq, Nat.reduceAdd, Nat.reduceBEq, Nat.reduceMul, Nat.reduceLeDiff, Int.reduceToNat, nB1_B0, nB1_B0.symm]
          repeat refine ⟨by first | assumption | omega | exact True.intro | exact rfl | exact bts_cells _ | exact bytes_all _ | exact fun h => ⟨h, bytes_all _⟩ | exact fun h => ⟨h, refLeft_spec _ _ (allL r3 n).2 B0 (by simp only [go_sem, reduceIte, Nat.reduceEqDiff, Nat.reduceLT, decide_true, reduceCtorEq, Nat.reduceAdd, Nat.reduceBEq, Nat.reduceMul, Nat.reduceLeDiff, Int.reduceToNat, nB1_B0, nB1_B0.symm]) ⟨rfl, rfl⟩⟩ | exact fun h => ⟨h, bytes22_spec _ _ (fr : Nat) (allL r3 n).1.2 (by omega) hids ⟨rfl, rfl⟩⟩ | exact fun h => by simpa using h | exact List.mem_cons_self | exact bytes_cell (by omega) | exact fun _ => bytes_cell (by omega) | (simp +contextual only [go_sem]; done) | fail, ?_⟩
          rw [hds, if_pos hb3] at hK
          exact hK
        · have hds : decodeL xs = decS xs ver fr (allL r3 n) := by rw [decodeL, if_neg (by omega), if_neg (by simp [hb1]), decR, hg1]; dsimp only; rw [hg2]; dsimp only; rw [hg3]
          rw [decS] at hds
          refine AWp_skip ?_
          refine h22 _ _ ?_
          refine AWp_seq fun K25 h25 => ?_
          refine AWp_region tab_ok [0, 1] ?_
          simp only [go_sem, reduceIte, Nat.reduceEqDiff, Nat.reduceLT, decide_true, reduceCtorEq, Nat.reduceAdd, Nat.reduceBEq, Nat.reduceMul, Nat.reduceLeDiff, Int.reduceToNat, nB1_B0, nB1_B0.symm]
          repeat refine ⟨by first | assumption | omega | exact True.intro | exact rfl | exact bts_cells _ | exact bytes_all _ | exact fun h => ⟨h, bytes_all _⟩ | exact fun h => ⟨h, refLeft_spec _ _ (allL r3 n).2 B0 (by simp only [go_sem, reduceIte, Nat.reduceEqDiff, Nat.reduceLT, decide_true, reduceCtorEq, Nat.reduceAdd, Nat.reduceBEq, Nat.reduceMul, Nat.reduceLeDiff, Int.reduceToNat, nB1_B0, nB1_B0.symm]) ⟨rfl, rfl⟩⟩ | exact fun h => ⟨h, bytes22_spec _ _ (fr : Nat) (allL r3 n).1.2 (by omega) hids ⟨rfl, rfl⟩⟩ | exact fun h => by simpa using h | exact List.mem_cons_self | exact bytes_cell (by omega) | exact fun _ => bytes_cell (by omega) | (simp +contextual only [go_sem]; done) | fail, ?_⟩
          refine h25 _ _ ?_
          clear h25
          refine AWp_fzE (l := [.tmp 2, .tmp 3, .tmp 4]) ?_
          refine AWp_ret ?_
          refine retQ_mk H (by first | exact fun _ _ h => h | assumption | exact Fr_weak (by repeat (first | exact Fr_refl _ _ | refine Fr_new (by assumption) ?_ | refine Fr_old (by simp only [List.map_cons, List.mem_cons, true_or, or_true]) ?_))) (.inr rfl) ?_
          simp only [go_sem, reduceIte, Nat.reduceEqDiff, Nat.reduceLT, decide_true, reduceCtorEq, Nat.reduceAdd, Nat.reduceBEq, Nat.reduceMul, Nat.reduceLeDiff, Int.reduceToNat, nB1_B0, nB1_B0.symm]
          repeat refine ⟨by first | assumption | omega | exact True.intro | exact rfl | exact bts_cells _ | exact bytes_all _ | exact fun h => ⟨h, bytes_all _⟩ | exact fun h => ⟨h, refLeft_spec _ _ (allL r3 n).2 B0 (by simp only [go_sem, reduceIte, Nat.reduceEqDiff, Nat.reduceLT, decide_true, reduceCtorEq, Nat.reduceAdd, Nat.reduceBEq, Nat.reduceMul, Nat.reduceLeDiff, Int.reduceToNat, nB1_B0, nB1_B0.symm]) ⟨rfl, rfl⟩⟩ | exact fun h => ⟨h, bytes22_spec _ _ (fr : Nat) (allL r3 n).1.2 (by omega) hids ⟨rfl, rfl⟩⟩ | exact fun h => by simpa using h | exact List.mem_cons_self | exact bytes_cell (by omega) | exact fun _ => bytes_cell (by omega) | (simp +contextual only [go_sem]; done) | fail, ?_⟩
          rw [hds, if_neg (by rw [hb3]; decide)] at hK
          exact hK

set_option maxRecDepth 100000 in
theorem equal18_spec (H : Hp) (K : AV → Hp → Prop) (a b : List Bt) (h_0 : a.length < 2^63) (h_1 : b.length < 2^63) (h_2 : ∀ x ∈ a, x.ids.length < 2^63) (h_3 : ∀ x ∈ b, x.ids.length < 2^63) (hK : K (.sc (.bool (a == b))) H) :
    ACalls Go.Proofs.Try.prog 16 [.lst 0 (bts a), .lst 0 (bts b)] H K := by
  refine ACalls_fn tab_ok Go.Proofs.Try.func16 45 [.tmp 4] rfl rfl rfl rfl fun d => ?_
  refine AWp_seq fun K1 h1 => ?_
  refine AWp_region tab_ok [] ?_
  simp only [go_sem, reduceIte, Nat.reduceEqDiff, Nat.reduceLT, decide_true, reduceCtorEq, Nat.reduceAdd, Nat.reduceBEq, Nat.reduceMul, Nat.reduceLeDiff, Int.reduceToNat]
  repeat refine ⟨by first | assumption | omega | exact True.intro | exact rfl | exact bts_cell (by omega) | exact fun K hK => refState_spec _ _ a[i] b[i] hK | exact fun K hK => refSame_spec _ _ a[i].ids b[i].ids (h_2 _ (List.getElem_mem _)) (h_3 _ (List.getElem_mem _)) hK | exact fun h => by simpa using h | exact List.mem_cons_self | exact bytes_cell (by omega) | exact fun _ => bytes_cell (by omega) | (simp +contextual only [go_sem]; done) | fail, ?_⟩
  refine h1 _ _ ?_
  clear h1
  refine AWp_seq fun K2 h2 => ?_
  refine AWp_seq fun K3 h3 => ?_
  refine AWp_region tab_ok [] ?_
  simp only [go_sem, reduceIte, Nat.reduceEqDiff, Nat.reduceLT, decide_true, reduceCtorEq, Nat.reduceAdd, Nat.reduceBEq, Nat.reduceMul, Nat.reduceLeDiff, Int.reduceToNat]
  repeat refine ⟨by first | assumption | omega | exact True.intro | exact rfl | exact bts_cell (by omega) | exact fun K hK => refState_spec _ _ a[i] b[i] hK | exact fun K hK => refSame_spec _ _ a[i].ids b[i].ids (h_2 _ (List.getElem_mem _)) (h_3 _ (List.getElem_mem _)) hK | exact fun h => by simpa using h | exact List.mem_cons_self | exact bytes_cell (by omega) | exact fun _ => bytes_cell (by omega) | (simp +contextual only [go_sem]; done) | fail, ?_⟩
  refine h3 _ _ ?_
  clear h3
  refine AWp_if fun kk hkk => ?_
  simp only [go_sem, reduceIte, Nat.reduceEqDiff, Nat.reduceLT, decide_true, reduceCtorEq, Nat.reduceAdd, Nat.reduceBEq, Nat.reduceMul, Nat.reduceLeDiff, Int.reduceToNat]
  repeat refine ⟨by first | assumption | omega | exact True.intro | exact rfl | exact bts_cell (by omega) | exact fun K hK => refState_spec _ _ a[i] b[i] hK | exact fun K hK => refSame_spec _ _ a[i].ids b[i].ids (h_2 _ (List.getElem_mem _)) (h_3 _ (List.getElem_mem _)) hK | exact fun h => by simpa using h | exact List.mem_cons_self | exact bytes_cell (by omega) | exact fun _ => bytes_cell (by omega) | (simp +contextual only [go_sem]; done) | fail, ?_⟩
  refine hkk _ (fun hb0 => ?_) (fun hb0 => ?_) <;> clear hkk kk
  · simp only [bne_iff_ne, ne_eq, bne_eq_false_iff_eq, beq_iff_eq, beq_eq_false_iff_ne, decide_eq_true_eq, decide_eq_false_iff_not, Bool.not_eq_true', Bool.not_eq_false', Bool.and_eq_true, Bool.and_eq_false_iff, Bool.or_eq_true, Bool.or_eq_false_iff, Int.natCast_inj, not_true_eq_false, not_false_eq_true] at hb0
    refine AWp_seq fun K4 h4 => ?_
    refine AWp_region tab_ok [] ?_
    simp only [go_sem, reduceIte, Nat.reduceEqDiff, Nat.reduceLT, decide_true, reduceCtorEq, Nat.reduceAdd, Nat.reduceBEq, Nat.reduceMul, Nat.reduceLeDiff, Int.reduceToNat]
    repeat refine ⟨by first | assumption | omega | exact True.intro | exact rfl | exact bts_cell (by omega) | exact fun K hK => refState_spec _ _ a[i] b[i] hK | exact fun K hK => refSame_spec _ _ a[i].ids b[i].ids (h_2 _ (List.getElem_mem _)) (h_3 _ (List.getElem_mem _)) hK | exact fun h => by simpa using h | exact List.mem_cons_self | exact bytes_cell (by omega) | exact fun _ => bytes_cell (by omega) | (simp +contextual only [go_sem]; done) | fail, ?_⟩
    refine h4 _ _ ?_
    clear h4
    refine AWp_ret ?_
    refine retQ_ret ?_
    simp only [go_sem, reduceIte, Nat.reduceEqDiff, Nat.reduceLT, decide_true, reduceCtorEq, Nat.reduceAdd, Nat.reduceBEq, Nat.reduceMul, Nat.reduceLeDiff, Int.reduceToNat]
    repeat refine ⟨by first | assumption | omega | exact True.intro | exact rfl | exact bts_cell (by omega) | exact fun K hK => refState_spec _ _ a[i] b[i] hK | exact fun K hK => refSame_spec _ _ a[i].ids b[i].ids (h_2 _ (List.getElem_mem _)) (h_3 _ (List.getElem_mem _)) hK | exact fun h => by simpa using h | exact List.mem_cons_self | exact bytes_cell (by omega) | exact fun _ => bytes_cell (by omega) | (simp +contextual only [go_sem]; done) | fail, ?_⟩
    rw [show (a == b) = false from by rw [beq_eq_false_iff_ne]; rintro rfl; exact hb0 rfl] at hK; exact hK
  · simp only [bne_iff_ne, ne_eq, bne_eq_false_iff_eq, beq_iff_eq, beq_eq_false_iff_ne, decide_eq_true_eq, decide_eq_false_iff_not, Bool.not_eq_true', Bool.not_eq_false', Bool.and_eq_true, Bool.and_eq_false_iff, Bool.or_eq_true, Bool.or_eq_false_iff, Int.natCast_inj, not_true_eq_false, not_false_eq_true] at hb0
    refine AWp_skip ?_
    refine h2 _ _ ?_
    refine AWp_seq fun K5 h5 => ?_
    refine AWp_seq fun K6 h6 => ?_
    refine AWp_region tab_ok [] ?_
    simp only [go_sem, reduceIte, Nat.reduceEqDiff, Nat.reduceLT, decide_true, reduceCtorEq, Nat.reduceAdd, Nat.reduceBEq, Nat.reduceMul, Nat.reduceLeDiff, Int.reduceToNat]
    repeat refine ⟨by first | assumption | omega | exact True.intro | exact rfl | exact bts_cell (by omega) | exact fun K hK => refState_spec _ _ a[i] b[i] hK | exact fun K hK => refSame_spec _ _ a[i].ids b[i].ids (h_2 _ (List.getElem_mem _)) (h_3 _ (List.getElem_mem _)) hK | exact fun h => by simpa using h | exact List.mem_cons_self | exact bytes_cell (by omega) | exact fun _ => bytes_cell (by omega) | (simp +contextual only [go_sem]; done) | fail, ?_⟩
    refine h6 _ _ ?_
    clear h6
    refine AWp_block ?_
    refine AWp_loop_ind (ι := (Nat)) (fun (i : Nat) => [(5, .sc (.int .i64 i)), (0, .lst 0 (bts a)), (1, .lst 0 (bts b))]) (fun (i : Nat) => H) (fun (i : Nat) => (i ≤ a.length) ∧ (a.take i = b.take i)) (fun (i : Nat) => a.length - i) 0 ?_ ?_ ?_ ?_
    · exact ⟨by omega, rfl⟩
    · exact fun _ _ h => h
    · simp only [go_sem, reduceIte, Nat.reduceEqDiff, Nat.reduceLT, decide_true, reduceCtorEq, Nat.reduceAdd, Nat.reduceBEq, Nat.reduceMul, Nat.reduceLeDiff, Int.reduceToNat]; first | done | exact True.intro | (repeat' apply And.intro) <;> first | rfl | exact True.intro
    rintro i ⟨hi0_0, hi0_1⟩ L0 hL0
    skip
    refine AWp_seq fun K7 h7 => ?_
    refine AWp_seq fun K8 h8 => ?_
    refine AWp_region tab_ok [] ?_
    simp only [go_sem, reduceIte, Nat.reduceEqDiff, Nat.reduceLT, decide_true, reduceCtorEq, Nat.reduceAdd, Nat.reduceBEq, Nat.reduceMul, Nat.reduceLeDiff, Int.reduceToNat]
    repeat refine ⟨by first | assumption | omega | exact True.intro | exact rfl | exact bts_cell (by omega) | exact fun K hK => refState_spec _ _ a[i] b[i] hK | exact fun K hK => refSame_spec _ _ a[i].ids b[i].ids (h_2 _ (List.getElem_mem _)) (h_3 _ (List.getElem_mem _)) hK | exact fun h => by simpa using h | exact List.mem_cons_self | exact bytes_cell (by omega) | exact fun _ => bytes_cell (by omega) | (simp +contextual only [go_sem]; done) | fail, ?_⟩
    refine h8 _ _ ?_
    clear h8
    refine AWp_if fun kk hkk => ?_
    simp only [go_sem, reduceIte, Nat.reduceEqDiff, Nat.reduceLT, decide_true, reduceCtorEq, Nat.reduceAdd, Nat.reduceBEq, Nat.reduceMul, Nat.reduceLeDiff, Int.reduceToNat]
    repeat refine ⟨by first | assumption | omega | exact True.intro | exact rfl | exact bts_cell (by omega) | exact fun K hK => refState_spec _ _ a[i] b[i] hK | exact fun K hK => refSame_spec _ _ a[i].ids b[i].ids (h_2 _ (List.getElem_mem _)) (h_3 _ (List.getElem_mem _)) hK | exact fun h => by simpa using h | exact List.mem_cons_self | exact bytes_cell (by omega) | exact fun _ => bytes_cell (by omega) | (simp +contextual only [go_sem]; done) | fail, ?_⟩
    refine hkk _ (fun hb1 => ?_) (fun hb1 => ?_) <;> clear hkk kk
    · simp only [bne_iff_ne, ne_eq, bne_eq_false_iff_eq, beq_iff_eq, beq_eq_false_iff_ne, decide_eq_true_eq, decide_eq_false_iff_not, Bool.not_eq_true', Bool.not_eq_false', Bool.and_eq_true, Bool.and_eq_false_iff, Bool.or_eq_true, Bool.or_eq_false_iff, Int.natCast_inj, not_true_eq_false, not_false_eq_true] at hb1
      have hib : i < b.length := by omega
      have hia : i < a.length := by omega
      refine AWp_skip ?_
      refine h7 _ _ ?_
      refine AWp_seq fun K9 h9 => ?_
      refine AWp_block ?_
      refine AWp_seq fun K10 h10 => ?_
      refine AWp_draw tab_ok (by kernel_rfl) (q := [0, 1, 2, 3, 4, 5, 6, 7, 8, 9]) (tk := []) (cv := (fun k => if k = 8 then some (.sc (.bool (stEq a[i] b[i]))) else none)) (by kernel_rfl) ?_
      simp only [go_sem, reduceIte, Nat.reduceEqDiff, Nat.reduceLT, decide_true, reduceCtorEq, Nat.reduceAdd, Nat.reduceBEq, Nat.reduceMul, Nat.reduceLeDiff, Int.reduceToNat]
      try simp (disch := omega) only [bts_get]
      try simp only [go_sem, reduceIte, Nat.reduceEqDiff, Nat.reduceLT, decide_true, reduceCtorEq, Nat.reduceAdd, Nat.reduceBEq, Nat.reduceMul, Nat.reduceLeDiff, Int.reduceToNat]
      repeat refine ⟨by first | assumption | omega | exact True.intro | exact rfl | exact bts_cell (by omega) | exact fun K hK => refState_spec _ _ a[i] b[i] hK | exact fun K hK => refSame_spec _ _ a[i].ids b[i].ids (h_2 _ (List.getElem_mem _)) (h_3 _ (List.getElem_mem _)) hK | exact fun h => by simpa using h | exact List.mem_cons_self | exact bytes_cell (by omega) | exact fun _ => bytes_cell (by omega) | (simp +contextual only [go_sem]; done) | fail, ?_⟩
      refine h10 _ _ ?_
      clear h10
      refine AWp_seq fun K11 h11 => ?_
      refine AWp_draw tab_ok (by kernel_rfl) (q := [0, 1, 2, 3, 4, 5, 6, 7, 8, 9, 10, 11]) (tk := []) (cv := (fun k => if k = 10 then some (.sc (.bool (a[i].ids == b[i].ids))) else none)) (by kernel_rfl) ?_
      simp only [go_sem, reduceIte, Nat.reduceEqDiff, Nat.reduceLT, decide_true, reduceCtorEq, Nat.reduceAdd, Nat.reduceBEq, Nat.reduceMul, Nat.reduceLeDiff, Int.reduceToNat]
      try simp (disch := omega) only [bts_get]
      try simp only [go_sem, reduceIte, Nat.reduceEqDiff, Nat.reduceLT, decide_true, reduceCtorEq, Nat.reduceAdd, Nat.reduceBEq, Nat.reduceMul, Nat.reduceLeDiff, Int.reduceToNat]
      repeat (simp (disch := omega) only [bts_get]; try simp only [go_sem, reduceIte, Nat.reduceEqDiff, Nat.reduceLT, decide_true, reduceCtorEq, Nat.reduceAdd, Nat.reduceBEq, Nat.reduceMul, Nat.reduceLeDiff, Int.reduceToNat])
      repeat refine ⟨by first | assumption | omega | exact True.intro | exact rfl | exact bts_cell (by omega) | exact fun K hK => refState_spec _ _ a[i] b[i] hK | exact fun K hK => refSame_spec _ _ a[i].ids b[i].ids (h_2 _ (List.getElem_mem _)) (h_3 _ (List.getElem_mem _)) hK | exact fun h => by simpa using h | exact List.mem_cons_self | exact bytes_cell (by omega) | exact fun _ => bytes_cell (by omega) | (simp +contextual only [go_sem]; done) | fail, ?_⟩
      refine h11 _ _ ?_
      clear h11
      refine AWp_seq fun K12 h12 => ?_
      refine AWp_region tab_ok [] ?_
      simp only [go_sem, reduceIte, Nat.reduceEqDiff, Nat.reduceLT, decide_true, reduceCtorEq, Nat.reduceAdd, Nat.reduceBEq, Nat.reduceMul, Nat.reduceLeDiff, Int.reduceToNat]
      repeat refine ⟨by first | assumption | omega | exact True.intro | exact rfl | exact bts_cell (by omega) | exact fun K hK => refState_spec _ _ a[i] b[i] hK | exact fun K hK => refSame_spec _ _ a[i].ids b[i].ids (h_2 _ (List.getElem_mem _)) (h_3 _ (List.getElem_mem _)) hK | exact fun h => by simpa using h | exact List.mem_cons_self | exact bytes_cell (by omega) | exact fun _ => bytes_cell (by omega) | (simp +contextual only [go_sem]; done) | fail, ?_⟩
      refine h12 _ _ ?_
      clear h12
      refine AWp_if fun kk hkk => ?_
      simp only [go_sem, reduceIte, Nat.reduceEqDiff, Nat.reduceLT, decide_true, reduceCtorEq, Nat.reduceAdd, Nat.reduceBEq, Nat.reduceMul, Nat.reduceLeDiff, Int.reduceToNat]
      repeat refine ⟨by first | assumption | omega | exact True.intro | exact rfl | exact bts_cell (by omega) | exact fun K hK => refState_spec _ _ a[i] b[i] hK | exact fun K hK => refSame_spec _ _ a[i].ids b[i].ids (h_2 _ (List.getElem_mem _)) (h_3 _ (List.getElem_mem _)) hK | exact fun h => by simpa using h | exact List.mem_cons_self | exact bytes_cell (by omega) | exact fun _ => bytes_cell (by omega) | (simp +contextual only [go_sem]; done) | fail, ?_⟩
      refine hkk _ (fun hb2 => ?_) (fun hb2 => ?_) <;> clear hkk kk
      · skip
        refine AWp_seq fun K13 h13 => ?_
        refine AWp_region tab_ok [] ?_
        simp only [go_sem, reduceIte, Nat.reduceEqDiff, Nat.reduceLT, decide_true, reduceCtorEq, Nat.reduceAdd, Nat.reduceBEq, Nat.reduceMul, Nat.reduceLeDiff, Int.reduceToNat]
        repeat refine ⟨by first | assumption | omega | exact True.intro | exact rfl | exact bts_cell (by omega) | exact fun K hK => refState_spec _ _ a[i] b[i] hK | exact fun K hK => refSame_spec _ _ a[i].ids b[i].ids (h_2 _ (List.getElem_mem _)) (h_3 _ (List.getElem_mem _)) hK | exact fun h => by simpa using h | exact List.mem_cons_self | exact bytes_cell (by omega) | exact fun _ => bytes_cell (by omega) | (simp +contextual only [go_sem]; done) | fail, ?_⟩
        refine h13 _ _ ?_
        clear h13
        refine AWp_ret ?_
        refine retQ_ret ?_
        simp only [go_sem, reduceIte, Nat.reduceEqDiff, Nat.reduceLT, decide_true, reduceCtorEq, Nat.reduceAdd, Nat.reduceBEq, Nat.reduceMul, Nat.reduceLeDiff, Int.reduceToNat]
        repeat refine ⟨by first | assumption | omega | exact True.intro | exact rfl | exact bts_cell (by omega) | exact fun K hK => refState_spec _ _ a[i] b[i] hK | exact fun K hK => refSame_spec _ _ a[i].ids b[i].ids (h_2 _ (List.getElem_mem _)) (h_3 _ (List.getElem_mem _)) hK | exact fun h => by simpa using h | exact List.mem_cons_self | exact bytes_cell (by omega) | exact fun _ => bytes_cell (by omega) | (simp +contextual only [go_sem]; done) | fail, ?_⟩
        rw [show (a == b) = false from by rw [beq_eq_false_iff_ne]; rintro rfl; exact stEq_ne hb2] at hK; exact hK
      · skip
        refine AWp_skip ?_
        refine h9 _ _ ?_
        refine AWp_region tab_ok [] ?_
        simp only [go_sem, reduceIte, Nat.reduceEqDiff, Nat.reduceLT, decide_true, reduceCtorEq, Nat.reduceAdd, Nat.reduceBEq, Nat.reduceMul, Nat.reduceLeDiff, Int.reduceToNat]
        try simp (disch := omega) only [wrap64]
        repeat refine ⟨by first | assumption | omega | exact True.intro | exact rfl | exact bts_cell (by omega) | exact fun K hK => refState_spec _ _ a[i] b[i] hK | exact fun K hK => refSame_spec _ _ a[i].ids b[i].ids (h_2 _ (List.getElem_mem _)) (h_3 _ (List.getElem_mem _)) hK | exact fun h => by simpa using h | exact List.mem_cons_self | exact bytes_cell (by omega) | exact fun _ => bytes_cell (by omega) | (simp +contextual only [go_sem]; done) | fail, ?_⟩
        refine hL0 (i + 1) _ _ ?_ ?_ (fun _ _ h => h) ?_
        · refine ⟨by omega, ?_⟩; rw [List.take_add_one, List.take_add_one, hi0_1, List.getElem?_eq_getElem (by omega), List.getElem?_eq_getElem (by omega), stEq_eq hb2]
        · omega
        · simp only [go_sem, reduceIte, Nat.reduceEqDiff, Nat.reduceLT, decide_true, reduceCtorEq, Nat.reduceAdd, Nat.reduceBEq, Nat.reduceMul, Nat.reduceLeDiff, Int.reduceToNat]; first | done | exact True.intro | (repeat' apply And.intro) <;> first | rfl | exact True.intro
    · simp only [bne_iff_ne, ne_eq, bne_eq_false_iff_eq, beq_iff_eq, beq_eq_false_iff_ne, decide_eq_true_eq, decide_eq_false_iff_not, Bool.not_eq_true', Bool.not_eq_false', Bool.and_eq_true, Bool.and_eq_false_iff, Bool.or_eq_true, Bool.or_eq_false_iff, Int.natCast_inj, not_true_eq_false, not_false_eq_true] at hb1
      refine AWp_exit ?_
      refine h5 _ _ ?_
      refine AWp_seq fun K14 h14 => ?_
      refine AWp_region tab_ok [] ?_
      simp only [go_sem, reduceIte, Nat.reduceEqDiff, Nat.reduceLT, decide_true, reduceCtorEq, Nat.reduceAdd, Nat.reduceBEq, Nat.reduceMul, Nat.reduceLeDiff, Int.reduceToNat]
      repeat refine ⟨by first | assumption | omega | exact True.intro | exact rfl | exact bts_cell (by omega) | exact fun K hK => refState_spec _ _ a[i] b[i] hK | exact fun K hK => refSame_spec _ _ a[i].ids b[i].ids (h_2 _ (List.getElem_mem _)) (h_3 _ (List.getElem_mem _)) hK | exact fun h => by simpa using h | exact List.mem_cons_self | exact bytes_cell (by omega) | exact fun _ => bytes_cell (by omega) | (simp +contextual only [go_sem]; done) | fail, ?_⟩
      refine h14 _ _ ?_
      clear h14
      refine AWp_ret ?_
      refine retQ_ret ?_
      simp only [go_sem, reduceIte, Nat.reduceEqDiff, Nat.reduceLT, decide_true, reduceCtorEq, Nat.reduceAdd, Nat.reduceBEq, Nat.reduceMul, Nat.reduceLeDiff, Int.reduceToNat]
      repeat refine ⟨by first | assumption | omega | exact True.intro | exact rfl | exact bts_cell (by omega) | exact fun K hK => refState_spec _ _ a[i] b[i] hK | exact fun K hK => refSame_spec _ _ a[i].ids b[i].ids (h_2 _ (List.getElem_mem _)) (h_3 _ (List.getElem_mem _)) hK | exact fun h => by simpa using h | exact List.mem_cons_self | exact bytes_cell (by omega) | exact fun _ => bytes_cell (by omega) | (simp +contextual only [go_sem]; done) | fail, ?_⟩
      have : a = b := by rw [List.take_of_length_le (by omega), List.take_of_length_le (by omega)] at hi0_1; exact hi0_1
      subst this
      simpa using hK

end Go.Ab
