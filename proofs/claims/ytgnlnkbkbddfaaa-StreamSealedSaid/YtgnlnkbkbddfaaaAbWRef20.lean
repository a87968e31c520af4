/- Ab.WRef20: what the functions of the package gessoref20 compute. -/
import Derived.Test.YtgnlnkbkbddfaaaAbWRef21
import Derived.Test.YtgnlnkbkbddfaaaAbRef20
import Derived.Test.YtgnlnkbkbddfaaaAbLists
import Derived.Test.YtgnlnkbkbddfaaaAbRefPut
namespace Go.Ab
set_option maxHeartbeats 1000000
set_option linter.unusedSimpArgs false

theorem one_step (H : Hp) (K : AV → Hp → Prop) (f n : Nat) (h_0 : n < 128 ^ (f + 1)) (h_1 : f ≤ 5) (h_2 : ∀ m : Nat, m < 128 ^ f → 1 ≤ f → ∀ (H : Hp) (K : AV → Hp → Prop), K (.lst 2 (bytes (encF f m))) H → ACalls Go.Proofs.Try.prog 141 [.sc (.int .i64 m)] H K) (hK : K (.lst 2 (bytes (encF (f + 1) n))) H) :
    ACalls Go.Proofs.Try.prog 141 [.sc (.int .i64 n)] H K := by
  refine ACalls_fn tab_ok Go.Proofs.Try.func141 22 [.tmp 2] rfl rfl rfl rfl fun d => ?_
  have hp : 128 ^ (f + 1) ≤ 4398046511104 := Nat.le_trans (Nat.pow_le_pow_right (by omega) (show f + 1 ≤ 6 by omega)) (by decide)
  have hel := encF_length f (n / 128)
  refine AWp_seq fun K1 h1 => ?_
  refine AWp_region tab_ok [] ?_
  simp only [go_sem, reduceIte, Nat.reduceEqDiff, Nat.reduceLT, decide_true, reduceCtorEq, Nat.reduceAdd, Nat.reduceBEq, Nat.reduceMul, Nat.reduceLeDiff, Int.reduceToNat]
  repeat refine ⟨by first | assumption | omega | exact True.intro | exact rfl | exact bytes_cells _ | exact Or.inr rfl | (simp only [List.length_cons, List.length_nil] at *; omega) | exact List.mem_cons_self | exact bytes_cell (by omega) | exact fun _ => bytes_cell (by omega) | (simp +contextual only [go_sem]; done) | fail, ?_⟩
  refine h1 _ _ ?_
  clear h1
  refine AWp_seq fun K2 h2 => ?_
  refine AWp_seq fun K3 h3 => ?_
  refine AWp_region tab_ok [] ?_
  simp only [go_sem, reduceIte, Nat.reduceEqDiff, Nat.reduceLT, decide_true, reduceCtorEq, Nat.reduceAdd, Nat.reduceBEq, Nat.reduceMul, Nat.reduceLeDiff, Int.reduceToNat]
  repeat refine ⟨by first | assumption | omega | exact True.intro | exact rfl | exact bytes_cells _ | exact Or.inr rfl | (simp only [List.length_cons, List.length_nil] at *; omega) | exact List.mem_cons_self | exact bytes_cell (by omega) | exact fun _ => bytes_cell (by omega) | (simp +contextual only [go_sem]; done) | fail, ?_⟩
  refine h3 _ _ ?_
  clear h3
  refine AWp_if fun kk hkk => ?_
  simp only [go_sem, reduceIte, Nat.reduceEqDiff, Nat.reduceLT, decide_true, reduceCtorEq, Nat.reduceAdd, Nat.reduceBEq, Nat.reduceMul, Nat.reduceLeDiff, Int.reduceToNat]
  repeat refine ⟨by first | assumption | omega | exact True.intro | exact rfl | exact bytes_cells _ | exact Or.inr rfl | (simp only [List.length_cons, List.length_nil] at *; omega) | exact List.mem_cons_self | exact bytes_cell (by omega) | exact fun _ => bytes_cell (by omega) | (simp +contextual only [go_sem]; done) | fail, ?_⟩
  refine hkk _ (fun hb0 => ?_) (fun hb0 => ?_) <;> clear hkk kk
  · simp only [bne_iff_ne, ne_eq, bne_eq_false_iff_eq, beq_iff_eq, beq_eq_false_iff_ne, decide_eq_true_eq, decide_eq_false_iff_not, Bool.not_eq_true', Bool.not_eq_false', Bool.and_eq_true, Bool.and_eq_false_iff, Bool.or_eq_true, Bool.or_eq_false_iff, Int.natCast_inj, not_true_eq_false, not_false_eq_true] at hb0
    refine AWp_seq fun K4 h4 => ?_
    refine AWp_region tab_ok [] ?_
    simp only [go_sem, reduceIte, Nat.reduceEqDiff, Nat.reduceLT, decide_true, reduceCtorEq, Nat.reduceAdd, Nat.reduceBEq, Nat.reduceMul, Nat.reduceLeDiff, Int.reduceToNat]
    simp only [w8_nat]
    rw [show [AV.sc (.int .u8 (BitVec.ofNat 8 n).toNat)] = bytes [BitVec.ofNat 8 n] from rfl]
    try simp only [go_sem, reduceIte, Nat.reduceEqDiff, Nat.reduceLT, decide_true, reduceCtorEq, Nat.reduceAdd, Nat.reduceBEq, Nat.reduceMul, Nat.reduceLeDiff, Int.reduceToNat]
    repeat refine ⟨by first | assumption | omega | exact True.intro | exact rfl | exact bytes_cells _ | exact Or.inr rfl | (simp only [List.length_cons, List.length_nil] at *; omega) | exact List.mem_cons_self | exact bytes_cell (by omega) | exact fun _ => bytes_cell (by omega) | (simp +contextual only [go_sem]; done) | fail, ?_⟩
    refine h4 _ _ ?_
    clear h4
    refine AWp_ret ?_
    refine retQ_ret ?_
    simp only [go_sem, reduceIte, Nat.reduceEqDiff, Nat.reduceLT, decide_true, reduceCtorEq, Nat.reduceAdd, Nat.reduceBEq, Nat.reduceMul, Nat.reduceLeDiff, Int.reduceToNat]
    repeat refine ⟨by first | assumption | omega | exact True.intro | exact rfl | exact bytes_cells _ | exact Or.inr rfl | (simp only [List.length_cons, List.length_nil] at *; omega) | exact List.mem_cons_self | exact bytes_cell (by omega) | exact fun _ => bytes_cell (by omega) | (simp +contextual only [go_sem]; done) | fail, ?_⟩
    rw [encF, if_pos (by omega)] at hK
    exact hK
  · simp only [bne_iff_ne, ne_eq, bne_eq_false_iff_eq, beq_iff_eq, beq_eq_false_iff_ne, decide_eq_true_eq, decide_eq_false_iff_not, Bool.not_eq_true', Bool.not_eq_false', Bool.and_eq_true, Bool.and_eq_false_iff, Bool.or_eq_true, Bool.or_eq_false_iff, Int.natCast_inj, not_true_eq_false, not_false_eq_true] at hb0
    refine AWp_skip ?_
    refine h2 _ _ ?_
    refine AWp_seq fun K5 h5 => ?_
    refine AWp_region tab_ok [] ?_
    simp only [go_sem, reduceIte, Nat.reduceEqDiff, Nat.reduceLT, decide_true, reduceCtorEq, Nat.reduceAdd, Nat.reduceBEq, Nat.reduceMul, Nat.reduceLeDiff, Int.reduceToNat, rem128n]
    try simp (disch := omega) only [wrap64]
    rw [w128n]
    simp only [w8_nat]
    rw [show [AV.sc (.int .u8 (BitVec.ofNat 8 (128 + n % 128)).toNat)] = bytes [BitVec.ofNat 8 (128 + n % 128)] from rfl]
    try simp only [go_sem, reduceIte, Nat.reduceEqDiff, Nat.reduceLT, decide_true, reduceCtorEq, Nat.reduceAdd, Nat.reduceBEq, Nat.reduceMul, Nat.reduceLeDiff, Int.reduceToNat]
    repeat refine ⟨by first | assumption | omega | exact True.intro | exact rfl | exact bytes_cells _ | exact Or.inr rfl | (simp only [List.length_cons, List.length_nil] at *; omega) | exact List.mem_cons_self | exact bytes_cell (by omega) | exact fun _ => bytes_cell (by omega) | (simp +contextual only [go_sem]; done) | fail, ?_⟩
    refine h5 _ _ ?_
    clear h5
    refine AWp_seq fun K6 h6 => ?_
    refine AWp_region tab_ok [] ?_
    simp only [go_sem, reduceIte, Nat.reduceEqDiff, Nat.reduceLT, decide_true, reduceCtorEq, Nat.reduceAdd, Nat.reduceBEq, Nat.reduceMul, Nat.reduceLeDiff, Int.reduceToNat, quo128n]
    rw [wrap64 (by omega) (by omega)]
    repeat refine ⟨by first | assumption | omega | exact True.intro | exact rfl | exact bytes_cells _ | exact Or.inr rfl | (simp only [List.length_cons, List.length_nil] at *; omega) | exact List.mem_cons_self | exact bytes_cell (by omega) | exact fun _ => bytes_cell (by omega) | (simp +contextual only [go_sem]; done) | fail, ?_⟩
    refine h_2 (n / 128) (Nat.div_lt_of_lt_mul (by rw [← Nat.pow_succ']; exact h_0)) (by rcases f with _ | f; (simp at h_0; omega); omega) _ _ ?_
    simp only [callK]
    simp only [go_sem, reduceIte, Nat.reduceEqDiff, Nat.reduceLT, decide_true, reduceCtorEq, Nat.reduceAdd, Nat.reduceBEq, Nat.reduceMul, Nat.reduceLeDiff, Int.reduceToNat, quo128n]
    repeat refine ⟨by first | assumption | omega | exact True.intro | exact rfl | exact bytes_cells _ | exact Or.inr rfl | (simp only [List.length_cons, List.length_nil] at *; omega) | exact List.mem_cons_self | exact bytes_cell (by omega) | exact fun _ => bytes_cell (by omega) | (simp +contextual only [go_sem]; done) | fail, ?_⟩
    refine h6 _ _ ?_
    clear h6
    refine AWp_seq fun K7 h7 => ?_
    refine AWp_region tab_ok [0] ?_
    simp only [go_sem, reduceIte, Nat.reduceEqDiff, Nat.reduceLT, decide_true, reduceCtorEq, Nat.reduceAdd, Nat.reduceBEq, Nat.reduceMul, Nat.reduceLeDiff, Int.reduceToNat]
    repeat refine ⟨by first | assumption | omega | exact True.intro | exact rfl | exact bytes_cells _ | exact Or.inr rfl | (simp only [List.length_cons, List.length_nil] at *; omega) | exact List.mem_cons_self | exact bytes_cell (by omega) | exact fun _ => bytes_cell (by omega) | (simp +contextual only [go_sem]; done) | fail, ?_⟩
    refine h7 _ _ ?_
    clear h7
    refine AWp_seq fun K8 h8 => ?_
    refine AWp_region tab_ok [0] ?_
    simp only [go_sem, reduceIte, Nat.reduceEqDiff, Nat.reduceLT, decide_true, reduceCtorEq, Nat.reduceAdd, Nat.reduceBEq, Nat.reduceMul, Nat.reduceLeDiff, Int.reduceToNat]
    repeat refine ⟨by first | assumption | omega | exact True.intro | exact rfl | exact bytes_cells _ | exact Or.inr rfl | (simp only [List.length_cons, List.length_nil] at *; omega) | exact List.mem_cons_self | exact bytes_cell (by omega) | exact fun _ => bytes_cell (by omega) | (simp +contextual only [go_sem]; done) | fail, ?_⟩
    refine h8 _ _ ?_
    clear h8
    refine AWp_ret ?_
    refine retQ_ret ?_
    simp only [go_sem, reduceIte, Nat.reduceEqDiff, Nat.reduceLT, decide_true, reduceCtorEq, Nat.reduceAdd, Nat.reduceBEq, Nat.reduceMul, Nat.reduceLeDiff, Int.reduceToNat]
    repeat refine ⟨by first | assumption | omega | exact True.intro | exact rfl | exact bytes_cells _ | exact Or.inr rfl | (simp only [List.length_cons, List.length_nil] at *; omega) | exact List.mem_cons_self | exact bytes_cell (by omega) | exact fun _ => bytes_cell (by omega) | (simp +contextual only [go_sem]; done) | fail, ?_⟩
    rw [encF_step (by omega)] at hK
    exact hK

theorem one_all : ∀ (f n : Nat), n < 128 ^ (f + 1) → f ≤ 5 → ∀ (H : Hp) (K : AV → Hp → Prop), K (.lst 2 (bytes (encF (f + 1) n))) H → ACalls Go.Proofs.Try.prog 141 [.sc (.int .i64 n)] H K
  | 0, n, h, h5, H, K, hK => one_step H K 0 n h h5 (fun _ _ h => absurd h (by omega)) hK
  | f + 1, n, h, h5, H, K, hK => one_step H K (f + 1) n h h5 (fun m hm _ => one_all f m hm (by omega)) hK

theorem one_spec (H : Hp) (K : AV → Hp → Prop) (n : Nat) (h : n < 4398046511104) (hK : K (.lst 2 (bytes (encF 6 n))) H) : ACalls Go.Proofs.Try.prog 141 [.sc (.int .i64 n)] H K :=
  one_all 5 n h (by omega) H K hK

theorem refPut_spec (H : Hp) (K : AV → Hp → Prop) (l : List Int) (h_0 : l.length < 2^25) (hK : K (.tup [.lst 0 (bytes (refPut l).1), .sc (.int .i64 (refPut l).2)]) H) :
    ACalls Go.Proofs.Try.prog 145 [.lst 0 (ints l)] H K := by
  refine ACalls_fn tab_ok Go.Proofs.Try.func145 34 [.tmp 2, .tmp 3] rfl rfl rfl rfl fun d => ?_
  refine AWp_seq fun K1 h1 => ?_
  refine AWp_region tab_ok [] ?_
  simp only [go_sem, reduceIte, Nat.reduceEqDiff, Nat.reduceLT, decide_true, reduceCtorEq, Nat.reduceAdd, Nat.reduceBEq, Nat.reduceMul, Nat.reduceLeDiff, Int.reduceToNat]
  repeat refine ⟨by first | assumption | omega | exact True.intro | exact rfl | exact bytes_cells _ | exact fun _ => ints_cell (by omega) | exact ints_cell (by omega) | exact Or.inr rfl | exact fun h => ⟨h, by omega⟩ | exact fun h => by rw [h]; rfl | exact List.mem_cons_self | exact bytes_cell (by omega) | exact fun _ => bytes_cell (by omega) | (simp +contextual only [go_sem]; done) | fail, ?_⟩
  refine h1 _ _ ?_
  clear h1
  refine AWp_seq fun K2 h2 => ?_
  refine AWp_region tab_ok [] ?_
  simp only [go_sem, reduceIte, Nat.reduceEqDiff, Nat.reduceLT, decide_true, reduceCtorEq, Nat.reduceAdd, Nat.reduceBEq, Nat.reduceMul, Nat.reduceLeDiff, Int.reduceToNat]
  repeat refine ⟨by first | assumption | omega | exact True.intro | exact rfl | exact bytes_cells _ | exact fun _ => ints_cell (by omega) | exact ints_cell (by omega) | exact Or.inr rfl | exact fun h => ⟨h, by omega⟩ | exact fun h => by rw [h]; rfl | exact List.mem_cons_self | exact bytes_cell (by omega) | exact fun _ => bytes_cell (by omega) | (simp +contextual only [go_sem]; done) | fail, ?_⟩
  refine h2 _ _ ?_
  clear h2
  refine AWp_seq fun K3 h3 => ?_
  refine AWp_seq fun K4 h4 => ?_
  refine AWp_region tab_ok [] ?_
  simp only [go_sem, reduceIte, Nat.reduceEqDiff, Nat.reduceLT, decide_true, reduceCtorEq, Nat.reduceAdd, Nat.reduceBEq, Nat.reduceMul, Nat.reduceLeDiff, Int.reduceToNat]
  repeat refine ⟨by first | assumption | omega | exact True.intro | exact rfl | exact bytes_cells _ | exact fun _ => ints_cell (by omega) | exact ints_cell (by omega) | exact Or.inr rfl | exact fun h => ⟨h, by omega⟩ | exact fun h => by rw [h]; rfl | exact List.mem_cons_self | exact bytes_cell (by omega) | exact fun _ => bytes_cell (by omega) | (simp +contextual only [go_sem]; done) | fail, ?_⟩
  refine h4 _ _ ?_
  clear h4
  refine AWp_block ?_
  refine AWp_loop_ind (ι := (Nat) × (List (BitVec 8))) (fun (s : (Nat) × (List (BitVec 8))) => match s with | (i, w) => [(5, .sc (.int .i64 i)), (4, .lst 2 (bytes w)), (0, .lst 0 (ints l))]) (fun (s : (Nat) × (List (BitVec 8))) => match s with | (i, w) => H) (fun (s : (Nat) × (List (BitVec 8))) => match s with | (i, w) => (i ≤ l.length) ∧ (putL ([], false) (l.take i) = (w, false)) ∧ (w.length ≤ 6 * i)) (fun (s : (Nat) × (List (BitVec 8))) => match s with | (i, w) => l.length - i) (0, []) ?_ ?_ ?_ ?_
  · exact ⟨by omega, rfl, by simp⟩
  · exact fun _ _ h => h
  · simp only [go_sem, reduceIte, Nat.reduceEqDiff, Nat.reduceLT, decide_true, reduceCtorEq, Nat.reduceAdd, Nat.reduceBEq, Nat.reduceMul, Nat.reduceLeDiff, Int.reduceToNat]; first | done | exact True.intro | (repeat' apply And.intro) <;> first | rfl | exact True.intro
  rintro ⟨i, w⟩ ⟨hi0_0, hi0_1, hi0_2⟩ L0 hL0
  dsimp only at *
  refine AWp_seq fun K5 h5 => ?_
  refine AWp_seq fun K6 h6 => ?_
  refine AWp_region tab_ok [] ?_
  simp only [go_sem, reduceIte, Nat.reduceEqDiff, Nat.reduceLT, decide_true, reduceCtorEq, Nat.reduceAdd, Nat.reduceBEq, Nat.reduceMul, Nat.reduceLeDiff, Int.reduceToNat]
  repeat refine ⟨by first | assumption | omega | exact True.intro | exact rfl | exact bytes_cells _ | exact fun _ => ints_cell (by omega) | exact ints_cell (by omega) | exact Or.inr rfl | exact fun h => ⟨h, by omega⟩ | exact fun h => by rw [h]; rfl | exact List.mem_cons_self | exact bytes_cell (by omega) | exact fun _ => bytes_cell (by omega) | (simp +contextual only [go_sem]; done) | fail, ?_⟩
  refine h6 _ _ ?_
  clear h6
  refine AWp_if fun kk hkk => ?_
  simp only [go_sem, reduceIte, Nat.reduceEqDiff, Nat.reduceLT, decide_true, reduceCtorEq, Nat.reduceAdd, Nat.reduceBEq, Nat.reduceMul, Nat.reduceLeDiff, Int.reduceToNat]
  repeat refine ⟨by first | assumption | omega | exact True.intro | exact rfl | exact bytes_cells _ | exact fun _ => ints_cell (by omega) | exact ints_cell (by omega) | exact Or.inr rfl | exact fun h => ⟨h, by omega⟩ | exact fun h => by rw [h]; rfl | exact List.mem_cons_self | exact bytes_cell (by omega) | exact fun _ => bytes_cell (by omega) | (simp +contextual only [go_sem]; done) | fail, ?_⟩
  refine hkk _ (fun hb0 => ?_) (fun hb0 => ?_) <;> clear hkk kk
  · simp only [bne_iff_ne, ne_eq, bne_eq_false_iff_eq, beq_iff_eq, beq_eq_false_iff_ne, decide_eq_true_eq, decide_eq_false_iff_not, Bool.not_eq_true', Bool.not_eq_false', Bool.and_eq_true, Bool.and_eq_false_iff, Bool.or_eq_true, Bool.or_eq_false_iff, Int.natCast_inj, not_true_eq_false, not_false_eq_true] at hb0
    have hil : i < l.length := by omega
    refine AWp_skip ?_
    refine h5 _ _ ?_
    refine AWp_seq fun K7 h7 => ?_
    refine AWp_block ?_
    refine AWp_seq fun K8 h8 => ?_
    refine AWp_seq fun K9 h9 => ?_
    refine AWp_region tab_ok [] ?_
    simp only [go_sem, reduceIte, Nat.reduceEqDiff, Nat.reduceLT, decide_true, reduceCtorEq, Nat.reduceAdd, Nat.reduceBEq, Nat.reduceMul, Nat.reduceLeDiff, Int.reduceToNat]
    try simp (disch := omega) only [ints_get]
    try simp only [go_sem, reduceIte, Nat.reduceEqDiff, Nat.reduceLT, decide_true, reduceCtorEq, Nat.reduceAdd, Nat.reduceBEq, Nat.reduceMul, Nat.reduceLeDiff, Int.reduceToNat]
    simp (disch := omega) only [ints_get]
    simp only [go_sem, reduceIte, Nat.reduceEqDiff, Nat.reduceLT, decide_true, reduceCtorEq, Nat.reduceAdd, Nat.reduceBEq, Nat.reduceMul, Nat.reduceLeDiff, Int.reduceToNat]
    repeat refine ⟨by first | assumption | omega | exact True.intro | exact rfl | exact bytes_cells _ | exact fun _ => ints_cell (by omega) | exact ints_cell (by omega) | exact Or.inr rfl | exact fun h => ⟨h, by omega⟩ | exact fun h => by rw [h]; rfl | exact List.mem_cons_self | exact bytes_cell (by omega) | exact fun _ => bytes_cell (by omega) | (simp +contextual only [go_sem]; done) | fail, ?_⟩
    refine h9 _ _ ?_
    clear h9
    refine AWp_if fun kk hkk => ?_
    simp only [go_sem, reduceIte, Nat.reduceEqDiff, Nat.reduceLT, decide_true, reduceCtorEq, Nat.reduceAdd, Nat.reduceBEq, Nat.reduceMul, Nat.reduceLeDiff, Int.reduceToNat]
    repeat refine ⟨by first | assumption | omega | exact True.intro | exact rfl | exact bytes_cells _ | exact fun _ => ints_cell (by omega) | exact ints_cell (by omega) | exact Or.inr rfl | exact fun h => ⟨h, by omega⟩ | exact fun h => by rw [h]; rfl | exact List.mem_cons_self | exact bytes_cell (by omega) | exact fun _ => bytes_cell (by omega) | (simp +contextual only [go_sem]; done) | fail, ?_⟩
    refine hkk _ (fun hb1 => ?_) (fun hb1 => ?_) <;> clear hkk kk
    · simp only [bne_iff_ne, ne_eq, bne_eq_false_iff_eq, beq_iff_eq, beq_eq_false_iff_ne, decide_eq_true_eq, decide_eq_false_iff_not, Bool.not_eq_true', Bool.not_eq_false', Bool.and_eq_true, Bool.and_eq_false_iff, Bool.or_eq_true, Bool.or_eq_false_iff, Int.natCast_inj, not_true_eq_false, not_false_eq_true] at hb1
      refine AWp_seq fun K10 h10 => ?_
      refine AWp_region tab_ok [] ?_
      simp only [go_sem, reduceIte, Nat.reduceEqDiff, Nat.reduceLT, decide_true, reduceCtorEq, Nat.reduceAdd, Nat.reduceBEq, Nat.reduceMul, Nat.reduceLeDiff, Int.reduceToNat]
      repeat refine ⟨by first | assumption | omega | exact True.intro | exact rfl | exact bytes_cells _ | exact fun _ => ints_cell (by omega) | exact ints_cell (by omega) | exact Or.inr rfl | exact fun h => ⟨h, by omega⟩ | exact fun h => by rw [h]; rfl | exact List.mem_cons_self | exact bytes_cell (by omega) | exact fun _ => bytes_cell (by omega) | (simp +contextual only [go_sem]; done) | fail, ?_⟩
      refine h10 _ _ ?_
      clear h10
      refine AWp_fzE (l := [.tmp 2, .tmp 3]) ?_
      refine AWp_ret ?_
      refine retQ_ret ?_
      simp only [go_sem, reduceIte, Nat.reduceEqDiff, Nat.reduceLT, decide_true, reduceCtorEq, Nat.reduceAdd, Nat.reduceBEq, Nat.reduceMul, Nat.reduceLeDiff, Int.reduceToNat]
      repeat refine ⟨by first | assumption | omega | exact True.intro | exact rfl | exact bytes_cells _ | exact fun _ => ints_cell (by omega) | exact ints_cell (by omega) | exact Or.inr rfl | exact fun h => ⟨h, by omega⟩ | exact fun h => by rw [h]; rfl | exact List.mem_cons_self | exact bytes_cell (by omega) | exact fun _ => bytes_cell (by omega) | (simp +contextual only [go_sem]; done) | fail, ?_⟩
      rw [refPut_bad (putL_bad (i := i + 1) (by rw [putL_take_succ _ _ hil, hi0_1, putOne, if_pos (by omega)]))] at hK
      exact hK
    · simp only [bne_iff_ne, ne_eq, bne_eq_false_iff_eq, beq_iff_eq, beq_eq_false_iff_ne, decide_eq_true_eq, decide_eq_false_iff_not, Bool.not_eq_true', Bool.not_eq_false', Bool.and_eq_true, Bool.and_eq_false_iff, Bool.or_eq_true, Bool.or_eq_false_iff, Int.natCast_inj, not_true_eq_false, not_false_eq_true] at hb1
      obtain ⟨m, hm⟩ : ∃ m : Nat, l[i] = (m : Int) := ⟨(l[i]).toNat, by omega⟩
      have hel := encF_length 6 m
      refine AWp_skip ?_
      refine h8 _ _ ?_
      refine AWp_seq fun K11 h11 => ?_
      refine AWp_region tab_ok [] ?_
      simp only [go_sem, reduceIte, Nat.reduceEqDiff, Nat.reduceLT, decide_true, reduceCtorEq, Nat.reduceAdd, Nat.reduceBEq, Nat.reduceMul, Nat.reduceLeDiff, Int.reduceToNat]
      try simp (disch := omega) only [ints_get]
      try simp only [go_sem, reduceIte, Nat.reduceEqDiff, Nat.reduceLT, decide_true, reduceCtorEq, Nat.reduceAdd, Nat.reduceBEq, Nat.reduceMul, Nat.reduceLeDiff, Int.reduceToNat]
      repeat refine ⟨by first | assumption | omega | exact True.intro | exact rfl | exact bytes_cells _ | exact fun _ => ints_cell (by omega) | exact ints_cell (by omega) | exact Or.inr rfl | exact fun h => ⟨h, by omega⟩ | exact fun h => by rw [h]; rfl | exact List.mem_cons_self | exact bytes_cell (by omega) | exact fun _ => bytes_cell (by omega) | (simp +contextual only [go_sem]; done) | fail, ?_⟩
      rw [hm]
      refine one_spec _ _ m (by omega) ?_
      simp only [callK]
      simp only [go_sem, reduceIte, Nat.reduceEqDiff, Nat.reduceLT, decide_true, reduceCtorEq, Nat.reduceAdd, Nat.reduceBEq, Nat.reduceMul, Nat.reduceLeDiff, Int.reduceToNat]
      repeat refine ⟨by first | assumption | omega | exact True.intro | exact rfl | exact bytes_cells _ | exact fun _ => ints_cell (by omega) | exact ints_cell (by omega) | exact Or.inr rfl | exact fun h => ⟨h, by omega⟩ | exact fun h => by rw [h]; rfl | exact List.mem_cons_self | exact bytes_cell (by omega) | exact fun _ => bytes_cell (by omega) | (simp +contextual only [go_sem]; done) | fail, ?_⟩
      refine h11 _ _ ?_
      clear h11
      refine AWp_region tab_ok [0] ?_
      simp only [go_sem, reduceIte, Nat.reduceEqDiff, Nat.reduceLT, decide_true, reduceCtorEq, Nat.reduceAdd, Nat.reduceBEq, Nat.reduceMul, Nat.reduceLeDiff, Int.reduceToNat]
      repeat refine ⟨by first | assumption | omega | exact True.intro | exact rfl | exact bytes_cells _ | exact fun _ => ints_cell (by omega) | exact ints_cell (by omega) | exact Or.inr rfl | exact fun h => ⟨h, by omega⟩ | exact fun h => by rw [h]; rfl | exact List.mem_cons_self | exact bytes_cell (by omega) | exact fun _ => bytes_cell (by omega) | (simp +contextual only [go_sem]; done) | fail, ?_⟩
      refine h7 _ _ ?_
      refine AWp_region tab_ok [] ?_
      simp only [go_sem, reduceIte, Nat.reduceEqDiff, Nat.reduceLT, decide_true, reduceCtorEq, Nat.reduceAdd, Nat.reduceBEq, Nat.reduceMul, Nat.reduceLeDiff, Int.reduceToNat]
      try simp (disch := omega) only [wrap64]
      repeat refine ⟨by first | assumption | omega | exact True.intro | exact rfl | exact bytes_cells _ | exact fun _ => ints_cell (by omega) | exact ints_cell (by omega) | exact Or.inr rfl | exact fun h => ⟨h, by omega⟩ | exact fun h => by rw [h]; rfl | exact List.mem_cons_self | exact bytes_cell (by omega) | exact fun _ => bytes_cell (by omega) | (simp +contextual only [go_sem]; done) | fail, ?_⟩
      refine hL0 ((i + 1), (w ++ encF 6 m)) _ _ ?_ ?_ (fun _ _ h => h) ?_
      · dsimp only; exact ⟨by omega, by rw [putL_take_succ _ _ (by omega), hi0_1, hm, putOne, if_neg (by omega)]; rfl, by rw [List.length_append]; omega⟩
      · dsimp only; omega
      · simp only [go_sem, reduceIte, Nat.reduceEqDiff, Nat.reduceLT, decide_true, reduceCtorEq, Nat.reduceAdd, Nat.reduceBEq, Nat.reduceMul, Nat.reduceLeDiff, Int.reduceToNat]; first | done | exact True.intro | (repeat' apply And.intro) <;> first | rfl | exact True.intro
  · simp only [bne_iff_ne, ne_eq, bne_eq_false_iff_eq, beq_iff_eq, beq_eq_false_iff_ne, decide_eq_true_eq, decide_eq_false_iff_not, Bool.not_eq_true', Bool.not_eq_false', Bool.and_eq_true, Bool.and_eq_false_iff, Bool.or_eq_true, Bool.or_eq_false_iff, Int.natCast_inj, not_true_eq_false, not_false_eq_true] at hb0
    obtain rfl : i = l.length := by omega
    refine AWp_exit ?_
    refine h3 _ _ ?_
    refine AWp_seq fun K12 h12 => ?_
    refine AWp_region tab_ok [0] ?_
    simp only [go_sem, reduceIte, Nat.reduceEqDiff, Nat.reduceLT, decide_true, reduceCtorEq, Nat.reduceAdd, Nat.reduceBEq, Nat.reduceMul, Nat.reduceLeDiff, Int.reduceToNat]
    repeat refine ⟨by first | assumption | omega | exact True.intro | exact rfl | exact bytes_cells _ | exact fun _ => ints_cell (by omega) | exact ints_cell (by omega) | exact Or.inr rfl | exact fun h => ⟨h, by omega⟩ | exact fun h => by rw [h]; rfl | exact List.mem_cons_self | exact bytes_cell (by omega) | exact fun _ => bytes_cell (by omega) | (simp +contextual only [go_sem]; done) | fail, ?_⟩
    refine h12 _ _ ?_
    clear h12
    refine AWp_fzE (l := [.tmp 2, .tmp 3]) ?_
    refine AWp_ret ?_
    refine retQ_ret ?_
    simp only [go_sem, reduceIte, Nat.reduceEqDiff, Nat.reduceLT, decide_true, reduceCtorEq, Nat.reduceAdd, Nat.reduceBEq, Nat.reduceMul, Nat.reduceLeDiff, Int.reduceToNat]
    repeat refine ⟨by first | assumption | omega | exact True.intro | exact rfl | exact bytes_cells _ | exact fun _ => ints_cell (by omega) | exact ints_cell (by omega) | exact Or.inr rfl | exact fun h => ⟨h, by omega⟩ | exact fun h => by rw [h]; rfl | exact List.mem_cons_self | exact bytes_cell (by omega) | exact fun _ => bytes_cell (by omega) | (simp +contextual only [go_sem]; done) | fail, ?_⟩
    rw [List.take_length] at hi0_1
    rw [refPut_ok hi0_1] at hK
    exact hK

theorem refGet_spec (H : Hp) (K : AV → Hp → Prop) (r : Rd) (B : Nat) (most : Int) (h_0 : r.left.length < 2^29) (h_1 : H B = some (.cells [.lst 0 (bytes r.left), .sc (.bool r.bad)])) (hK : K (.sc (.int .i64 (r.get most).1)) (hset H B (.cells [.lst 0 (bytes (r.get most).2.left), .sc (.bool (r.get most).2.bad)]))) :
    ACalls Go.Proofs.Try.prog 69 [.sc (.pointer (some ⟨B, 0, none⟩)), .sc (.int .i64 most)] H K := by
  refine ACalls_fn tab_ok Go.Proofs.Try.func69 95 [.tmp 4] rfl rfl rfl rfl fun d => ?_
  have hll := lead_le r.left
  refine AWp_seq fun K1 h1 => ?_
  refine AWp_region tab_ok [] ?_
  simp only [go_sem, reduceIte, Nat.reduceEqDiff, Nat.reduceLT, decide_true, reduceCtorEq, Nat.reduceAdd, Nat.reduceBEq, Nat.reduceMul, Nat.reduceLeDiff, Int.reduceToNat, h_1]
  repeat refine ⟨by first | assumption | omega | exact True.intro | exact rfl | exact List.mem_cons_self | exact bytes_cell (by omega) | exact fun _ => bytes_cell (by omega) | (simp +contextual only [go_sem]; done) | fail, ?_⟩
  refine h1 _ _ ?_
  clear h1
  refine AWp_seq fun K2 h2 => ?_
  refine AWp_region tab_ok [] ?_
  simp only [go_sem, reduceIte, Nat.reduceEqDiff, Nat.reduceLT, decide_true, reduceCtorEq, Nat.reduceAdd, Nat.reduceBEq, Nat.reduceMul, Nat.reduceLeDiff, Int.reduceToNat, h_1]
  repeat refine ⟨by first | assumption | omega | exact True.intro | exact rfl | exact List.mem_cons_self | exact bytes_cell (by omega) | exact fun _ => bytes_cell (by omega) | (simp +contextual only [go_sem]; done) | fail, ?_⟩
  refine h2 _ _ ?_
  clear h2
  refine AWp_seq fun K3 h3 => ?_
  refine AWp_block ?_
  refine AWp_loop_ind (ι := (Nat)) (fun (i : Nat) => [(5, .sc (.int .i64 i)), (0, .sc (.pointer (some ⟨B, 0, none⟩))), (1, .sc (.int .i64 most))]) (fun (i : Nat) => H) (fun (i : Nat) => (i ≤ r.left.length) ∧ (lead r.left = i + lead (r.left.drop i))) (fun (i : Nat) => r.left.length - i) 0 ?_ ?_ ?_ ?_
  · exact ⟨by omega, by simp⟩
  · exact fun _ _ h => h
  · simp only [go_sem, reduceIte, Nat.reduceEqDiff, Nat.reduceLT, decide_true, reduceCtorEq, Nat.reduceAdd, Nat.reduceBEq, Nat.reduceMul, Nat.reduceLeDiff, Int.reduceToNat, h_1]; first | done | exact True.intro | (repeat' apply And.intro) <;> first | rfl | exact True.intro
  rintro i ⟨hi0_0, hi0_1⟩ L0 hL0
  skip
  refine AWp_seq fun K4 h4 => ?_
  refine AWp_seq fun K5 h5 => ?_
  rcases Nat.lt_or_ge i r.left.length with hil | hil
  · have hlt : decide ((i : Int) < r.left.length) = true := by simp; omega
    refine AWp_region tab_ok [] ?_
    simp only [go_sem, reduceIte, Nat.reduceEqDiff, Nat.reduceLT, decide_true, reduceCtorEq, Nat.reduceAdd, Nat.reduceBEq, Nat.reduceMul, Nat.reduceLeDiff, Int.reduceToNat, h_1, hlt]
    try simp (disch := omega) only [bytes_get]
    try simp only [go_sem, reduceIte, Nat.reduceEqDiff, Nat.reduceLT, decide_true, reduceCtorEq, Nat.reduceAdd, Nat.reduceBEq, Nat.reduceMul, Nat.reduceLeDiff, Int.reduceToNat, h_1, hlt]
    try simp only [bytes_get hil]
    try simp only [go_sem, reduceIte, Nat.reduceEqDiff, Nat.reduceLT, decide_true, reduceCtorEq, Nat.reduceAdd, Nat.reduceBEq, Nat.reduceMul, Nat.reduceLeDiff, Int.reduceToNat, h_1]
    repeat refine ⟨by first | assumption | omega | exact True.intro | exact rfl | exact List.mem_cons_self | exact bytes_cell (by omega) | exact fun _ => bytes_cell (by omega) | (simp +contextual only [go_sem]; done) | fail, ?_⟩
    refine h5 _ _ ?_
    clear h5
    refine AWp_if fun kk hkk => ?_
    simp only [go_sem, reduceIte, Nat.reduceEqDiff, Nat.reduceLT, decide_true, reduceCtorEq, Nat.reduceAdd, Nat.reduceBEq, Nat.reduceMul, Nat.reduceLeDiff, Int.reduceToNat, h_1]
    repeat refine ⟨by first | assumption | omega | exact True.intro | exact rfl | exact List.mem_cons_self | exact bytes_cell (by omega) | exact fun _ => bytes_cell (by omega) | (simp +contextual only [go_sem]; done) | fail, ?_⟩
    refine hkk _ (fun hb0 => ?_) (fun hb0 => ?_) <;> clear hkk kk
    · simp only [bne_iff_ne, ne_eq, bne_eq_false_iff_eq, beq_iff_eq, beq_eq_false_iff_ne, decide_eq_true_eq, decide_eq_false_iff_not, Bool.not_eq_true', Bool.not_eq_false', Bool.and_eq_true, Bool.and_eq_false_iff, Bool.or_eq_true, Bool.or_eq_false_iff, Int.natCast_inj, not_true_eq_false, not_false_eq_true] at hb0
      refine AWp_skip ?_
      refine h4 _ _ ?_
      refine AWp_block ?_
      refine AWp_region tab_ok [] ?_
      simp only [go_sem, reduceIte, Nat.reduceEqDiff, Nat.reduceLT, decide_true, reduceCtorEq, Nat.reduceAdd, Nat.reduceBEq, Nat.reduceMul, Nat.reduceLeDiff, Int.reduceToNat, h_1]
      try simp (disch := omega) only [wrap64]
      repeat refine ⟨by first | assumption | omega | exact True.intro | exact rfl | exact List.mem_cons_self | exact bytes_cell (by omega) | exact fun _ => bytes_cell (by omega) | (simp +contextual only [go_sem]; done) | fail, ?_⟩
      refine hL0 (i + 1) _ _ ?_ ?_ (fun _ _ h => h) ?_
      · refine ⟨by omega, ?_⟩; rw [hi0_1, lead_drop (by omega) (by omega)]; omega
      · omega
      · simp only [go_sem, reduceIte, Nat.reduceEqDiff, Nat.reduceLT, decide_true, reduceCtorEq, Nat.reduceAdd, Nat.reduceBEq, Nat.reduceMul, Nat.reduceLeDiff, Int.reduceToNat, h_1]; first | done | exact True.intro | (repeat' apply And.intro) <;> first | rfl | exact True.intro
    · simp only [bne_iff_ne, ne_eq, bne_eq_false_iff_eq, beq_iff_eq, beq_eq_false_iff_ne, decide_eq_true_eq, decide_eq_false_iff_not, Bool.not_eq_true', Bool.not_eq_false', Bool.and_eq_true, Bool.and_eq_false_iff, Bool.or_eq_true, Bool.or_eq_false_iff, Int.natCast_inj, not_true_eq_false, not_false_eq_true] at hb0
      have hld : lead r.left = i := by rw [hi0_1, lead_drop0 hil (by omega)]; rfl
      refine AWp_exit ?_
      refine h3 _ _ ?_
      refine AWp_seq fun K6 h6 => ?_
      refine AWp_seq fun K7 h7 => ?_
      refine AWp_region tab_ok [] ?_
      simp only [go_sem, reduceIte, Nat.reduceEqDiff, Nat.reduceLT, decide_true, reduceCtorEq, Nat.reduceAdd, Nat.reduceBEq, Nat.reduceMul, Nat.reduceLeDiff, Int.reduceToNat, h_1]
      repeat refine ⟨by first | assumption | omega | exact True.intro | exact rfl | exact List.mem_cons_self | exact bytes_cell (by omega) | exact fun _ => bytes_cell (by omega) | (simp +contextual only [go_sem]; done) | fail, ?_⟩
      refine h7 _ _ ?_
      clear h7
      refine AWp_if fun kk hkk => ?_
      simp only [go_sem, reduceIte, Nat.reduceEqDiff, Nat.reduceLT, decide_true, reduceCtorEq, Nat.reduceAdd, Nat.reduceBEq, Nat.reduceMul, Nat.reduceLeDiff, Int.reduceToNat, h_1]
      repeat refine ⟨by first | assumption | omega | exact True.intro | exact rfl | exact List.mem_cons_self | exact bytes_cell (by omega) | exact fun _ => bytes_cell (by omega) | (simp +contextual only [go_sem]; done) | fail, ?_⟩
      refine hkk _ (fun hb1 => ?_) (fun hb1 => ?_) <;> clear hkk kk
      · simp only [bne_iff_ne, ne_eq, bne_eq_false_iff_eq, beq_iff_eq, beq_eq_false_iff_ne, decide_eq_true_eq, decide_eq_false_iff_not, Bool.not_eq_true', Bool.not_eq_false', Bool.and_eq_true, Bool.and_eq_false_iff, Bool.or_eq_true, Bool.or_eq_false_iff, Int.natCast_inj, not_true_eq_false, not_false_eq_true] at hb1
        refine AWp_seq fun K8 h8 => ?_
        refine AWp_region tab_ok [] ?_
        simp only [go_sem, reduceIte, Nat.reduceEqDiff, Nat.reduceLT, decide_true, reduceCtorEq, Nat.reduceAdd, Nat.reduceBEq, Nat.reduceMul, Nat.reduceLeDiff, Int.reduceToNat, h_1]
        repeat refine ⟨by first | assumption | omega | exact True.intro | exact rfl | exact List.mem_cons_self | exact bytes_cell (by omega) | exact fun _ => bytes_cell (by omega) | (simp +contextual only [go_sem]; done) | fail, ?_⟩
        refine h8 _ _ ?_
        clear h8
        refine AWp_seq fun K9 h9 => ?_
        refine AWp_region tab_ok [] ?_
        simp only [go_sem, reduceIte, Nat.reduceEqDiff, Nat.reduceLT, decide_true, reduceCtorEq, Nat.reduceAdd, Nat.reduceBEq, Nat.reduceMul, Nat.reduceLeDiff, Int.reduceToNat, h_1]
        repeat refine ⟨by first | assumption | omega | exact True.intro | exact rfl | exact List.mem_cons_self | exact bytes_cell (by omega) | exact fun _ => bytes_cell (by omega) | (simp +contextual only [go_sem]; done) | fail, ?_⟩
        refine h9 _ _ ?_
        clear h9
        refine AWp_ret ?_
        refine retQ_ret ?_
        simp only [go_sem, reduceIte, Nat.reduceEqDiff, Nat.reduceLT, decide_true, reduceCtorEq, Nat.reduceAdd, Nat.reduceBEq, Nat.reduceMul, Nat.reduceLeDiff, Int.reduceToNat, h_1]
        repeat refine ⟨by first | assumption | omega | exact True.intro | exact rfl | exact List.mem_cons_self | exact bytes_cell (by omega) | exact fun _ => bytes_cell (by omega) | (simp +contextual only [go_sem]; done) | fail, ?_⟩
        rw [rget_bad (by rcases hb1 with (h | h) | h; exact .inl h; exact .inr (.inl (by omega)); exact .inr (.inr (by omega)))] at hK
        exact hK
      · simp only [bne_iff_ne, ne_eq, bne_eq_false_iff_eq, beq_iff_eq, beq_eq_false_iff_ne, decide_eq_true_eq, decide_eq_false_iff_not, Bool.not_eq_true', Bool.not_eq_false', Bool.and_eq_true, Bool.and_eq_false_iff, Bool.or_eq_true, Bool.or_eq_false_iff, Int.natCast_inj, not_true_eq_false, not_false_eq_true] at hb1
        refine AWp_skip ?_
        refine h6 _ _ ?_
        refine AWp_seq fun K10 h10 => ?_
        refine AWp_region tab_ok [] ?_
        simp only [go_sem, reduceIte, Nat.reduceEqDiff, Nat.reduceLT, decide_true, reduceCtorEq, Nat.reduceAdd, Nat.reduceBEq, Nat.reduceMul, Nat.reduceLeDiff, Int.reduceToNat, h_1]
        repeat refine ⟨by first | assumption | omega | exact True.intro | exact rfl | exact List.mem_cons_self | exact bytes_cell (by omega) | exact fun _ => bytes_cell (by omega) | (simp +contextual only [go_sem]; done) | fail, ?_⟩
        refine h10 _ _ ?_
        clear h10
        refine AWp_seq fun K11 h11 => ?_
        refine AWp_seq fun K12 h12 => ?_
        refine AWp_region tab_ok [] ?_
        simp only [go_sem, reduceIte, Nat.reduceEqDiff, Nat.reduceLT, decide_true, reduceCtorEq, Nat.reduceAdd, Nat.reduceBEq, Nat.reduceMul, Nat.reduceLeDiff, Int.reduceToNat, h_1]
        repeat refine ⟨by first | assumption | omega | exact True.intro | exact rfl | exact List.mem_cons_self | exact bytes_cell (by omega) | exact fun _ => bytes_cell (by omega) | (simp +contextual only [go_sem]; done) | fail, ?_⟩
        refine h12 _ _ ?_
        clear h12
        refine AWp_block ?_
        refine AWp_loop_ind (ι := (Nat)) (fun (j : Nat) => [(7, .sc (.int .i64 ((j : Int) - 1))), (6, .sc (.int .i64 (valL ((r.left.take (i + 1)).drop j)))), (5, .sc (.int .i64 i)), (0, .sc (.pointer (some ⟨B, 0, none⟩))), (1, .sc (.int .i64 most))]) (fun (j : Nat) => H) (fun (j : Nat) => (j ≤ i + 1)) (fun (j : Nat) => j) (i + 1) ?_ ?_ ?_ ?_
        · first | omega | exact True.intro | simp
        · exact fun _ _ h => h
        · simp only [go_sem, reduceIte, Nat.reduceEqDiff, Nat.reduceLT, decide_true, reduceCtorEq, Nat.reduceAdd, Nat.reduceBEq, Nat.reduceMul, Nat.reduceLeDiff, Int.reduceToNat, h_1]; rw [show (((i + 1 : Nat) : Int) - 1) = (i : Int) by omega, List.drop_eq_nil_of_le (by rw [List.length_take]; omega)]; first | done | exact True.intro | (repeat' apply And.intro) <;> first | rfl | exact True.intro
        rintro j hi1_0 L1 hL1
        skip
        refine AWp_seq fun K13 h13 => ?_
        refine AWp_seq fun K14 h14 => ?_
        refine AWp_region tab_ok [] ?_
        simp only [go_sem, reduceIte, Nat.reduceEqDiff, Nat.reduceLT, decide_true, reduceCtorEq, Nat.reduceAdd, Nat.reduceBEq, Nat.reduceMul, Nat.reduceLeDiff, Int.reduceToNat, h_1]
        repeat refine ⟨by first | assumption | omega | exact True.intro | exact rfl | exact List.mem_cons_self | exact bytes_cell (by omega) | exact fun _ => bytes_cell (by omega) | (simp +contextual only [go_sem]; done) | fail, ?_⟩
        refine h14 _ _ ?_
        clear h14
        refine AWp_if fun kk hkk => ?_
        simp only [go_sem, reduceIte, Nat.reduceEqDiff, Nat.reduceLT, decide_true, reduceCtorEq, Nat.reduceAdd, Nat.reduceBEq, Nat.reduceMul, Nat.reduceLeDiff, Int.reduceToNat, h_1]
        repeat refine ⟨by first | assumption | omega | exact True.intro | exact rfl | exact List.mem_cons_self | exact bytes_cell (by omega) | exact fun _ => bytes_cell (by omega) | (simp +contextual only [go_sem]; done) | fail, ?_⟩
        refine hkk _ (fun hb2 => ?_) (fun hb2 => ?_) <;> clear hkk kk
        · simp only [bne_iff_ne, ne_eq, bne_eq_false_iff_eq, beq_iff_eq, beq_eq_false_iff_ne, decide_eq_true_eq, decide_eq_false_iff_not, Bool.not_eq_true', Bool.not_eq_false', Bool.and_eq_true, Bool.and_eq_false_iff, Bool.or_eq_true, Bool.or_eq_false_iff, Int.natCast_inj, not_true_eq_false, not_false_eq_true] at hb2
          obtain ⟨j, rfl⟩ : ∃ k, j = k + 1 := ⟨j - 1, by omega⟩
          have hj1 : (((j + 1 : Nat) : Int) - 1) = (j : Int) := by omega
          simp only [hj1]
          have hvl : valL ((r.left.take (i + 1)).drop (j + 1)) < 4398046511104 := valL_lt42 (by rw [List.length_drop, List.length_take]; omega)
          refine AWp_skip ?_
          refine h13 _ _ ?_
          refine AWp_seq fun K15 h15 => ?_
          refine AWp_block ?_
          refine AWp_region tab_ok [] ?_
          simp only [go_sem, reduceIte, Nat.reduceEqDiff, Nat.reduceLT, decide_true, reduceCtorEq, Nat.reduceAdd, Nat.reduceBEq, Nat.reduceMul, Nat.reduceLeDiff, Int.reduceToNat, h_1, rem128n]
          try simp (disch := omega) only [bytes_get]
          try simp only [go_sem, reduceIte, Nat.reduceEqDiff, Nat.reduceLT, decide_true, reduceCtorEq, Nat.reduceAdd, Nat.reduceBEq, Nat.reduceMul, Nat.reduceLeDiff, Int.reduceToNat, h_1, rem128n]
          try simp (disch := omega) only [wrap64]
          repeat refine ⟨by first | assumption | omega | exact True.intro | exact rfl | exact List.mem_cons_self | exact bytes_cell (by omega) | exact fun _ => bytes_cell (by omega) | (simp +contextual only [go_sem]; done) | fail, ?_⟩
          refine h15 _ _ ?_
          refine AWp_region tab_ok [] ?_
          simp only [go_sem, reduceIte, Nat.reduceEqDiff, Nat.reduceLT, decide_true, reduceCtorEq, Nat.reduceAdd, Nat.reduceBEq, Nat.reduceMul, Nat.reduceLeDiff, Int.reduceToNat, h_1]
          try simp (disch := omega) only [wrap64]
          repeat refine ⟨by first | assumption | omega | exact True.intro | exact rfl | exact List.mem_cons_self | exact bytes_cell (by omega) | exact fun _ => bytes_cell (by omega) | (simp +contextual only [go_sem]; done) | fail, ?_⟩
          refine hL1 j _ _ ?_ ?_ (fun _ _ h => h) ?_
          · first | omega | exact True.intro | (refine ⟨?_, ?_⟩ <;> first | omega | simp)
          · omega
          · simp only [go_sem, reduceIte, Nat.reduceEqDiff, Nat.reduceLT, decide_true, reduceCtorEq, Nat.reduceAdd, Nat.reduceBEq, Nat.reduceMul, Nat.reduceLeDiff, Int.reduceToNat, h_1]; rw [valL_drop (l := r.left) (n := i + 1) (i := j) (by omega) (by omega)]; (repeat' apply And.intro) <;> first | rfl | exact True.intro | (congr 2; omega)
        · simp only [bne_iff_ne, ne_eq, bne_eq_false_iff_eq, beq_iff_eq, beq_eq_false_iff_ne, decide_eq_true_eq, decide_eq_false_iff_not, Bool.not_eq_true', Bool.not_eq_false', Bool.and_eq_true, Bool.and_eq_false_iff, Bool.or_eq_true, Bool.or_eq_false_iff, Int.natCast_inj, not_true_eq_false, not_false_eq_true] at hb2
          obtain rfl : j = 0 := by omega
          have hvl : valL ((r.left.take (i + 1)).drop 0) < 4398046511104 := valL_lt42 (by rw [List.length_drop, List.length_take]; omega)
          rw [List.drop_zero] at *
          refine AWp_exit ?_
          refine h11 _ _ ?_
          refine AWp_seq fun K16 h16 => ?_
          refine AWp_region tab_ok [] ?_
          simp only [go_sem, reduceIte, Nat.reduceEqDiff, Nat.reduceLT, decide_true, reduceCtorEq, Nat.reduceAdd, Nat.reduceBEq, Nat.reduceMul, Nat.reduceLeDiff, Int.reduceToNat, h_1]
          repeat refine ⟨by first | assumption | omega | exact True.intro | exact rfl | exact List.mem_cons_self | exact bytes_cell (by omega) | exact fun _ => bytes_cell (by omega) | (simp +contextual only [go_sem]; done) | fail, ?_⟩
          refine one_spec _ _ (valL (r.left.take (i + 1))) hvl ?_
          simp only [callK]
          simp only [go_sem, reduceIte, Nat.reduceEqDiff, Nat.reduceLT, decide_true, reduceCtorEq, Nat.reduceAdd, Nat.reduceBEq, Nat.reduceMul, Nat.reduceLeDiff, Int.reduceToNat, h_1]
          repeat refine ⟨by first | assumption | omega | exact True.intro | exact rfl | exact List.mem_cons_self | exact bytes_cell (by omega) | exact fun _ => bytes_cell (by omega) | (simp +contextual only [go_sem]; done) | fail, ?_⟩
          refine h16 _ _ ?_
          clear h16
          refine AWp_seq fun K17 h17 => ?_
          refine AWp_seq fun K18 h18 => ?_
          refine AWp_fzE (l := [.tmp 8]) ?_
          simp only [go_sem, reduceIte, Nat.reduceEqDiff, Nat.reduceLT, decide_true, reduceCtorEq, Nat.reduceAdd, Nat.reduceBEq, Nat.reduceMul, Nat.reduceLeDiff, Int.reduceToNat, h_1]
          refine AWp_region tab_ok [] ?_
          simp only [go_sem, reduceIte, Nat.reduceEqDiff, Nat.reduceLT, decide_true, reduceCtorEq, Nat.reduceAdd, Nat.reduceBEq, Nat.reduceMul, Nat.reduceLeDiff, Int.reduceToNat, h_1]
          try simp (disch := omega) only [wrap64]
          repeat refine ⟨by first | assumption | omega | exact True.intro | exact rfl | exact List.mem_cons_self | exact bytes_cell (by omega) | exact fun _ => bytes_cell (by omega) | (simp +contextual only [go_sem]; done) | fail, ?_⟩
          refine h18 _ _ ?_
          clear h18
          refine AWp_if fun kk hkk => ?_
          simp only [go_sem, reduceIte, Nat.reduceEqDiff, Nat.reduceLT, decide_true, reduceCtorEq, Nat.reduceAdd, Nat.reduceBEq, Nat.reduceMul, Nat.reduceLeDiff, Int.reduceToNat, h_1]
          repeat refine ⟨by first | assumption | omega | exact True.intro | exact rfl | exact List.mem_cons_self | exact bytes_cell (by omega) | exact fun _ => bytes_cell (by omega) | (simp +contextual only [go_sem]; done) | fail, ?_⟩
          refine hkk _ (fun hb3 => ?_) (fun hb3 => ?_) <;> clear hkk kk
          · simp only [bne_iff_ne, ne_eq, bne_eq_false_iff_eq, beq_iff_eq, beq_eq_false_iff_ne, decide_eq_true_eq, decide_eq_false_iff_not, Bool.not_eq_true', Bool.not_eq_false', Bool.and_eq_true, Bool.and_eq_false_iff, Bool.or_eq_true, Bool.or_eq_false_iff, Int.natCast_inj, not_true_eq_false, not_false_eq_true] at hb3
            refine AWp_seq fun K19 h19 => ?_
            refine AWp_region tab_ok [] ?_
            simp only [go_sem, reduceIte, Nat.reduceEqDiff, Nat.reduceLT, decide_true, reduceCtorEq, Nat.reduceAdd, Nat.reduceBEq, Nat.reduceMul, Nat.reduceLeDiff, Int.reduceToNat, h_1]
            repeat refine ⟨by first | assumption | omega | exact True.intro | exact rfl | exact List.mem_cons_self | exact bytes_cell (by omega) | exact fun _ => bytes_cell (by omega) | (simp +contextual only [go_sem]; done) | fail, ?_⟩
            refine h19 _ _ ?_
            clear h19
            refine AWp_seq fun K20 h20 => ?_
            refine AWp_region tab_ok [] ?_
            simp only [go_sem, reduceIte, Nat.reduceEqDiff, Nat.reduceLT, decide_true, reduceCtorEq, Nat.reduceAdd, Nat.reduceBEq, Nat.reduceMul, Nat.reduceLeDiff, Int.reduceToNat, h_1]
            repeat refine ⟨by first | assumption | omega | exact True.intro | exact rfl | exact List.mem_cons_self | exact bytes_cell (by omega) | exact fun _ => bytes_cell (by omega) | (simp +contextual only [go_sem]; done) | fail, ?_⟩
            refine h20 _ _ ?_
            clear h20
            refine AWp_ret ?_
            refine retQ_ret ?_
            simp only [go_sem, reduceIte, Nat.reduceEqDiff, Nat.reduceLT, decide_true, reduceCtorEq, Nat.reduceAdd, Nat.reduceBEq, Nat.reduceMul, Nat.reduceLeDiff, Int.reduceToNat, h_1]
            repeat refine ⟨by first | assumption | omega | exact True.intro | exact rfl | exact List.mem_cons_self | exact bytes_cell (by omega) | exact fun _ => bytes_cell (by omega) | (simp +contextual only [go_sem]; done) | fail, ?_⟩
            rw [rget_bad2 hld (by rcases hb3 with (h | h) | h; exact .inl (by omega); exact .inr (.inl (by omega)); exact .inr (.inr (by omega)))] at hK
            exact hK
          · simp only [bne_iff_ne, ne_eq, bne_eq_false_iff_eq, beq_iff_eq, beq_eq_false_iff_ne, decide_eq_true_eq, decide_eq_false_iff_not, Bool.not_eq_true', Bool.not_eq_false', Bool.and_eq_true, Bool.and_eq_false_iff, Bool.or_eq_true, Bool.or_eq_false_iff, Int.natCast_inj, not_true_eq_false, not_false_eq_true] at hb3
            refine AWp_skip ?_
            refine h17 _ _ ?_
            refine AWp_seq fun K21 h21 => ?_
            refine AWp_region tab_ok [] ?_
            simp only [go_sem, reduceIte, Nat.reduceEqDiff, Nat.reduceLT, decide_true, reduceCtorEq, Nat.reduceAdd, Nat.reduceBEq, Nat.reduceMul, Nat.reduceLeDiff, Int.reduceToNat, h_1]
            try simp (disch := omega) only [wrap64]
            repeat refine ⟨by first | assumption | omega | exact True.intro | exact rfl | exact List.mem_cons_self | exact bytes_cell (by omega) | exact fun _ => bytes_cell (by omega) | (simp +contextual only [go_sem]; done) | fail, ?_⟩
            refine h21 _ _ ?_
            clear h21
            refine AWp_seq fun K22 h22 => ?_
            refine AWp_region tab_ok [0] ?_
            simp only [go_sem, reduceIte, Nat.reduceEqDiff, Nat.reduceLT, decide_true, reduceCtorEq, Nat.reduceAdd, Nat.reduceBEq, Nat.reduceMul, Nat.reduceLeDiff, Int.reduceToNat, h_1]
            repeat refine ⟨by first | assumption | omega | exact True.intro | exact rfl | exact List.mem_cons_self | exact bytes_cell (by omega) | exact fun _ => bytes_cell (by omega) | (simp +contextual only [go_sem]; done) | fail, ?_⟩
            refine h22 _ _ ?_
            clear h22
            refine AWp_ret ?_
            refine retQ_ret ?_
            simp only [go_sem, reduceIte, Nat.reduceEqDiff, Nat.reduceLT, decide_true, reduceCtorEq, Nat.reduceAdd, Nat.reduceBEq, Nat.reduceMul, Nat.reduceLeDiff, Int.reduceToNat, h_1]
            repeat refine ⟨by first | assumption | omega | exact True.intro | exact rfl | exact List.mem_cons_self | exact bytes_cell (by omega) | exact fun _ => bytes_cell (by omega) | (simp +contextual only [go_sem]; done) | fail, ?_⟩
            rw [rget_good hld hb1.1.1 (by omega) (by omega) (by omega) (by omega) (by omega)] at hK
            dsimp only at hK
            rw [hb1.1.1, show ((r.left.length : Int) - ((i : Int) + 1)).toNat = r.left.length - (i + 1) by omega, show ((i : Int) + 1).toNat = i + 1 by omega, take_drop_all]
            exact hK
  · have hlt : decide ((i : Int) < r.left.length) = false := decide_eq_false (by omega)
    have hgd : (bytes r.left).getD i AV.und = AV.und := by rw [List.getD_eq_getElem?_getD, List.getElem?_eq_none (by rw [bytes_len]; omega)]; rfl
    have hld : lead r.left = i := by rw [hi0_1, lead_end (by omega)]; rfl
    refine AWp_region tab_ok [] ?_
    simp only [go_sem, reduceIte, Nat.reduceEqDiff, Nat.reduceLT, decide_true, reduceCtorEq, Nat.reduceAdd, Nat.reduceBEq, Nat.reduceMul, Nat.reduceLeDiff, Int.reduceToNat, h_1, hlt, hgd]
    try simp (disch := omega) only [bytes_get]
    try simp only [go_sem, reduceIte, Nat.reduceEqDiff, Nat.reduceLT, decide_true, reduceCtorEq, Nat.reduceAdd, Nat.reduceBEq, Nat.reduceMul, Nat.reduceLeDiff, Int.reduceToNat, h_1, hlt, hgd]
    repeat refine ⟨by first | assumption | omega | exact True.intro | exact rfl | exact List.mem_cons_self | exact bytes_cell (by omega) | exact fun _ => bytes_cell (by omega) | (simp +contextual only [go_sem]; done) | fail, ?_⟩
    refine h5 _ _ ?_
    clear h5
    refine AWp_if fun kk hkk => ?_
    simp only [go_sem, reduceIte, Nat.reduceEqDiff, Nat.reduceLT, decide_true, reduceCtorEq, Nat.reduceAdd, Nat.reduceBEq, Nat.reduceMul, Nat.reduceLeDiff, Int.reduceToNat, h_1]
    repeat refine ⟨by first | assumption | omega | exact True.intro | exact rfl | exact List.mem_cons_self | exact bytes_cell (by omega) | exact fun _ => bytes_cell (by omega) | (simp +contextual only [go_sem]; done) | fail, ?_⟩
    refine hkk _ (fun hb => by cases hb) (fun _ => ?_)
    refine AWp_exit ?_
    refine h3 _ _ ?_
    refine AWp_seq fun K23 h23 => ?_
    refine AWp_seq fun K24 h24 => ?_
    refine AWp_region tab_ok [] ?_
    simp only [go_sem, reduceIte, Nat.reduceEqDiff, Nat.reduceLT, decide_true, reduceCtorEq, Nat.reduceAdd, Nat.reduceBEq, Nat.reduceMul, Nat.reduceLeDiff, Int.reduceToNat, h_1]
    repeat refine ⟨by first | assumption | omega | exact True.intro | exact rfl | exact List.mem_cons_self | exact bytes_cell (by omega) | exact fun _ => bytes_cell (by omega) | (simp +contextual only [go_sem]; done) | fail, ?_⟩
    refine h24 _ _ ?_
    clear h24
    refine AWp_if fun kk hkk => ?_
    simp only [go_sem, reduceIte, Nat.reduceEqDiff, Nat.reduceLT, decide_true, reduceCtorEq, Nat.reduceAdd, Nat.reduceBEq, Nat.reduceMul, Nat.reduceLeDiff, Int.reduceToNat, h_1]
    repeat refine ⟨by first | assumption | omega | exact True.intro | exact rfl | exact List.mem_cons_self | exact bytes_cell (by omega) | exact fun _ => bytes_cell (by omega) | (simp +contextual only [go_sem]; done) | fail, ?_⟩
    refine hkk _ (fun _ => ?_) (fun hb => by simp only [bne_iff_ne, ne_eq, bne_eq_false_iff_eq, beq_iff_eq, beq_eq_false_iff_ne, decide_eq_true_eq, decide_eq_false_iff_not, Bool.not_eq_true', Bool.not_eq_false', Bool.and_eq_true, Bool.and_eq_false_iff, Bool.or_eq_true, Bool.or_eq_false_iff, Int.natCast_inj, not_true_eq_false, not_false_eq_true] at hb; omega)
    refine AWp_seq fun K25 h25 => ?_
    refine AWp_region tab_ok [] ?_
    simp only [go_sem, reduceIte, Nat.reduceEqDiff, Nat.reduceLT, decide_true, reduceCtorEq, Nat.reduceAdd, Nat.reduceBEq, Nat.reduceMul, Nat.reduceLeDiff, Int.reduceToNat, h_1]
    repeat refine ⟨by first | assumption | omega | exact True.intro | exact rfl | exact List.mem_cons_self | exact bytes_cell (by omega) | exact fun _ => bytes_cell (by omega) | (simp +contextual only [go_sem]; done) | fail, ?_⟩
    refine h25 _ _ ?_
    clear h25
    refine AWp_seq fun K26 h26 => ?_
    refine AWp_region tab_ok [] ?_
    simp only [go_sem, reduceIte, Nat.reduceEqDiff, Nat.reduceLT, decide_true, reduceCtorEq, Nat.reduceAdd, Nat.reduceBEq, Nat.reduceMul, Nat.reduceLeDiff, Int.reduceToNat, h_1]
    repeat refine ⟨by first | assumption | omega | exact True.intro | exact rfl | exact List.mem_cons_self | exact bytes_cell (by omega) | exact fun _ => bytes_cell (by omega) | (simp +contextual only [go_sem]; done) | fail, ?_⟩
    refine h26 _ _ ?_
    clear h26
    refine AWp_ret ?_
    refine retQ_ret ?_
    simp only [go_sem, reduceIte, Nat.reduceEqDiff, Nat.reduceLT, decide_true, reduceCtorEq, Nat.reduceAdd, Nat.reduceBEq, Nat.reduceMul, Nat.reduceLeDiff, Int.reduceToNat, h_1]
    repeat refine ⟨by first | assumption | omega | exact True.intro | exact rfl | exact List.mem_cons_self | exact bytes_cell (by omega) | exact fun _ => bytes_cell (by omega) | (simp +contextual only [go_sem]; done) | fail, ?_⟩
    rw [rget_bad (.inr (.inl (by omega)))] at hK
    exact hK

theorem refLeft_spec (H : Hp) (K : AV → Hp → Prop) (r : Rd) (B : Nat) (h_0 : H B = some (.cells [.lst 0 (bytes r.left), .sc (.bool r.bad)])) (hK : K (.sc (.int .i64 (if r.bad then 0 else r.left.length : Int))) H) :
    ACalls Go.Proofs.Try.prog 72 [.sc (.pointer (some ⟨B, 0, none⟩))] H K := by
  refine ACalls_fn tab_ok Go.Proofs.Try.func72 12 [.tmp 2] rfl rfl rfl rfl fun d => ?_
  refine AWp_seq fun K1 h1 => ?_
  refine AWp_region tab_ok [] ?_
  simp only [go_sem, reduceIte, Nat.reduceEqDiff, Nat.reduceLT, decide_true, reduceCtorEq, Nat.reduceAdd, Nat.reduceBEq, Nat.reduceMul, Nat.reduceLeDiff, Int.reduceToNat, h_0]
  repeat refine ⟨by first | assumption | omega | exact True.intro | exact rfl | exact List.mem_cons_self | exact bytes_cell (by omega) | exact fun _ => bytes_cell (by omega) | (simp +contextual only [go_sem]; done) | fail, ?_⟩
  refine h1 _ _ ?_
  clear h1
  refine AWp_seq fun K2 h2 => ?_
  refine AWp_seq fun K3 h3 => ?_
  refine AWp_region tab_ok [] ?_
  simp only [go_sem, reduceIte, Nat.reduceEqDiff, Nat.reduceLT, decide_true, reduceCtorEq, Nat.reduceAdd, Nat.reduceBEq, Nat.reduceMul, Nat.reduceLeDiff, Int.reduceToNat, h_0]
  repeat refine ⟨by first | assumption | omega | exact True.intro | exact rfl | exact List.mem_cons_self | exact bytes_cell (by omega) | exact fun _ => bytes_cell (by omega) | (simp +contextual only [go_sem]; done) | fail, ?_⟩
  refine h3 _ _ ?_
  clear h3
  refine AWp_if fun kk hkk => ?_
  simp only [go_sem, reduceIte, Nat.reduceEqDiff, Nat.reduceLT, decide_true, reduceCtorEq, Nat.reduceAdd, Nat.reduceBEq, Nat.reduceMul, Nat.reduceLeDiff, Int.reduceToNat, h_0]
  repeat refine ⟨by first | assumption | omega | exact True.intro | exact rfl | exact List.mem_cons_self | exact bytes_cell (by omega) | exact fun _ => bytes_cell (by omega) | (simp +contextual only [go_sem]; done) | fail, ?_⟩
  refine hkk _ (fun hb0 => ?_) (fun hb0 => ?_) <;> clear hkk kk
  · try simp only [bne_iff_ne, ne_eq, bne_eq_false_iff_eq, beq_iff_eq, beq_eq_false_iff_ne, decide_eq_true_eq, decide_eq_false_iff_not, Bool.not_eq_true', Bool.not_eq_false', Bool.and_eq_true, Bool.and_eq_false_iff, Bool.or_eq_true, Bool.or_eq_false_iff, Int.natCast_inj, not_true_eq_false, not_false_eq_true] at hb0
    refine AWp_seq fun K4 h4 => ?_
    refine AWp_region tab_ok [] ?_
    simp only [go_sem, reduceIte, Nat.reduceEqDiff, Nat.reduceLT, decide_true, reduceCtorEq, Nat.reduceAdd, Nat.reduceBEq, Nat.reduceMul, Nat.reduceLeDiff, Int.reduceToNat, h_0]
    repeat refine ⟨by first | assumption | omega | exact True.intro | exact rfl | exact List.mem_cons_self | exact bytes_cell (by omega) | exact fun _ => bytes_cell (by omega) | (simp +contextual only [go_sem]; done) | fail, ?_⟩
    refine h4 _ _ ?_
    clear h4
    refine AWp_ret ?_
    refine retQ_ret ?_
    simp only [go_sem, reduceIte, Nat.reduceEqDiff, Nat.reduceLT, decide_true, reduceCtorEq, Nat.reduceAdd, Nat.reduceBEq, Nat.reduceMul, Nat.reduceLeDiff, Int.reduceToNat, h_0]
    repeat refine ⟨by first | assumption | omega | exact True.intro | exact rfl | exact List.mem_cons_self | exact bytes_cell (by omega) | exact fun _ => bytes_cell (by omega) | (simp +contextual only [go_sem]; done) | fail, ?_⟩
    rw [if_pos hb0] at hK
    exact hK
  · try simp only [bne_iff_ne, ne_eq, bne_eq_false_iff_eq, beq_iff_eq, beq_eq_false_iff_ne, decide_eq_true_eq, decide_eq_false_iff_not, Bool.not_eq_true', Bool.not_eq_false', Bool.and_eq_true, Bool.and_eq_false_iff, Bool.or_eq_true, Bool.or_eq_false_iff, Int.natCast_inj, not_true_eq_false, not_false_eq_true] at hb0
    refine AWp_skip ?_
    refine h2 _ _ ?_
    refine AWp_seq fun K5 h5 => ?_
    refine AWp_region tab_ok [] ?_
    simp only [go_sem, reduceIte, Nat.reduceEqDiff, Nat.reduceLT, decide_true, reduceCtorEq, Nat.reduceAdd, Nat.reduceBEq, Nat.reduceMul, Nat.reduceLeDiff, Int.reduceToNat, h_0]
    repeat refine ⟨by first | assumption | omega | exact True.intro | exact rfl | exact List.mem_cons_self | exact bytes_cell (by omega) | exact fun _ => bytes_cell (by omega) | (simp +contextual only [go_sem]; done) | fail, ?_⟩
    refine h5 _ _ ?_
    clear h5
    refine AWp_ret ?_
    refine retQ_ret ?_
    simp only [go_sem, reduceIte, Nat.reduceEqDiff, Nat.reduceLT, decide_true, reduceCtorEq, Nat.reduceAdd, Nat.reduceBEq, Nat.reduceMul, Nat.reduceLeDiff, Int.reduceToNat, h_0]
    repeat refine ⟨by first | assumption | omega | exact True.intro | exact rfl | exact List.mem_cons_self | exact bytes_cell (by omega) | exact fun _ => bytes_cell (by omega) | (simp +contextual only [go_sem]; done) | fail, ?_⟩
    rw [if_neg (by simp [hb0])] at hK
    exact hK

end Go.Ab
