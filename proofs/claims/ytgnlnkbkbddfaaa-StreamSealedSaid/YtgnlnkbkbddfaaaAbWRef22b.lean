/- Ab.WRef22b: what the reference reads of a batch, and what it tells of one. -/
import Derived.Test.YtgnlnkbkbddfaaaAbWRef22a
import Derived.Test.YtgnlnkbkbddfaaaAbOpen
namespace Go.Ab
set_option maxHeartbeats 1000000
set_option linter.unusedSimpArgs false

theorem value_spec (H : Hp) (K : AV → Hp → Prop) (r : Rd) (B c bit : Nat) (was : Int) (h_0 : r.left.length < 2^29) (h_1 : H B = some (.cells [.lst 0 (bytes r.left), .sc (.bool r.bad)])) (h_2 : 0 < bit) (h_3 : c < 9223372036854775808) (hK : K (.sc (.int .i64 (valueL r c bit was).1)) (hset H B (.cells [.lst 0 (bytes (valueL r c bit was).2.left), .sc (.bool (valueL r c bit was).2.bad)]))) :
    ACalls Go.Proofs.Try.prog 142 [.sc (.pointer (some ⟨B, 0, none⟩)), .sc (.int .i64 c), .sc (.int .i64 bit), .sc (.int .i64 was)] H K := by
  refine ACalls_fn tab_ok Go.Proofs.Try.func142 17 [.tmp 8] rfl rfl rfl rfl fun d => ?_
  refine AWp_seq fun K1 h1 => ?_
  refine AWp_region tab_ok [] ?_
  simp only [go_sem, reduceIte, Nat.reduceEqDiff, Nat.reduceLT, decide_true, reduceCtorEq, Nat.reduceAdd, Nat.reduceBEq, Nat.reduceMul, Nat.reduceLeDiff, Int.reduceToNat, h_1]
  repeat refine ⟨by first | assumption | omega | exact True.intro | exact rfl | exact List.mem_cons_self | exact bytes_cell (by omega) | exact fun _ => bytes_cell (by omega) | (simp +contextual only [go_sem]; done) | fail, ?_⟩
  refine h1 _ _ ?_
  clear h1
  refine AWp_seq fun K2 h2 => ?_
  refine AWp_seq fun K3 h3 => ?_
  refine AWp_region tab_ok [] ?_
  simp only [go_sem, reduceIte, Nat.reduceEqDiff, Nat.reduceLT, decide_true, reduceCtorEq, Nat.reduceAdd, Nat.reduceBEq, Nat.reduceMul, Nat.reduceLeDiff, Int.reduceToNat, h_1, rem2N]
  rw [quoNN _ _ (by omega)]
  try simp only [go_sem, reduceIte, Nat.reduceEqDiff, Nat.reduceLT, decide_true, reduceCtorEq, Nat.reduceAdd, Nat.reduceBEq, Nat.reduceMul, Nat.reduceLeDiff, Int.reduceToNat, h_1, rem2N]
  repeat refine ⟨by first | assumption | omega | exact True.intro | exact rfl | exact List.mem_cons_self | exact bytes_cell (by omega) | exact fun _ => bytes_cell (by omega) | (simp +contextual only [go_sem]; done) | fail, ?_⟩
  refine h3 _ _ ?_
  clear h3
  refine AWp_if fun kk hkk => ?_
  simp only [go_sem, reduceIte, Nat.reduceEqDiff, Nat.reduceLT, decide_true, reduceCtorEq, Nat.reduceAdd, Nat.reduceBEq, Nat.reduceMul, Nat.reduceLeDiff, Int.reduceToNat, h_1]
  repeat refine ⟨by first | assumption | omega | exact True.intro | exact rfl | exact List.mem_cons_self | exact bytes_cell (by omega) | exact fun _ => bytes_cell (by omega) | (simp +contextual only [go_sem]; done) | fail, ?_⟩
  refine hkk _ (fun hb0 => ?_) (fun hb0 => ?_) <;> clear hkk kk
  · simp only [bne_iff_ne, ne_eq, bne_eq_false_iff_eq, beq_iff_eq, beq_eq_false_iff_ne, decide_eq_true_eq, decide_eq_false_iff_not, Bool.not_eq_true', Bool.not_eq_false', Bool.and_eq_true, Bool.and_eq_false_iff, Bool.or_eq_true, Bool.or_eq_false_iff, Int.natCast_inj, not_true_eq_false, not_false_eq_true] at hb0
    have hv : valueL r c bit was = (((r.get 255).1 : Int), (r.get 255).2) := if_pos (by omega)
    refine AWp_seq fun K4 h4 => ?_
    refine AWp_region tab_ok [] ?_
    simp only [go_sem, reduceIte, Nat.reduceEqDiff, Nat.reduceLT, decide_true, reduceCtorEq, Nat.reduceAdd, Nat.reduceBEq, Nat.reduceMul, Nat.reduceLeDiff, Int.reduceToNat, h_1]
    repeat refine ⟨by first | assumption | omega | exact True.intro | exact rfl | exact List.mem_cons_self | exact bytes_cell (by omega) | exact fun _ => bytes_cell (by omega) | (simp +contextual only [go_sem]; done) | fail, ?_⟩
    refine refGet_spec _ _ r B 255 (by omega) (by simp only [go_sem, reduceIte, Nat.reduceEqDiff, Nat.reduceLT, decide_true, reduceCtorEq, Nat.reduceAdd, Nat.reduceBEq, Nat.reduceMul, Nat.reduceLeDiff, Int.reduceToNat, h_1]) ?_
    simp only [callK]
    simp only [go_sem, reduceIte, Nat.reduceEqDiff, Nat.reduceLT, decide_true, reduceCtorEq, Nat.reduceAdd, Nat.reduceBEq, Nat.reduceMul, Nat.reduceLeDiff, Int.reduceToNat, h_1]
    repeat refine ⟨by first | assumption | omega | exact True.intro | exact rfl | exact List.mem_cons_self | exact bytes_cell (by omega) | exact fun _ => bytes_cell (by omega) | (simp +contextual only [go_sem]; done) | fail, ?_⟩
    refine h4 _ _ ?_
    clear h4
    refine AWp_ret ?_
    refine retQ_ret ?_
    simp only [go_sem, reduceIte, Nat.reduceEqDiff, Nat.reduceLT, decide_true, reduceCtorEq, Nat.reduceAdd, Nat.reduceBEq, Nat.reduceMul, Nat.reduceLeDiff, Int.reduceToNat, h_1]
    repeat refine ⟨by first | assumption | omega | exact True.intro | exact rfl | exact List.mem_cons_self | exact bytes_cell (by omega) | exact fun _ => bytes_cell (by omega) | (simp +contextual only [go_sem]; done) | fail, ?_⟩
    rw [hv] at hK
    exact hK
  · simp only [bne_iff_ne, ne_eq, bne_eq_false_iff_eq, beq_iff_eq, beq_eq_false_iff_ne, decide_eq_true_eq, decide_eq_false_iff_not, Bool.not_eq_true', Bool.not_eq_false', Bool.and_eq_true, Bool.and_eq_false_iff, Bool.or_eq_true, Bool.or_eq_false_iff, Int.natCast_inj, not_true_eq_false, not_false_eq_true] at hb0
    have hv : valueL r c bit was = (was, r) := if_neg (by omega)
    refine AWp_skip ?_
    refine h2 _ _ ?_
    refine AWp_seq fun K5 h5 => ?_
    refine AWp_region tab_ok [0] ?_
    simp only [go_sem, reduceIte, Nat.reduceEqDiff, Nat.reduceLT, decide_true, reduceCtorEq, Nat.reduceAdd, Nat.reduceBEq, Nat.reduceMul, Nat.reduceLeDiff, Int.reduceToNat, h_1]
    repeat refine ⟨by first | assumption | omega | exact True.intro | exact rfl | exact List.mem_cons_self | exact bytes_cell (by omega) | exact fun _ => bytes_cell (by omega) | (simp +contextual only [go_sem]; done) | fail, ?_⟩
    refine h5 _ _ ?_
    clear h5
    refine AWp_ret ?_
    refine retQ_ret ?_
    simp only [go_sem, reduceIte, Nat.reduceEqDiff, Nat.reduceLT, decide_true, reduceCtorEq, Nat.reduceAdd, Nat.reduceBEq, Nat.reduceMul, Nat.reduceLeDiff, Int.reduceToNat, h_1]
    repeat refine ⟨by first | assumption | omega | exact True.intro | exact rfl | exact List.mem_cons_self | exact bytes_cell (by omega) | exact fun _ => bytes_cell (by omega) | (simp +contextual only [go_sem]; done) | fail, ?_⟩
    rw [hv] at hK
    dsimp only at hK
    rw [hset_same h_1] at hK
    exact hK

theorem one22_spec (H : Hp) (K : AV → Hp → Prop) (r : Rd) (b : Bt) (B : Nat) (h_0 : r.left.length < 2^29) (h_1 : H B = some (.cells [.lst 0 (bytes r.left), .sc (.bool r.bad)])) (hK : K (.agg (AVcells (oneL r b).1)) (hset H B (.cells [.lst 0 (bytes (oneL r b).2.left), .sc (.bool (oneL r b).2.bad)]))) :
    ACalls Go.Proofs.Try.prog 70 [.sc (.pointer (some ⟨B, 0, none⟩)), .agg [.sc (.int .i64 b.a0), .sc (.int .i64 b.a1), .sc (.bool b.clear), .sc (.int .i64 b.a3), .sc (.int .i64 b.a4), .sc (.int .i64 b.a5), .lst 0 (ints b.ids)]] H K := by
  refine ACalls_fn tab_ok Go.Proofs.Try.func70 64 [.cell 4 113] rfl rfl rfl rfl fun d => ?_
  have h1 : (r1L r).left.length ≤ r.left.length := get_len r 63
  have h2 : (v0L r b).2.left.length ≤ (r1L r).left.length := value_len (r1L r) (cL r) 1 b.a0
  have h3 : (v1L r b).2.left.length ≤ (v0L r b).2.left.length := value_len (v0L r b).2 (cL r) 2 b.a1
  have h4 : (v3L r b).2.left.length ≤ (v1L r b).2.left.length := value_len (v1L r b).2 (cL r) 8 b.a3
  have h5 : (v4L r b).2.left.length ≤ (v3L r b).2.left.length := value_len (v3L r b).2 (cL r) 16 b.a4
  have h6 : (v5L r b).2.left.length ≤ (v4L r b).2.left.length := value_len (v4L r b).2 (cL r) 32 b.a5
  have h7 : (r6L r b).left.length ≤ (v5L r b).2.left.length := get_len (v5L r b).2 64
  have hc : cL r = 0 ∨ (cL r : Int) ≤ 63 := get_le r 63
  have hk : kL r b = 0 ∨ (kL r b : Int) ≤ 64 := get_le (v5L r b).2 64
  have hq4 := quo4N (cL r) (by omega)
  refine AWp_seq fun K1 h1 => ?_
  refine AWp_region tab_ok [] ?_
  simp only [go_sem, reduceIte, Nat.reduceEqDiff, Nat.reduceLT, decide_true, reduceCtorEq, Nat.reduceAdd, Nat.reduceBEq, Nat.reduceMul, Nat.reduceLeDiff, Int.reduceToNat, h_1]
  repeat refine ⟨by first | assumption | omega | exact True.intro | exact rfl | exact ints_cells _ | exact List.mem_cons_self | exact bytes_cell (by omega) | exact fun _ => bytes_cell (by omega) | (simp +contextual only [go_sem]; done) | fail, ?_⟩
  refine fun B0 hB0 => ?_
  have nB0_B : B0 ≠ B := fun hh => by rw [hh] at hB0; revert hB0; (try simp only [hset]); (repeat' split) <;> simp_all
  repeat (first | replace hB0 := ite_none hB0 | replace hB0 := hset_none hB0)
  try simp only [go_sem, reduceIte, Nat.reduceEqDiff, Nat.reduceLT, decide_true, reduceCtorEq, Nat.reduceAdd, Nat.reduceBEq, Nat.reduceMul, Nat.reduceLeDiff, Int.reduceToNat, h_1, nB0_B, nB0_B.symm]
  repeat refine ⟨by first | assumption | omega | exact True.intro | exact rfl | exact ints_cells _ | exact List.mem_cons_self | exact bytes_cell (by omega) | exact fun _ => bytes_cell (by omega) | (simp +contextual only [go_sem]; done) | fail, ?_⟩
  refine fun B1 hB1 => ?_
  have nB1_B : B1 ≠ B := fun hh => by rw [hh] at hB1; revert hB1; (try simp only [hset]); (repeat' split) <;> simp_all
  have nB1_B0 : B1 ≠ B0 := fun hh => by rw [hh] at hB1; revert hB1; (try simp only [hset]); (repeat' split) <;> simp_all
  repeat (first | replace hB1 := ite_none hB1 | replace hB1 := hset_none hB1)
  try simp only [go_sem, reduceIte, Nat.reduceEqDiff, Nat.reduceLT, decide_true, reduceCtorEq, Nat.reduceAdd, Nat.reduceBEq, Nat.reduceMul, Nat.reduceLeDiff, Int.reduceToNat, h_1, nB0_B, nB0_B.symm, nB1_B, nB1_B.symm, nB1_B0, nB1_B0.symm]
  repeat refine ⟨by first | assumption | omega | exact True.intro | exact rfl | exact ints_cells _ | exact List.mem_cons_self | exact bytes_cell (by omega) | exact fun _ => bytes_cell (by omega) | (simp +contextual only [go_sem]; done) | fail, ?_⟩
  refine h1 _ _ ?_
  clear h1
  refine AWp_seq fun K2 h2 => ?_
  refine AWp_region tab_ok [] ?_
  simp only [go_sem, reduceIte, Nat.reduceEqDiff, Nat.reduceLT, decide_true, reduceCtorEq, Nat.reduceAdd, Nat.reduceBEq, Nat.reduceMul, Nat.reduceLeDiff, Int.reduceToNat, h_1, nB0_B, nB0_B.symm, nB1_B, nB1_B.symm, nB1_B0, nB1_B0.symm]
  repeat refine ⟨by first | assumption | omega | exact True.intro | exact rfl | exact ints_cells _ | exact List.mem_cons_self | exact bytes_cell (by omega) | exact fun _ => bytes_cell (by omega) | (simp +contextual only [go_sem]; done) | fail, ?_⟩
  refine refGet_spec _ _ r B 63 (by omega) (by simp only [go_sem, reduceIte, Nat.reduceEqDiff, Nat.reduceLT, decide_true, reduceCtorEq, Nat.reduceAdd, Nat.reduceBEq, Nat.reduceMul, Nat.reduceLeDiff, Int.reduceToNat, h_1, nB0_B, nB0_B.symm, nB1_B, nB1_B.symm, nB1_B0, nB1_B0.symm]) ?_
  rw [show (r.get 63).2 = r1L r from rfl, show (r.get 63).1 = cL r from rfl]
  simp only [callK]
  simp only [go_sem, reduceIte, Nat.reduceEqDiff, Nat.reduceLT, decide_true, reduceCtorEq, Nat.reduceAdd, Nat.reduceBEq, Nat.reduceMul, Nat.reduceLeDiff, Int.reduceToNat, h_1, nB0_B, nB0_B.symm, nB1_B, nB1_B.symm, nB1_B0, nB1_B0.symm]
  repeat refine ⟨by first | assumption | omega | exact True.intro | exact rfl | exact ints_cells _ | exact List.mem_cons_self | exact bytes_cell (by omega) | exact fun _ => bytes_cell (by omega) | (simp +contextual only [go_sem]; done) | fail, ?_⟩
  refine h2 _ _ ?_
  clear h2
  refine AWp_seq fun K3 h3 => ?_
  refine AWp_region tab_ok [] ?_
  simp only [go_sem, reduceIte, Nat.reduceEqDiff, Nat.reduceLT, decide_true, reduceCtorEq, Nat.reduceAdd, Nat.reduceBEq, Nat.reduceMul, Nat.reduceLeDiff, Int.reduceToNat, h_1, nB0_B, nB0_B.symm, nB1_B, nB1_B.symm, nB1_B0, nB1_B0.symm]
  repeat refine ⟨by first | assumption | omega | exact True.intro | exact rfl | exact ints_cells _ | exact List.mem_cons_self | exact bytes_cell (by omega) | exact fun _ => bytes_cell (by omega) | (simp +contextual only [go_sem]; done) | fail, ?_⟩
  refine value_spec _ _ (r1L r) B (cL r) 1 b.a0 (by omega) (by simp only [go_sem, reduceIte, Nat.reduceEqDiff, Nat.reduceLT, decide_true, reduceCtorEq, Nat.reduceAdd, Nat.reduceBEq, Nat.reduceMul, Nat.reduceLeDiff, Int.reduceToNat, h_1, nB0_B, nB0_B.symm, nB1_B, nB1_B.symm, nB1_B0, nB1_B0.symm]) (by decide) (by omega) ?_
  try rw [show (valueL (r1L r) (cL r) 1 b.a0) = v0L r b from rfl]
  simp only [callK]
  simp only [go_sem, reduceIte, Nat.reduceEqDiff, Nat.reduceLT, decide_true, reduceCtorEq, Nat.reduceAdd, Nat.reduceBEq, Nat.reduceMul, Nat.reduceLeDiff, Int.reduceToNat, h_1, nB0_B, nB0_B.symm, nB1_B, nB1_B.symm, nB1_B0, nB1_B0.symm]
  repeat refine ⟨by first | assumption | omega | exact True.intro | exact rfl | exact ints_cells _ | exact List.mem_cons_self | exact bytes_cell (by omega) | exact fun _ => bytes_cell (by omega) | (simp +contextual only [go_sem]; done) | fail, ?_⟩
  refine fun B2 hB2 => ?_
  have nB2_B : B2 ≠ B := fun hh => by rw [hh] at hB2; revert hB2; (try simp only [hset]); (repeat' split) <;> simp_all
  have nB2_B0 : B2 ≠ B0 := fun hh => by rw [hh] at hB2; revert hB2; (try simp only [hset]); (repeat' split) <;> simp_all
  have nB2_B1 : B2 ≠ B1 := fun hh => by rw [hh] at hB2; revert hB2; (try simp only [hset]); (repeat' split) <;> simp_all
  repeat (first | replace hB2 := ite_none hB2 | replace hB2 := hset_none hB2)
  try simp only [go_sem, reduceIte, Nat.reduceEqDiff, Nat.reduceLT, decide_true, reduceCtorEq, Nat.reduceAdd, Nat.reduceBEq, Nat.reduceMul, Nat.reduceLeDiff, Int.reduceToNat, h_1, nB0_B, nB0_B.symm, nB1_B, nB1_B.symm, nB1_B0, nB1_B0.symm, nB2_B, nB2_B.symm, nB2_B0, nB2_B0.symm, nB2_B1, nB2_B1.symm]
  repeat refine ⟨by first | assumption | omega | exact True.intro | exact rfl | exact ints_cells _ | exact List.mem_cons_self | exact bytes_cell (by omega) | exact fun _ => bytes_cell (by omega) | (simp +contextual only [go_sem]; done) | fail, ?_⟩
  refine h3 _ _ ?_
  clear h3
  refine AWp_seq fun K4 h4 => ?_
  refine AWp_top [.sc (.int .i64 (v0L r b).1), .sc (.int .i64 0), .sc (.bool false), .sc (.int .i64 0), .sc (.int .i64 0), .sc (.int .i64 0), .lst 1 []] ⟨.inl rfl, .inl rfl, .inl rfl, .inl rfl, .inl rfl, .inl rfl, .inr (.inr (.inl ⟨rfl, .inr rfl⟩)), trivial⟩ ?_
  refine AWp_region tab_ok [] ?_
  simp only [go_sem, reduceIte, Nat.reduceEqDiff, Nat.reduceLT, decide_true, reduceCtorEq, Nat.reduceAdd, Nat.reduceBEq, Nat.reduceMul, Nat.reduceLeDiff, Int.reduceToNat, h_1, nB0_B, nB0_B.symm, nB1_B, nB1_B.symm, nB1_B0, nB1_B0.symm, nB2_B, nB2_B.symm, nB2_B0, nB2_B0.symm, nB2_B1, nB2_B1.symm]
  repeat refine ⟨by first | assumption | omega | exact True.intro | exact rfl | exact ints_cells _ | exact List.mem_cons_self | exact bytes_cell (by omega) | exact fun _ => bytes_cell (by omega) | (simp +contextual only [go_sem]; done) | fail, ?_⟩
  refine value_spec _ _ (v0L r b).2 B (cL r) 2 b.a1 (by omega) (by simp only [go_sem, reduceIte, Nat.reduceEqDiff, Nat.reduceLT, decide_true, reduceCtorEq, Nat.reduceAdd, Nat.reduceBEq, Nat.reduceMul, Nat.reduceLeDiff, Int.reduceToNat, h_1, nB0_B, nB0_B.symm, nB1_B, nB1_B.symm, nB1_B0, nB1_B0.symm, nB2_B, nB2_B.symm, nB2_B0, nB2_B0.symm, nB2_B1, nB2_B1.symm]) (by decide) (by omega) ?_
  try rw [show (valueL (v0L r b).2 (cL r) 2 b.a1) = v1L r b from rfl]
  simp only [callK]
  simp only [go_sem, reduceIte, Nat.reduceEqDiff, Nat.reduceLT, decide_true, reduceCtorEq, Nat.reduceAdd, Nat.reduceBEq, Nat.reduceMul, Nat.reduceLeDiff, Int.reduceToNat, h_1, nB0_B, nB0_B.symm, nB1_B, nB1_B.symm, nB1_B0, nB1_B0.symm, nB2_B, nB2_B.symm, nB2_B0, nB2_B0.symm, nB2_B1, nB2_B1.symm]
  repeat refine ⟨by first | assumption | omega | exact True.intro | exact rfl | exact ints_cells _ | exact List.mem_cons_self | exact bytes_cell (by omega) | exact fun _ => bytes_cell (by omega) | (simp +contextual only [go_sem]; done) | fail, ?_⟩
  refine h4 _ _ ?_
  clear h4
  refine AWp_seq fun K5 h5 => ?_
  refine AWp_region tab_ok [] ?_
  simp only [go_sem, reduceIte, Nat.reduceEqDiff, Nat.reduceLT, decide_true, reduceCtorEq, Nat.reduceAdd, Nat.reduceBEq, Nat.reduceMul, Nat.reduceLeDiff, Int.reduceToNat, h_1, nB0_B, nB0_B.symm, nB1_B, nB1_B.symm, nB1_B0, nB1_B0.symm, nB2_B, nB2_B.symm, nB2_B0, nB2_B0.symm, nB2_B1, nB2_B1.symm, hq4, rem2N]
  repeat refine ⟨by first | assumption | omega | exact True.intro | exact rfl | exact ints_cells _ | exact List.mem_cons_self | exact bytes_cell (by omega) | exact fun _ => bytes_cell (by omega) | (simp +contextual only [go_sem]; done) | fail, ?_⟩
  refine h5 _ _ ?_
  clear h5
  refine AWp_seq fun K6 h6 => ?_
  refine AWp_region tab_ok [] ?_
  simp only [go_sem, reduceIte, Nat.reduceEqDiff, Nat.reduceLT, decide_true, reduceCtorEq, Nat.reduceAdd, Nat.reduceBEq, Nat.reduceMul, Nat.reduceLeDiff, Int.reduceToNat, h_1, nB0_B, nB0_B.symm, nB1_B, nB1_B.symm, nB1_B0, nB1_B0.symm, nB2_B, nB2_B.symm, nB2_B0, nB2_B0.symm, nB2_B1, nB2_B1.symm]
  repeat refine ⟨by first | assumption | omega | exact True.intro | exact rfl | exact ints_cells _ | exact List.mem_cons_self | exact bytes_cell (by omega) | exact fun _ => bytes_cell (by omega) | (simp +contextual only [go_sem]; done) | fail, ?_⟩
  refine value_spec _ _ (v1L r b).2 B (cL r) 8 b.a3 (by omega) (by simp only [go_sem, reduceIte, Nat.reduceEqDiff, Nat.reduceLT, decide_true, reduceCtorEq, Nat.reduceAdd, Nat.reduceBEq, Nat.reduceMul, Nat.reduceLeDiff, Int.reduceToNat, h_1, nB0_B, nB0_B.symm, nB1_B, nB1_B.symm, nB1_B0, nB1_B0.symm, nB2_B, nB2_B.symm, nB2_B0, nB2_B0.symm, nB2_B1, nB2_B1.symm]) (by decide) (by omega) ?_
  try rw [show (valueL (v1L r b).2 (cL r) 8 b.a3) = v3L r b from rfl]
  simp only [callK]
  simp only [go_sem, reduceIte, Nat.reduceEqDiff, Nat.reduceLT, decide_true, reduceCtorEq, Nat.reduceAdd, Nat.reduceBEq, Nat.reduceMul, Nat.reduceLeDiff, Int.reduceToNat, h_1, nB0_B, nB0_B.symm, nB1_B, nB1_B.symm, nB1_B0, nB1_B0.symm, nB2_B, nB2_B.symm, nB2_B0, nB2_B0.symm, nB2_B1, nB2_B1.symm]
  repeat refine ⟨by first | assumption | omega | exact True.intro | exact rfl | exact ints_cells _ | exact List.mem_cons_self | exact bytes_cell (by omega) | exact fun _ => bytes_cell (by omega) | (simp +contextual only [go_sem]; done) | fail, ?_⟩
  refine h6 _ _ ?_
  clear h6
  refine AWp_seq fun K7 h7 => ?_
  refine AWp_region tab_ok [] ?_
  simp only [go_sem, reduceIte, Nat.reduceEqDiff, Nat.reduceLT, decide_true, reduceCtorEq, Nat.reduceAdd, Nat.reduceBEq, Nat.reduceMul, Nat.reduceLeDiff, Int.reduceToNat, h_1, nB0_B, nB0_B.symm, nB1_B, nB1_B.symm, nB1_B0, nB1_B0.symm, nB2_B, nB2_B.symm, nB2_B0, nB2_B0.symm, nB2_B1, nB2_B1.symm]
  repeat refine ⟨by first | assumption | omega | exact True.intro | exact rfl | exact ints_cells _ | exact List.mem_cons_self | exact bytes_cell (by omega) | exact fun _ => bytes_cell (by omega) | (simp +contextual only [go_sem]; done) | fail, ?_⟩
  refine value_spec _ _ (v3L r b).2 B (cL r) 16 b.a4 (by omega) (by simp only [go_sem, reduceIte, Nat.reduceEqDiff, Nat.reduceLT, decide_true, reduceCtorEq, Nat.reduceAdd, Nat.reduceBEq, Nat.reduceMul, Nat.reduceLeDiff, Int.reduceToNat, h_1, nB0_B, nB0_B.symm, nB1_B, nB1_B.symm, nB1_B0, nB1_B0.symm, nB2_B, nB2_B.symm, nB2_B0, nB2_B0.symm, nB2_B1, nB2_B1.symm]) (by decide) (by omega) ?_
  try rw [show (valueL (v3L r b).2 (cL r) 16 b.a4) = v4L r b from rfl]
  simp only [callK]
  simp only [go_sem, reduceIte, Nat.reduceEqDiff, Nat.reduceLT, decide_true, reduceCtorEq, Nat.reduceAdd, Nat.reduceBEq, Nat.reduceMul, Nat.reduceLeDiff, Int.reduceToNat, h_1, nB0_B, nB0_B.symm, nB1_B, nB1_B.symm, nB1_B0, nB1_B0.symm, nB2_B, nB2_B.symm, nB2_B0, nB2_B0.symm, nB2_B1, nB2_B1.symm]
  repeat refine ⟨by first | assumption | omega | exact True.intro | exact rfl | exact ints_cells _ | exact List.mem_cons_self | exact bytes_cell (by omega) | exact fun _ => bytes_cell (by omega) | (simp +contextual only [go_sem]; done) | fail, ?_⟩
  refine h7 _ _ ?_
  clear h7
  refine AWp_seq fun K8 h8 => ?_
  refine AWp_region tab_ok [] ?_
  simp only [go_sem, reduceIte, Nat.reduceEqDiff, Nat.reduceLT, decide_true, reduceCtorEq, Nat.reduceAdd, Nat.reduceBEq, Nat.reduceMul, Nat.reduceLeDiff, Int.reduceToNat, h_1, nB0_B, nB0_B.symm, nB1_B, nB1_B.symm, nB1_B0, nB1_B0.symm, nB2_B, nB2_B.symm, nB2_B0, nB2_B0.symm, nB2_B1, nB2_B1.symm]
  repeat refine ⟨by first | assumption | omega | exact True.intro | exact rfl | exact ints_cells _ | exact List.mem_cons_self | exact bytes_cell (by omega) | exact fun _ => bytes_cell (by omega) | (simp +contextual only [go_sem]; done) | fail, ?_⟩
  refine value_spec _ _ (v4L r b).2 B (cL r) 32 b.a5 (by omega) (by simp only [go_sem, reduceIte, Nat.reduceEqDiff, Nat.reduceLT, decide_true, reduceCtorEq, Nat.reduceAdd, Nat.reduceBEq, Nat.reduceMul, Nat.reduceLeDiff, Int.reduceToNat, h_1, nB0_B, nB0_B.symm, nB1_B, nB1_B.symm, nB1_B0, nB1_B0.symm, nB2_B, nB2_B.symm, nB2_B0, nB2_B0.symm, nB2_B1, nB2_B1.symm]) (by decide) (by omega) ?_
  try rw [show (valueL (v4L r b).2 (cL r) 32 b.a5) = v5L r b from rfl]
  simp only [callK]
  simp only [go_sem, reduceIte, Nat.reduceEqDiff, Nat.reduceLT, decide_true, reduceCtorEq, Nat.reduceAdd, Nat.reduceBEq, Nat.reduceMul, Nat.reduceLeDiff, Int.reduceToNat, h_1, nB0_B, nB0_B.symm, nB1_B, nB1_B.symm, nB1_B0, nB1_B0.symm, nB2_B, nB2_B.symm, nB2_B0, nB2_B0.symm, nB2_B1, nB2_B1.symm]
  repeat refine ⟨by first | assumption | omega | exact True.intro | exact rfl | exact ints_cells _ | exact List.mem_cons_self | exact bytes_cell (by omega) | exact fun _ => bytes_cell (by omega) | (simp +contextual only [go_sem]; done) | fail, ?_⟩
  refine h8 _ _ ?_
  clear h8
  refine AWp_seq fun K9 h9 => ?_
  refine AWp_region tab_ok [] ?_
  simp only [go_sem, reduceIte, Nat.reduceEqDiff, Nat.reduceLT, decide_true, reduceCtorEq, Nat.reduceAdd, Nat.reduceBEq, Nat.reduceMul, Nat.reduceLeDiff, Int.reduceToNat, h_1, nB0_B, nB0_B.symm, nB1_B, nB1_B.symm, nB1_B0, nB1_B0.symm, nB2_B, nB2_B.symm, nB2_B0, nB2_B0.symm, nB2_B1, nB2_B1.symm]
  repeat refine ⟨by first | assumption | omega | exact True.intro | exact rfl | exact ints_cells _ | exact List.mem_cons_self | exact bytes_cell (by omega) | exact fun _ => bytes_cell (by omega) | (simp +contextual only [go_sem]; done) | fail, ?_⟩
  refine refGet_spec _ _ (v5L r b).2 B 64 (by omega) (by simp only [go_sem, reduceIte, Nat.reduceEqDiff, Nat.reduceLT, decide_true, reduceCtorEq, Nat.reduceAdd, Nat.reduceBEq, Nat.reduceMul, Nat.reduceLeDiff, Int.reduceToNat, h_1, nB0_B, nB0_B.symm, nB1_B, nB1_B.symm, nB1_B0, nB1_B0.symm, nB2_B, nB2_B.symm, nB2_B0, nB2_B0.symm, nB2_B1, nB2_B1.symm]) ?_
  rw [show ((v5L r b).2.get 64).2 = r6L r b from rfl, show ((v5L r b).2.get 64).1 = kL r b from rfl]
  simp only [callK]
  simp only [go_sem, reduceIte, Nat.reduceEqDiff, Nat.reduceLT, decide_true, reduceCtorEq, Nat.reduceAdd, Nat.reduceBEq, Nat.reduceMul, Nat.reduceLeDiff, Int.reduceToNat, h_1, nB0_B, nB0_B.symm, nB1_B, nB1_B.symm, nB1_B0, nB1_B0.symm, nB2_B, nB2_B.symm, nB2_B0, nB2_B0.symm, nB2_B1, nB2_B1.symm]
  repeat refine ⟨by first | assumption | omega | exact True.intro | exact rfl | exact ints_cells _ | exact List.mem_cons_self | exact bytes_cell (by omega) | exact fun _ => bytes_cell (by omega) | (simp +contextual only [go_sem]; done) | fail, ?_⟩
  refine h9 _ _ ?_
  clear h9
  refine AWp_seq fun K10 h10 => ?_
  refine AWp_seq fun K11 h11 => ?_
  refine AWp_region tab_ok [] ?_
  simp only [go_sem, reduceIte, Nat.reduceEqDiff, Nat.reduceLT, decide_true, reduceCtorEq, Nat.reduceAdd, Nat.reduceBEq, Nat.reduceMul, Nat.reduceLeDiff, Int.reduceToNat, h_1, nB0_B, nB0_B.symm, nB1_B, nB1_B.symm, nB1_B0, nB1_B0.symm, nB2_B, nB2_B.symm, nB2_B0, nB2_B0.symm, nB2_B1, nB2_B1.symm]
  repeat refine ⟨by first | assumption | omega | exact True.intro | exact rfl | exact ints_cells _ | exact List.mem_cons_self | exact bytes_cell (by omega) | exact fun _ => bytes_cell (by omega) | (simp +contextual only [go_sem]; done) | fail, ?_⟩
  refine h11 _ _ ?_
  clear h11
  refine AWp_block ?_
  refine AWp_loop_ind (ι := (Nat)) (fun (i : Nat) => [(8, .sc (.int .i64 i)), (7, .sc (.int .i64 (kL r b))), (0, .sc (.pointer (some ⟨B, 0, none⟩))), (4, .sc (.pointer (some ⟨B1, 0, none⟩))), (6, .sc (.pointer (some ⟨B2, 0, none⟩)))]) (fun (i : Nat) => (hsets H [(B, (.cells [.lst 0 (bytes (idsL (r6L r b) i).2.left), .sc (.bool (idsL (r6L r b) i).2.bad)])), (B1, .cells [.sc (.int .i64 0), .sc (.int .i64 0), .sc (.bool false), .sc (.int .i64 0), .sc (.int .i64 0), .sc (.int .i64 0), .lst 1 []]), (B2, .cells [.sc (.int .i64 (v0L r b).1), .sc (.int .i64 (v1L r b).1), .sc (.bool (!(b.clear == (((cL r / 4 % 2 : Nat) : Int) == 1)))), .sc (.int .i64 (v3L r b).1), .sc (.int .i64 (v4L r b).1), .sc (.int .i64 (v5L r b).1), .lst 1 (ints (idsL (r6L r b) i).1)])])) (fun (i : Nat) => (i ≤ kL r b)) (fun (i : Nat) => kL r b - i) 0 ?_ ?_ ?_ ?_
  · first | omega | exact True.intro | simp
  · (try dsimp only); exact (hweakL (by repeat (first | exact Fr_refl _ _ | refine Fr_new (by assumption) ?_ | refine Fr_old (by simp only [List.map_cons, List.mem_cons, true_or, or_true]) ?_)) (by simp only [go_sem, reduceIte, Nat.reduceEqDiff, Nat.reduceLT, decide_true, reduceCtorEq, Nat.reduceAdd, Nat.reduceBEq, Nat.reduceMul, Nat.reduceLeDiff, Int.reduceToNat, h_1, nB0_B, nB0_B.symm, nB1_B, nB1_B.symm, nB1_B0, nB1_B0.symm, nB2_B, nB2_B.symm, nB2_B0, nB2_B0.symm, nB2_B1, nB2_B1.symm]; first | done | exact True.intro | (repeat' apply And.intro) <;> first | rfl | exact True.intro))
  · simp only [go_sem, reduceIte, Nat.reduceEqDiff, Nat.reduceLT, decide_true, reduceCtorEq, Nat.reduceAdd, Nat.reduceBEq, Nat.reduceMul, Nat.reduceLeDiff, Int.reduceToNat, h_1, nB0_B, nB0_B.symm, nB1_B, nB1_B.symm, nB1_B0, nB1_B0.symm, nB2_B, nB2_B.symm, nB2_B0, nB2_B0.symm, nB2_B1, nB2_B1.symm]; first | done | exact True.intro | (repeat' apply And.intro) <;> first | rfl | exact True.intro
  rintro i hi0_0 L0 hL0
  skip
  have hil := idsL_len (r6L r b) i
  obtain ⟨m, r5, hg⟩ : ∃ m r5, (idsL (r6L r b) i).2.get 16777215 = (m, r5) := ⟨_, _, rfl⟩
  refine AWp_seq fun K12 h12 => ?_
  refine AWp_seq fun K13 h13 => ?_
  refine AWp_region tab_ok [] ?_
  simp only [go_sem, reduceIte, Nat.reduceEqDiff, Nat.reduceLT, decide_true, reduceCtorEq, Nat.reduceAdd, Nat.reduceBEq, Nat.reduceMul, Nat.reduceLeDiff, Int.reduceToNat, h_1, nB0_B, nB0_B.symm, nB1_B, nB1_B.symm, nB1_B0, nB1_B0.symm, nB2_B, nB2_B.symm, nB2_B0, nB2_B0.symm, nB2_B1, nB2_B1.symm]
  repeat refine ⟨by first | assumption | omega | exact True.intro | exact rfl | exact ints_cells _ | exact List.mem_cons_self | exact bytes_cell (by omega) | exact fun _ => bytes_cell (by omega) | (simp +contextual only [go_sem]; done) | fail, ?_⟩
  refine h13 _ _ ?_
  clear h13
  refine AWp_if fun kk hkk => ?_
  simp only [go_sem, reduceIte, Nat.reduceEqDiff, Nat.reduceLT, decide_true, reduceCtorEq, Nat.reduceAdd, Nat.reduceBEq, Nat.reduceMul, Nat.reduceLeDiff, Int.reduceToNat, h_1, nB0_B, nB0_B.symm, nB1_B, nB1_B.symm, nB1_B0, nB1_B0.symm, nB2_B, nB2_B.symm, nB2_B0, nB2_B0.symm, nB2_B1, nB2_B1.symm]
  repeat refine ⟨by first | assumption | omega | exact True.intro | exact rfl | exact ints_cells _ | exact List.mem_cons_self | exact bytes_cell (by omega) | exact fun _ => bytes_cell (by omega) | (simp +contextual only [go_sem]; done) | fail, ?_⟩
  refine hkk _ (fun hb0 => ?_) (fun hb0 => ?_) <;> clear hkk kk
  · try simp only [bne_iff_ne, ne_eq, bne_eq_false_iff_eq, beq_iff_eq, beq_eq_false_iff_ne, decide_eq_true_eq, decide_eq_false_iff_not, Bool.not_eq_true', Bool.not_eq_false', Bool.and_eq_true, Bool.and_eq_false_iff, Bool.or_eq_true, Bool.or_eq_false_iff, Int.natCast_inj, not_true_eq_false, not_false_eq_true] at hb0
    refine AWp_skip ?_
    refine h12 _ _ ?_
    refine AWp_seq fun K14 h14 => ?_
    refine AWp_block ?_
    refine AWp_open tab_ok (by kernel_rfl) [1] [(1, [B2]), (3, [B]), (7, [B2])] [(1, [B2]), (3, [B]), (7, [B2])] [1, 3, 7] rfl [(1, 2), (0, 3), (1, 3), (1, 4)] (by kernel_rfl) (by kernel_rfl) ?_ ?_
    · simp only [go_sem, reduceIte, Nat.reduceEqDiff, Nat.reduceLT, decide_true, reduceCtorEq, Nat.reduceAdd, Nat.reduceBEq, Nat.reduceMul, Nat.reduceLeDiff, Int.reduceToNat, h_1, nB0_B, nB0_B.symm, nB1_B, nB1_B.symm, nB1_B0, nB1_B0.symm, nB2_B, nB2_B.symm, nB2_B0, nB2_B0.symm, nB2_B1, nB2_B1.symm, List.mem_singleton, forall_eq]
    simp only [go_sem, reduceIte, Nat.reduceEqDiff, Nat.reduceLT, decide_true, reduceCtorEq, Nat.reduceAdd, Nat.reduceBEq, Nat.reduceMul, Nat.reduceLeDiff, Int.reduceToNat, h_1, nB0_B, nB0_B.symm, nB1_B, nB1_B.symm, nB1_B0, nB1_B0.symm, nB2_B, nB2_B.symm, nB2_B0, nB2_B0.symm, nB2_B1, nB2_B1.symm]
    repeat refine ⟨by first | assumption | omega | exact True.intro | exact rfl | exact ints_cells _ | exact List.mem_cons_self | exact bytes_cell (by omega) | exact fun _ => bytes_cell (by omega) | (simp +contextual only [go_sem]; done) | fail, ?_⟩
    refine ⟨.sc (.int .i64 m), [(B, (.cells [.lst 0 (bytes r5.left), .sc (.bool r5.bad)]))], fun H2 hH2 K2 hK2 => ?_, ?_⟩
    · exact refGet_spec _ _ (idsL (r6L r b) i).2 B _ (by omega) hH2 (by rw [hg]; exact hK2)
    try simp only [go_sem, reduceIte, Nat.reduceEqDiff, Nat.reduceLT, decide_true, reduceCtorEq, Nat.reduceAdd, Nat.reduceBEq, Nat.reduceMul, Nat.reduceLeDiff, Int.reduceToNat, h_1, nB0_B, nB0_B.symm, nB1_B, nB1_B.symm, nB1_B0, nB1_B0.symm, nB2_B, nB2_B.symm, nB2_B0, nB2_B0.symm, nB2_B1, nB2_B1.symm]
    repeat refine ⟨by first | assumption | omega | exact True.intro | exact rfl | exact ints_cells _ | exact List.mem_cons_self | exact bytes_cell (by omega) | exact fun _ => bytes_cell (by omega) | (simp +contextual only [go_sem]; done) | fail, ?_⟩
    refine h14 _ _ ?_
    refine AWp_region tab_ok [] ?_
    simp only [go_sem, reduceIte, Nat.reduceEqDiff, Nat.reduceLT, decide_true, reduceCtorEq, Nat.reduceAdd, Nat.reduceBEq, Nat.reduceMul, Nat.reduceLeDiff, Int.reduceToNat, h_1, nB0_B, nB0_B.symm, nB1_B, nB1_B.symm, nB1_B0, nB1_B0.symm, nB2_B, nB2_B.symm, nB2_B0, nB2_B0.symm, nB2_B1, nB2_B1.symm]
    try simp (disch := omega) only [wrap64]
    repeat refine ⟨by first | assumption | omega | exact True.intro | exact rfl | exact ints_cells _ | exact List.mem_cons_self | exact bytes_cell (by omega) | exact fun _ => bytes_cell (by omega) | (simp +contextual only [go_sem]; done) | fail, ?_⟩
    refine hL0 (i + 1) _ _ ?_ ?_ (by (try dsimp only); exact hweakL (by repeat (first | exact Fr_refl _ _ | refine Fr_new (by assumption) ?_ | refine Fr_old (by simp only [List.map_cons, List.mem_cons, true_or, or_true]) ?_)) (by rw [idsL_succ, hg]; simp only [go_sem, reduceIte, Nat.reduceEqDiff, Nat.reduceLT, decide_true, reduceCtorEq, Nat.reduceAdd, Nat.reduceBEq, Nat.reduceMul, Nat.reduceLeDiff, Int.reduceToNat, h_1, nB0_B, nB0_B.symm, nB1_B, nB1_B.symm, nB1_B0, nB1_B0.symm, nB2_B, nB2_B.symm, nB2_B0, nB2_B0.symm, nB2_B1, nB2_B1.symm]; first | done | exact True.intro | (repeat' apply And.intro) <;> first | rfl | exact True.intro)) ?_
    · first | omega | exact True.intro | (refine ⟨?_, ?_⟩ <;> first | omega | simp)
    · omega
    · simp only [go_sem, reduceIte, Nat.reduceEqDiff, Nat.reduceLT, decide_true, reduceCtorEq, Nat.reduceAdd, Nat.reduceBEq, Nat.reduceMul, Nat.reduceLeDiff, Int.reduceToNat, h_1, nB0_B, nB0_B.symm, nB1_B, nB1_B.symm, nB1_B0, nB1_B0.symm, nB2_B, nB2_B.symm, nB2_B0, nB2_B0.symm, nB2_B1, nB2_B1.symm]; first | done | exact True.intro | (repeat' apply And.intro) <;> first | rfl | exact True.intro
  · simp only [bne_iff_ne, ne_eq, bne_eq_false_iff_eq, beq_iff_eq, beq_eq_false_iff_ne, decide_eq_true_eq, decide_eq_false_iff_not, Bool.not_eq_true', Bool.not_eq_false', Bool.and_eq_true, Bool.and_eq_false_iff, Bool.or_eq_true, Bool.or_eq_false_iff, Int.natCast_inj, not_true_eq_false, not_false_eq_true] at hb0
    obtain rfl : i = kL r b := by omega
    refine AWp_exit ?_
    refine h10 _ _ ?_
    refine AWp_seq fun K15 h15 => ?_
    refine AWp_region tab_ok [] ?_
    simp only [go_sem, reduceIte, Nat.reduceEqDiff, Nat.reduceLT, decide_true, reduceCtorEq, Nat.reduceAdd, Nat.reduceBEq, Nat.reduceMul, Nat.reduceLeDiff, Int.reduceToNat, h_1, nB0_B, nB0_B.symm, nB1_B, nB1_B.symm, nB1_B0, nB1_B0.symm, nB2_B, nB2_B.symm, nB2_B0, nB2_B0.symm, nB2_B1, nB2_B1.symm]
    repeat refine ⟨by first | assumption | omega | exact True.intro | exact rfl | exact ints_cells _ | exact List.mem_cons_self | exact bytes_cell (by omega) | exact fun _ => bytes_cell (by omega) | (simp +contextual only [go_sem]; done) | fail, ?_⟩
    refine h15 _ _ ?_
    clear h15
    refine AWp_ret ?_
    refine retQ_mk (hsets H [(B, (.cells [.lst 0 (bytes (oneL r b).2.left), .sc (.bool (oneL r b).2.bad)]))]) (hweakL (by repeat (first | exact Fr_refl _ _ | refine Fr_new (by assumption) ?_ | refine Fr_old (by simp only [List.map_cons, List.mem_cons, true_or, or_true]) ?_)) (by simp only [go_sem, reduceIte, Nat.reduceEqDiff, Nat.reduceLT, decide_true, reduceCtorEq, Nat.reduceAdd, Nat.reduceBEq, Nat.reduceMul, Nat.reduceLeDiff, Int.reduceToNat, h_1, nB0_B, nB0_B.symm, nB1_B, nB1_B.symm, nB1_B0, nB1_B0.symm, nB2_B, nB2_B.symm, nB2_B0, nB2_B0.symm, nB2_B1, nB2_B1.symm]; first | done | exact True.intro | (repeat' apply And.intro) <;> first | rfl | exact True.intro)) (.inr rfl) ?_
    simp only [go_sem, reduceIte, Nat.reduceEqDiff, Nat.reduceLT, decide_true, reduceCtorEq, Nat.reduceAdd, Nat.reduceBEq, Nat.reduceMul, Nat.reduceLeDiff, Int.reduceToNat, h_1, nB0_B, nB0_B.symm, nB1_B, nB1_B.symm, nB1_B0, nB1_B0.symm, nB2_B, nB2_B.symm, nB2_B0, nB2_B0.symm, nB2_B1, nB2_B1.symm]
    repeat refine ⟨by first | assumption | omega | exact True.intro | exact rfl | exact ints_cells _ | exact List.mem_cons_self | exact bytes_cell (by omega) | exact fun _ => bytes_cell (by omega) | (simp +contextual only [go_sem]; done) | fail, ?_⟩
    exact hK

theorem change_spec (H : Hp) (K : AV → Hp → Prop) (a b : Bt)  (hK : K (.lst 1 (ints ((btChange a b : Int) :: (chgV (steps a b)).2))) H) :
    ACalls Go.Proofs.Try.prog 144 [.agg [.sc (.int .i64 a.a0), .sc (.int .i64 a.a1), .sc (.bool a.clear), .sc (.int .i64 a.a3), .sc (.int .i64 a.a4), .sc (.int .i64 a.a5), .lst 0 (ints a.ids)], .agg [.sc (.int .i64 b.a0), .sc (.int .i64 b.a1), .sc (.bool b.clear), .sc (.int .i64 b.a3), .sc (.int .i64 b.a4), .sc (.int .i64 b.a5), .lst 0 (ints b.ids)]] H K := by
  refine ACalls_fn tab_ok Go.Proofs.Try.func144 78 [.tmp 4] rfl rfl rfl rfl fun d => ?_
  refine AWp_seq fun K1 h1 => ?_
  refine AWp_region tab_ok [] ?_
  simp only [go_sem, reduceIte, Nat.reduceEqDiff, Nat.reduceLT, decide_true, reduceCtorEq, Nat.reduceAdd, Nat.reduceBEq, Nat.reduceMul, Nat.reduceLeDiff, Int.reduceToNat]
  repeat refine ⟨by first | assumption | omega | exact True.intro | exact rfl | exact ints_cells _ | exact Or.inr rfl | exact List.mem_cons_self | exact bytes_cell (by omega) | exact fun _ => bytes_cell (by omega) | (simp +contextual only [go_sem]; done) | fail, ?_⟩
  refine fun B0 hB0 => ?_
  repeat (first | replace hB0 := ite_none hB0 | replace hB0 := hset_none hB0)
  try simp only [go_sem, reduceIte, Nat.reduceEqDiff, Nat.reduceLT, decide_true, reduceCtorEq, Nat.reduceAdd, Nat.reduceBEq, Nat.reduceMul, Nat.reduceLeDiff, Int.reduceToNat]
  repeat refine ⟨by first | assumption | omega | exact True.intro | exact rfl | exact ints_cells _ | exact Or.inr rfl | exact List.mem_cons_self | exact bytes_cell (by omega) | exact fun _ => bytes_cell (by omega) | (simp +contextual only [go_sem]; done) | fail, ?_⟩
  refine fun B1 hB1 => ?_
  have nB1_B0 : B1 ≠ B0 := fun hh => by rw [hh] at hB1; revert hB1; (try simp only [hset]); (repeat' split) <;> simp_all
  repeat (first | replace hB1 := ite_none hB1 | replace hB1 := hset_none hB1)
  try simp only [go_sem, reduceIte, Nat.reduceEqDiff, Nat.reduceLT, decide_true, reduceCtorEq, Nat.reduceAdd, Nat.reduceBEq, Nat.reduceMul, Nat.reduceLeDiff, Int.reduceToNat, nB1_B0, nB1_B0.symm]
  repeat refine ⟨by first | assumption | omega | exact True.intro | exact rfl | exact ints_cells _ | exact Or.inr rfl | exact List.mem_cons_self | exact bytes_cell (by omega) | exact fun _ => bytes_cell (by omega) | (simp +contextual only [go_sem]; done) | fail, ?_⟩
  refine h1 _ _ ?_
  clear h1
  refine AWp_seq fun K2 h2 => ?_
  refine AWp_region tab_ok [] ?_
  simp only [go_sem, reduceIte, Nat.reduceEqDiff, Nat.reduceLT, decide_true, reduceCtorEq, Nat.reduceAdd, Nat.reduceBEq, Nat.reduceMul, Nat.reduceLeDiff, Int.reduceToNat, nB1_B0, nB1_B0.symm]
  repeat refine ⟨by first | assumption | omega | exact True.intro | exact rfl | exact ints_cells _ | exact Or.inr rfl | exact List.mem_cons_self | exact bytes_cell (by omega) | exact fun _ => bytes_cell (by omega) | (simp +contextual only [go_sem]; done) | fail, ?_⟩
  refine h2 _ _ ?_
  clear h2
  refine AWp_seq fun K3 h3 => ?_
  refine AWp_region tab_ok [] ?_
  simp only [go_sem, reduceIte, Nat.reduceEqDiff, Nat.reduceLT, decide_true, reduceCtorEq, Nat.reduceAdd, Nat.reduceBEq, Nat.reduceMul, Nat.reduceLeDiff, Int.reduceToNat, nB1_B0, nB1_B0.symm]
  repeat refine ⟨by first | assumption | omega | exact True.intro | exact rfl | exact ints_cells _ | exact Or.inr rfl | exact List.mem_cons_self | exact bytes_cell (by omega) | exact fun _ => bytes_cell (by omega) | (simp +contextual only [go_sem]; done) | fail, ?_⟩
  refine h3 _ _ ?_
  clear h3
  refine AWp_seq fun K4 h4 => ?_
  have j4 : ∀ (c : Nat) (v : List Int) (hj6_0 : (c, v) = itTo a b 1) (hj6_1 : c ≤ 1) (hj6_2 : v.length ≤ 1) (e' : Env) (H' : Hp), (∀ BB bb, (hsets H [(B0, (.cells [.sc (.int .i64 a.a0), .sc (.int .i64 a.a1), .sc (.bool a.clear), .sc (.int .i64 a.a3), .sc (.int .i64 a.a4), .sc (.int .i64 a.a5), .lst 0 (ints a.ids)])), (B1, (.cells [.sc (.int .i64 b.a0), .sc (.int .i64 b.a1), .sc (.bool b.clear), .sc (.int .i64 b.a3), .sc (.int .i64 b.a4), .sc (.int .i64 b.a5), .lst 0 (ints b.ids)]))]) BB = some bb → H' BB = some bb) → wkL e' [(5, .sc (.int .i64 c)), (6, .lst 2 (ints v)), (2, .sc (.pointer (some ⟨B0, 0, none⟩))), (3, .sc (.pointer (some ⟨B1, 0, none⟩)))] → K4 e' H' := by
    intro c  v  hj6_0 hj6_1 hj6_2 e' H' hH hw
    refine h4 _ _ (AWp.weak (wk_ofL hH hw) ?_)
    clear h4 hH hw
    refine AWp_seq fun K5 h5 => ?_
    have j5 : ∀ (c : Nat) (v : List Int) (hj9_0 : (c, v) = itTo a b 2) (hj9_1 : c ≤ 3) (hj9_2 : v.length ≤ 2) (e' : Env) (H' : Hp), (∀ BB bb, (hsets H [(B0, (.cells [.sc (.int .i64 a.a0), .sc (.int .i64 a.a1), .sc (.bool a.clear), .sc (.int .i64 a.a3), .sc (.int .i64 a.a4), .sc (.int .i64 a.a5), .lst 0 (ints a.ids)])), (B1, (.cells [.sc (.int .i64 b.a0), .sc (.int .i64 b.a1), .sc (.bool b.clear), .sc (.int .i64 b.a3), .sc (.int .i64 b.a4), .sc (.int .i64 b.a5), .lst 0 (ints b.ids)]))]) BB = some bb → H' BB = some bb) → wkL e' [(5, .sc (.int .i64 c)), (6, .lst 2 (ints v)), (2, .sc (.pointer (some ⟨B0, 0, none⟩))), (3, .sc (.pointer (some ⟨B1, 0, none⟩)))] → K5 e' H' := by
      intro c  v  hj9_0 hj9_1 hj9_2 e' H' hH hw
      refine h5 _ _ (AWp.weak (wk_ofL hH hw) ?_)
      clear h5 hH hw
      refine AWp_seq fun K6 h6 => ?_
      have j6 : ∀ (c : Nat) (v : List Int) (hj11_0 : (c, v) = itTo a b 3) (hj11_1 : c ≤ 7) (hj11_2 : v.length ≤ 3) (e' : Env) (H' : Hp), (∀ BB bb, (hsets H [(B0, (.cells [.sc (.int .i64 a.a0), .sc (.int .i64 a.a1), .sc (.bool a.clear), .sc (.int .i64 a.a3), .sc (.int .i64 a.a4), .sc (.int .i64 a.a5), .lst 0 (ints a.ids)])), (B1, (.cells [.sc (.int .i64 b.a0), .sc (.int .i64 b.a1), .sc (.bool b.clear), .sc (.int .i64 b.a3), .sc (.int .i64 b.a4), .sc (.int .i64 b.a5), .lst 0 (ints b.ids)]))]) BB = some bb → H' BB = some bb) → wkL e' [(5, .sc (.int .i64 c)), (6, .lst 2 (ints v)), (2, .sc (.pointer (some ⟨B0, 0, none⟩))), (3, .sc (.pointer (some ⟨B1, 0, none⟩)))] → K6 e' H' := by
        intro c  v  hj11_0 hj11_1 hj11_2 e' H' hH hw
        refine h6 _ _ (AWp.weak (wk_ofL hH hw) ?_)
        clear h6 hH hw
        refine AWp_seq fun K7 h7 => ?_
        have j7 : ∀ (c : Nat) (v : List Int) (hj14_0 : (c, v) = itTo a b 4) (hj14_1 : c ≤ 15) (hj14_2 : v.length ≤ 4) (e' : Env) (H' : Hp), (∀ BB bb, (hsets H [(B0, (.cells [.sc (.int .i64 a.a0), .sc (.int .i64 a.a1), .sc (.bool a.clear), .sc (.int .i64 a.a3), .sc (.int .i64 a.a4), .sc (.int .i64 a.a5), .lst 0 (ints a.ids)])), (B1, (.cells [.sc (.int .i64 b.a0), .sc (.int .i64 b.a1), .sc (.bool b.clear), .sc (.int .i64 b.a3), .sc (.int .i64 b.a4), .sc (.int .i64 b.a5), .lst 0 (ints b.ids)]))]) BB = some bb → H' BB = some bb) → wkL e' [(5, .sc (.int .i64 c)), (6, .lst 2 (ints v)), (2, .sc (.pointer (some ⟨B0, 0, none⟩))), (3, .sc (.pointer (some ⟨B1, 0, none⟩)))] → K7 e' H' := by
          intro c  v  hj14_0 hj14_1 hj14_2 e' H' hH hw
          refine h7 _ _ (AWp.weak (wk_ofL hH hw) ?_)
          clear h7 hH hw
          refine AWp_seq fun K8 h8 => ?_
          have j8 : ∀ (c : Nat) (v : List Int) (hj17_0 : (c, v) = itTo a b 5) (hj17_1 : c ≤ 31) (hj17_2 : v.length ≤ 5) (e' : Env) (H' : Hp), (∀ BB bb, (hsets H [(B0, (.cells [.sc (.int .i64 a.a0), .sc (.int .i64 a.a1), .sc (.bool a.clear), .sc (.int .i64 a.a3), .sc (.int .i64 a.a4), .sc (.int .i64 a.a5), .lst 0 (ints a.ids)])), (B1, (.cells [.sc (.int .i64 b.a0), .sc (.int .i64 b.a1), .sc (.bool b.clear), .sc (.int .i64 b.a3), .sc (.int .i64 b.a4), .sc (.int .i64 b.a5), .lst 0 (ints b.ids)]))]) BB = some bb → H' BB = some bb) → wkL e' [(5, .sc (.int .i64 c)), (6, .lst 2 (ints v)), (2, .sc (.pointer (some ⟨B0, 0, none⟩))), (3, .sc (.pointer (some ⟨B1, 0, none⟩)))] → K8 e' H' := by
            intro c  v  hj17_0 hj17_1 hj17_2 e' H' hH hw
            refine h8 _ _ (AWp.weak (wk_ofL hH hw) ?_)
            clear h8 hH hw
            refine AWp_seq fun K9 h9 => ?_
            have j9 : ∀ (c : Nat) (v : List Int) (hj20_0 : (c, v) = itTo a b 6) (hj20_1 : c ≤ 63) (hj20_2 : v.length ≤ 6) (e' : Env) (H' : Hp), (∀ BB bb, (hsets H [(B0, (.cells [.sc (.int .i64 a.a0), .sc (.int .i64 a.a1), .sc (.bool a.clear), .sc (.int .i64 a.a3), .sc (.int .i64 a.a4), .sc (.int .i64 a.a5), .lst 0 (ints a.ids)])), (B1, (.cells [.sc (.int .i64 b.a0), .sc (.int .i64 b.a1), .sc (.bool b.clear), .sc (.int .i64 b.a3), .sc (.int .i64 b.a4), .sc (.int .i64 b.a5), .lst 0 (ints b.ids)]))]) BB = some bb → H' BB = some bb) → wkL e' [(5, .sc (.int .i64 c)), (6, .lst 2 (ints v)), (2, .sc (.pointer (some ⟨B0, 0, none⟩))), (3, .sc (.pointer (some ⟨B1, 0, none⟩)))] → K9 e' H' := by
              intro c  v  hj20_0 hj20_1 hj20_2 e' H' hH hw
              refine h9 _ _ (AWp.weak (wk_ofL hH hw) ?_)
              clear h9 hH hw
              refine AWp_seq fun K10 h10 => ?_
              refine AWp_region tab_ok [] ?_
              simp only [go_sem, reduceIte, Nat.reduceEqDiff, Nat.reduceLT, decide_true, reduceCtorEq, Nat.reduceAdd, Nat.reduceBEq, Nat.reduceMul, Nat.reduceLeDiff, Int.reduceToNat, nB1_B0, nB1_B0.symm]
              repeat refine ⟨by first | assumption | omega | exact True.intro | exact rfl | exact ints_cells _ | exact Or.inr rfl | exact List.mem_cons_self | exact bytes_cell (by omega) | exact fun _ => bytes_cell (by omega) | (simp +contextual only [go_sem]; done) | fail, ?_⟩
              refine h10 _ _ ?_
              clear h10
              refine AWp_fzE (l := [.tmp 4]) ?_
              refine AWp_ret ?_
              refine retQ_mk H (by first | exact fun _ _ h => h | assumption | exact Fr_weak (by repeat (first | exact Fr_refl _ _ | refine Fr_new (by assumption) ?_ | refine Fr_old (by simp only [List.map_cons, List.mem_cons, true_or, or_true]) ?_))) (.inr rfl) ?_
              simp only [go_sem, reduceIte, Nat.reduceEqDiff, Nat.reduceLT, decide_true, reduceCtorEq, Nat.reduceAdd, Nat.reduceBEq, Nat.reduceMul, Nat.reduceLeDiff, Int.reduceToNat, nB1_B0, nB1_B0.symm]
              repeat refine ⟨by first | assumption | omega | exact True.intro | exact rfl | exact ints_cells _ | exact Or.inr rfl | exact List.mem_cons_self | exact bytes_cell (by omega) | exact fun _ => bytes_cell (by omega) | (simp +contextual only [go_sem]; done) | fail, ?_⟩
              rw [itTo_all] at hj20_0
              obtain ⟨rfl, rfl⟩ := Prod.mk.inj hj20_0
              exact hK
            clear h9
            refine AWp_seq fun K11 h11 => ?_
            refine AWp_region tab_ok [] ?_
            simp only [go_sem, reduceIte, Nat.reduceEqDiff, Nat.reduceLT, decide_true, reduceCtorEq, Nat.reduceAdd, Nat.reduceBEq, Nat.reduceMul, Nat.reduceLeDiff, Int.reduceToNat, nB1_B0, nB1_B0.symm]
            repeat refine ⟨by first | assumption | omega | exact True.intro | exact rfl | exact ints_cells _ | exact Or.inr rfl | exact List.mem_cons_self | exact bytes_cell (by omega) | exact fun _ => bytes_cell (by omega) | (simp +contextual only [go_sem]; done) | fail, ?_⟩
            refine h11 _ _ ?_
            clear h11
            refine AWp_if fun kk hkk => ?_
            simp only [go_sem, reduceIte, Nat.reduceEqDiff, Nat.reduceLT, decide_true, reduceCtorEq, Nat.reduceAdd, Nat.reduceBEq, Nat.reduceMul, Nat.reduceLeDiff, Int.reduceToNat, nB1_B0, nB1_B0.symm]
            repeat refine ⟨by first | assumption | omega | exact True.intro | exact rfl | exact ints_cells _ | exact Or.inr rfl | exact List.mem_cons_self | exact bytes_cell (by omega) | exact fun _ => bytes_cell (by omega) | (simp +contextual only [go_sem]; done) | fail, ?_⟩
            refine hkk _ (fun hb5 => ?_) (fun hb5 => ?_) <;> clear hkk kk
            · skip
              refine AWp_seq fun K12 h12 => ?_
              refine AWp_region tab_ok [] ?_
              simp only [go_sem, reduceIte, Nat.reduceEqDiff, Nat.reduceLT, decide_true, reduceCtorEq, Nat.reduceAdd, Nat.reduceBEq, Nat.reduceMul, Nat.reduceLeDiff, Int.reduceToNat, nB1_B0, nB1_B0.symm]
              try simp (disch := omega) only [wrap64]
              repeat refine ⟨by first | assumption | omega | exact True.intro | exact rfl | exact ints_cells _ | exact Or.inr rfl | exact List.mem_cons_self | exact bytes_cell (by omega) | exact fun _ => bytes_cell (by omega) | (simp +contextual only [go_sem]; done) | fail, ?_⟩
              refine h12 _ _ ?_
              clear h12
              refine AWp_region tab_ok [0] ?_
              simp only [go_sem, reduceIte, Nat.reduceEqDiff, Nat.reduceLT, decide_true, reduceCtorEq, Nat.reduceAdd, Nat.reduceBEq, Nat.reduceMul, Nat.reduceLeDiff, Int.reduceToNat, nB1_B0, nB1_B0.symm]
              repeat refine ⟨by first | assumption | omega | exact True.intro | exact rfl | exact ints_cells _ | exact Or.inr rfl | exact List.mem_cons_self | exact bytes_cell (by omega) | exact fun _ => bytes_cell (by omega) | (simp +contextual only [go_sem]; done) | fail, ?_⟩
              refine j9 (c + 32) (v ++ [b.a5]) (by have hb := hb5; refine itTo_T (k := 5) hj17_0 rfl ?_; first | exact hb | (simp only [items] at hb ⊢; simp_all)) (by omega) (by have hl := hj17_2; simp <;> omega) _ _ (by exact hweakL (by repeat (first | exact Fr_refl _ _ | refine Fr_new (by assumption) ?_ | refine Fr_old (by simp only [List.map_cons, List.mem_cons, true_or, or_true]) ?_)) (by simp only [go_sem, reduceIte, Nat.reduceEqDiff, Nat.reduceLT, decide_true, reduceCtorEq, Nat.reduceAdd, Nat.reduceBEq, Nat.reduceMul, Nat.reduceLeDiff, Int.reduceToNat, nB1_B0, nB1_B0.symm]; first | done | exact True.intro | (repeat' apply And.intro) <;> first | rfl | exact True.intro)) (by simp only [go_sem, reduceIte, Nat.reduceEqDiff, Nat.reduceLT, decide_true, reduceCtorEq, Nat.reduceAdd, Nat.reduceBEq, Nat.reduceMul, Nat.reduceLeDiff, Int.reduceToNat, nB1_B0, nB1_B0.symm]; (first | done | exact True.intro | (repeat' apply And.intro) <;> first | rfl | exact True.intro))
            · skip
              refine AWp_skip ?_
              refine j9 c v (by have hb := hb5; refine itTo_F (k := 5) hj17_0 rfl ?_; first | exact hb | (simp only [items] at hb ⊢; simp_all)) (by omega) (by have hl := hj17_2; omega) _ _ (by exact hweakL (by repeat (first | exact Fr_refl _ _ | refine Fr_new (by assumption) ?_ | refine Fr_old (by simp only [List.map_cons, List.mem_cons, true_or, or_true]) ?_)) (by simp only [go_sem, reduceIte, Nat.reduceEqDiff, Nat.reduceLT, decide_true, reduceCtorEq, Nat.reduceAdd, Nat.reduceBEq, Nat.reduceMul, Nat.reduceLeDiff, Int.reduceToNat, nB1_B0, nB1_B0.symm]; first | done | exact True.intro | (repeat' apply And.intro) <;> first | rfl | exact True.intro)) (by simp only [go_sem, reduceIte, Nat.reduceEqDiff, Nat.reduceLT, decide_true, reduceCtorEq, Nat.reduceAdd, Nat.reduceBEq, Nat.reduceMul, Nat.reduceLeDiff, Int.reduceToNat, nB1_B0, nB1_B0.symm]; (first | done | exact True.intro | (repeat' apply And.intro) <;> first | rfl | exact True.intro))
          clear h8
          refine AWp_seq fun K13 h13 => ?_
          refine AWp_region tab_ok [] ?_
          simp only [go_sem, reduceIte, Nat.reduceEqDiff, Nat.reduceLT, decide_true, reduceCtorEq, Nat.reduceAdd, Nat.reduceBEq, Nat.reduceMul, Nat.reduceLeDiff, Int.reduceToNat, nB1_B0, nB1_B0.symm]
          repeat refine ⟨by first | assumption | omega | exact True.intro | exact rfl | exact ints_cells _ | exact Or.inr rfl | exact List.mem_cons_self | exact bytes_cell (by omega) | exact fun _ => bytes_cell (by omega) | (simp +contextual only [go_sem]; done) | fail, ?_⟩
          refine h13 _ _ ?_
          clear h13
          refine AWp_if fun kk hkk => ?_
          simp only [go_sem, reduceIte, Nat.reduceEqDiff, Nat.reduceLT, decide_true, reduceCtorEq, Nat.reduceAdd, Nat.reduceBEq, Nat.reduceMul, Nat.reduceLeDiff, Int.reduceToNat, nB1_B0, nB1_B0.symm]
          repeat refine ⟨by first | assumption | omega | exact True.intro | exact rfl | exact ints_cells _ | exact Or.inr rfl | exact List.mem_cons_self | exact bytes_cell (by omega) | exact fun _ => bytes_cell (by omega) | (simp +contextual only [go_sem]; done) | fail, ?_⟩
          refine hkk _ (fun hb4 => ?_) (fun hb4 => ?_) <;> clear hkk kk
          · skip
            refine AWp_seq fun K14 h14 => ?_
            refine AWp_region tab_ok [] ?_
            simp only [go_sem, reduceIte, Nat.reduceEqDiff, Nat.reduceLT, decide_true, reduceCtorEq, Nat.reduceAdd, Nat.reduceBEq, Nat.reduceMul, Nat.reduceLeDiff, Int.reduceToNat, nB1_B0, nB1_B0.symm]
            try simp (disch := omega) only [wrap64]
            repeat refine ⟨by first | assumption | omega | exact True.intro | exact rfl | exact ints_cells _ | exact Or.inr rfl | exact List.mem_cons_self | exact bytes_cell (by omega) | exact fun _ => bytes_cell (by omega) | (simp +contextual only [go_sem]; done) | fail, ?_⟩
            refine h14 _ _ ?_
            clear h14
            refine AWp_region tab_ok [0] ?_
            simp only [go_sem, reduceIte, Nat.reduceEqDiff, Nat.reduceLT, decide_true, reduceCtorEq, Nat.reduceAdd, Nat.reduceBEq, Nat.reduceMul, Nat.reduceLeDiff, Int.reduceToNat, nB1_B0, nB1_B0.symm]
            repeat refine ⟨by first | assumption | omega | exact True.intro | exact rfl | exact ints_cells _ | exact Or.inr rfl | exact List.mem_cons_self | exact bytes_cell (by omega) | exact fun _ => bytes_cell (by omega) | (simp +contextual only [go_sem]; done) | fail, ?_⟩
            refine j8 (c + 16) (v ++ [b.a4]) (by have hb := hb4; refine itTo_T (k := 4) hj14_0 rfl ?_; first | exact hb | (simp only [items] at hb ⊢; simp_all)) (by omega) (by have hl := hj14_2; simp <;> omega) _ _ (by exact hweakL (by repeat (first | exact Fr_refl _ _ | refine Fr_new (by assumption) ?_ | refine Fr_old (by simp only [List.map_cons, List.mem_cons, true_or, or_true]) ?_)) (by simp only [go_sem, reduceIte, Nat.reduceEqDiff, Nat.reduceLT, decide_true, reduceCtorEq, Nat.reduceAdd, Nat.reduceBEq, Nat.reduceMul, Nat.reduceLeDiff, Int.reduceToNat, nB1_B0, nB1_B0.symm]; first | done | exact True.intro | (repeat' apply And.intro) <;> first | rfl | exact True.intro)) (by simp only [go_sem, reduceIte, Nat.reduceEqDiff, Nat.reduceLT, decide_true, reduceCtorEq, Nat.reduceAdd, Nat.reduceBEq, Nat.reduceMul, Nat.reduceLeDiff, Int.reduceToNat, nB1_B0, nB1_B0.symm]; (first | done | exact True.intro | (repeat' apply And.intro) <;> first | rfl | exact True.intro))
          · skip
            refine AWp_skip ?_
            refine j8 c v (by have hb := hb4; refine itTo_F (k := 4) hj14_0 rfl ?_; first | exact hb | (simp only [items] at hb ⊢; simp_all)) (by omega) (by have hl := hj14_2; omega) _ _ (by exact hweakL (by repeat (first | exact Fr_refl _ _ | refine Fr_new (by assumption) ?_ | refine Fr_old (by simp only [List.map_cons, List.mem_cons, true_or, or_true]) ?_)) (by simp only [go_sem, reduceIte, Nat.reduceEqDiff, Nat.reduceLT, decide_true, reduceCtorEq, Nat.reduceAdd, Nat.reduceBEq, Nat.reduceMul, Nat.reduceLeDiff, Int.reduceToNat, nB1_B0, nB1_B0.symm]; first | done | exact True.intro | (repeat' apply And.intro) <;> first | rfl | exact True.intro)) (by simp only [go_sem, reduceIte, Nat.reduceEqDiff, Nat.reduceLT, decide_true, reduceCtorEq, Nat.reduceAdd, Nat.reduceBEq, Nat.reduceMul, Nat.reduceLeDiff, Int.reduceToNat, nB1_B0, nB1_B0.symm]; (first | done | exact True.intro | (repeat' apply And.intro) <;> first | rfl | exact True.intro))
        clear h7
        refine AWp_seq fun K15 h15 => ?_
        refine AWp_region tab_ok [] ?_
        simp only [go_sem, reduceIte, Nat.reduceEqDiff, Nat.reduceLT, decide_true, reduceCtorEq, Nat.reduceAdd, Nat.reduceBEq, Nat.reduceMul, Nat.reduceLeDiff, Int.reduceToNat, nB1_B0, nB1_B0.symm]
        repeat refine ⟨by first | assumption | omega | exact True.intro | exact rfl | exact ints_cells _ | exact Or.inr rfl | exact List.mem_cons_self | exact bytes_cell (by omega) | exact fun _ => bytes_cell (by omega) | (simp +contextual only [go_sem]; done) | fail, ?_⟩
        refine h15 _ _ ?_
        clear h15
        refine AWp_if fun kk hkk => ?_
        simp only [go_sem, reduceIte, Nat.reduceEqDiff, Nat.reduceLT, decide_true, reduceCtorEq, Nat.reduceAdd, Nat.reduceBEq, Nat.reduceMul, Nat.reduceLeDiff, Int.reduceToNat, nB1_B0, nB1_B0.symm]
        repeat refine ⟨by first | assumption | omega | exact True.intro | exact rfl | exact ints_cells _ | exact Or.inr rfl | exact List.mem_cons_self | exact bytes_cell (by omega) | exact fun _ => bytes_cell (by omega) | (simp +contextual only [go_sem]; done) | fail, ?_⟩
        refine hkk _ (fun hb3 => ?_) (fun hb3 => ?_) <;> clear hkk kk
        · skip
          refine AWp_seq fun K16 h16 => ?_
          refine AWp_region tab_ok [] ?_
          simp only [go_sem, reduceIte, Nat.reduceEqDiff, Nat.reduceLT, decide_true, reduceCtorEq, Nat.reduceAdd, Nat.reduceBEq, Nat.reduceMul, Nat.reduceLeDiff, Int.reduceToNat, nB1_B0, nB1_B0.symm]
          try simp (disch := omega) only [wrap64]
          repeat refine ⟨by first | assumption | omega | exact True.intro | exact rfl | exact ints_cells _ | exact Or.inr rfl | exact List.mem_cons_self | exact bytes_cell (by omega) | exact fun _ => bytes_cell (by omega) | (simp +contextual only [go_sem]; done) | fail, ?_⟩
          refine h16 _ _ ?_
          clear h16
          refine AWp_region tab_ok [0] ?_
          simp only [go_sem, reduceIte, Nat.reduceEqDiff, Nat.reduceLT, decide_true, reduceCtorEq, Nat.reduceAdd, Nat.reduceBEq, Nat.reduceMul, Nat.reduceLeDiff, Int.reduceToNat, nB1_B0, nB1_B0.symm]
          repeat refine ⟨by first | assumption | omega | exact True.intro | exact rfl | exact ints_cells _ | exact Or.inr rfl | exact List.mem_cons_self | exact bytes_cell (by omega) | exact fun _ => bytes_cell (by omega) | (simp +contextual only [go_sem]; done) | fail, ?_⟩
          refine j7 (c + 8) (v ++ [b.a3]) (by have hb := hb3; refine itTo_T (k := 3) hj11_0 rfl ?_; first | exact hb | (simp only [items] at hb ⊢; simp_all)) (by omega) (by have hl := hj11_2; simp <;> omega) _ _ (by exact hweakL (by repeat (first | exact Fr_refl _ _ | refine Fr_new (by assumption) ?_ | refine Fr_old (by simp only [List.map_cons, List.mem_cons, true_or, or_true]) ?_)) (by simp only [go_sem, reduceIte, Nat.reduceEqDiff, Nat.reduceLT, decide_true, reduceCtorEq, Nat.reduceAdd, Nat.reduceBEq, Nat.reduceMul, Nat.reduceLeDiff, Int.reduceToNat, nB1_B0, nB1_B0.symm]; first | done | exact True.intro | (repeat' apply And.intro) <;> first | rfl | exact True.intro)) (by simp only [go_sem, reduceIte, Nat.reduceEqDiff, Nat.reduceLT, decide_true, reduceCtorEq, Nat.reduceAdd, Nat.reduceBEq, Nat.reduceMul, Nat.reduceLeDiff, Int.reduceToNat, nB1_B0, nB1_B0.symm]; (first | done | exact True.intro | (repeat' apply And.intro) <;> first | rfl | exact True.intro))
        · skip
          refine AWp_skip ?_
          refine j7 c v (by have hb := hb3; refine itTo_F (k := 3) hj11_0 rfl ?_; first | exact hb | (simp only [items] at hb ⊢; simp_all)) (by omega) (by have hl := hj11_2; omega) _ _ (by exact hweakL (by repeat (first | exact Fr_refl _ _ | refine Fr_new (by assumption) ?_ | refine Fr_old (by simp only [List.map_cons, List.mem_cons, true_or, or_true]) ?_)) (by simp only [go_sem, reduceIte, Nat.reduceEqDiff, Nat.reduceLT, decide_true, reduceCtorEq, Nat.reduceAdd, Nat.reduceBEq, Nat.reduceMul, Nat.reduceLeDiff, Int.reduceToNat, nB1_B0, nB1_B0.symm]; first | done | exact True.intro | (repeat' apply And.intro) <;> first | rfl | exact True.intro)) (by simp only [go_sem, reduceIte, Nat.reduceEqDiff, Nat.reduceLT, decide_true, reduceCtorEq, Nat.reduceAdd, Nat.reduceBEq, Nat.reduceMul, Nat.reduceLeDiff, Int.reduceToNat, nB1_B0, nB1_B0.symm]; (first | done | exact True.intro | (repeat' apply And.intro) <;> first | rfl | exact True.intro))
      clear h6
      refine AWp_seq fun K17 h17 => ?_
      refine AWp_region tab_ok [] ?_
      simp only [go_sem, reduceIte, Nat.reduceEqDiff, Nat.reduceLT, decide_true, reduceCtorEq, Nat.reduceAdd, Nat.reduceBEq, Nat.reduceMul, Nat.reduceLeDiff, Int.reduceToNat, nB1_B0, nB1_B0.symm]
      repeat refine ⟨by first | assumption | omega | exact True.intro | exact rfl | exact ints_cells _ | exact Or.inr rfl | exact List.mem_cons_self | exact bytes_cell (by omega) | exact fun _ => bytes_cell (by omega) | (simp +contextual only [go_sem]; done) | fail, ?_⟩
      refine h17 _ _ ?_
      clear h17
      refine AWp_if fun kk hkk => ?_
      simp only [go_sem, reduceIte, Nat.reduceEqDiff, Nat.reduceLT, decide_true, reduceCtorEq, Nat.reduceAdd, Nat.reduceBEq, Nat.reduceMul, Nat.reduceLeDiff, Int.reduceToNat, nB1_B0, nB1_B0.symm]
      repeat refine ⟨by first | assumption | omega | exact True.intro | exact rfl | exact ints_cells _ | exact Or.inr rfl | exact List.mem_cons_self | exact bytes_cell (by omega) | exact fun _ => bytes_cell (by omega) | (simp +contextual only [go_sem]; done) | fail, ?_⟩
      refine hkk _ (fun hb2 => ?_) (fun hb2 => ?_) <;> clear hkk kk
      · skip
        refine AWp_region tab_ok [] ?_
        simp only [go_sem, reduceIte, Nat.reduceEqDiff, Nat.reduceLT, decide_true, reduceCtorEq, Nat.reduceAdd, Nat.reduceBEq, Nat.reduceMul, Nat.reduceLeDiff, Int.reduceToNat, nB1_B0, nB1_B0.symm]
        try simp (disch := omega) only [wrap64]
        repeat refine ⟨by first | assumption | omega | exact True.intro | exact rfl | exact ints_cells _ | exact Or.inr rfl | exact List.mem_cons_self | exact bytes_cell (by omega) | exact fun _ => bytes_cell (by omega) | (simp +contextual only [go_sem]; done) | fail, ?_⟩
        refine j6 (c + 4) (v) (by rw [show v = v ++ [] from (List.append_nil v).symm]; have hb := hb2; refine itTo_T (k := 2) hj9_0 rfl ?_; first | exact hb | (simp only [items] at hb ⊢; simp_all)) (by omega) (by have hl := hj9_2; simp <;> omega) _ _ (by exact hweakL (by repeat (first | exact Fr_refl _ _ | refine Fr_new (by assumption) ?_ | refine Fr_old (by simp only [List.map_cons, List.mem_cons, true_or, or_true]) ?_)) (by simp only [go_sem, reduceIte, Nat.reduceEqDiff, Nat.reduceLT, decide_true, reduceCtorEq, Nat.reduceAdd, Nat.reduceBEq, Nat.reduceMul, Nat.reduceLeDiff, Int.reduceToNat, nB1_B0, nB1_B0.symm]; first | done | exact True.intro | (repeat' apply And.intro) <;> first | rfl | exact True.intro)) (by simp only [go_sem, reduceIte, Nat.reduceEqDiff, Nat.reduceLT, decide_true, reduceCtorEq, Nat.reduceAdd, Nat.reduceBEq, Nat.reduceMul, Nat.reduceLeDiff, Int.reduceToNat, nB1_B0, nB1_B0.symm]; (first | done | exact True.intro | (repeat' apply And.intro) <;> first | rfl | exact True.intro))
      · skip
        refine AWp_skip ?_
        refine j6 c v (by have hb := hb2; refine itTo_F (k := 2) hj9_0 rfl ?_; first | exact hb | (simp only [items] at hb ⊢; simp_all)) (by omega) (by have hl := hj9_2; omega) _ _ (by exact hweakL (by repeat (first | exact Fr_refl _ _ | refine Fr_new (by assumption) ?_ | refine Fr_old (by simp only [List.map_cons, List.mem_cons, true_or, or_true]) ?_)) (by simp only [go_sem, reduceIte, Nat.reduceEqDiff, Nat.reduceLT, decide_true, reduceCtorEq, Nat.reduceAdd, Nat.reduceBEq, Nat.reduceMul, Nat.reduceLeDiff, Int.reduceToNat, nB1_B0, nB1_B0.symm]; first | done | exact True.intro | (repeat' apply And.intro) <;> first | rfl | exact True.intro)) (by simp only [go_sem, reduceIte, Nat.reduceEqDiff, Nat.reduceLT, decide_true, reduceCtorEq, Nat.reduceAdd, Nat.reduceBEq, Nat.reduceMul, Nat.reduceLeDiff, Int.reduceToNat, nB1_B0, nB1_B0.symm]; (first | done | exact True.intro | (repeat' apply And.intro) <;> first | rfl | exact True.intro))
    clear h5
    refine AWp_seq fun K18 h18 => ?_
    refine AWp_region tab_ok [] ?_
    simp only [go_sem, reduceIte, Nat.reduceEqDiff, Nat.reduceLT, decide_true, reduceCtorEq, Nat.reduceAdd, Nat.reduceBEq, Nat.reduceMul, Nat.reduceLeDiff, Int.reduceToNat, nB1_B0, nB1_B0.symm]
    repeat refine ⟨by first | assumption | omega | exact True.intro | exact rfl | exact ints_cells _ | exact Or.inr rfl | exact List.mem_cons_self | exact bytes_cell (by omega) | exact fun _ => bytes_cell (by omega) | (simp +contextual only [go_sem]; done) | fail, ?_⟩
    refine h18 _ _ ?_
    clear h18
    refine AWp_if fun kk hkk => ?_
    simp only [go_sem, reduceIte, Nat.reduceEqDiff, Nat.reduceLT, decide_true, reduceCtorEq, Nat.reduceAdd, Nat.reduceBEq, Nat.reduceMul, Nat.reduceLeDiff, Int.reduceToNat, nB1_B0, nB1_B0.symm]
    repeat refine ⟨by first | assumption | omega | exact True.intro | exact rfl | exact ints_cells _ | exact Or.inr rfl | exact List.mem_cons_self | exact bytes_cell (by omega) | exact fun _ => bytes_cell (by omega) | (simp +contextual only [go_sem]; done) | fail, ?_⟩
    refine hkk _ (fun hb1 => ?_) (fun hb1 => ?_) <;> clear hkk kk
    · skip
      refine AWp_seq fun K19 h19 => ?_
      refine AWp_region tab_ok [] ?_
      simp only [go_sem, reduceIte, Nat.reduceEqDiff, Nat.reduceLT, decide_true, reduceCtorEq, Nat.reduceAdd, Nat.reduceBEq, Nat.reduceMul, Nat.reduceLeDiff, Int.reduceToNat, nB1_B0, nB1_B0.symm]
      try simp (disch := omega) only [wrap64]
      repeat refine ⟨by first | assumption | omega | exact True.intro | exact rfl | exact ints_cells _ | exact Or.inr rfl | exact List.mem_cons_self | exact bytes_cell (by omega) | exact fun _ => bytes_cell (by omega) | (simp +contextual only [go_sem]; done) | fail, ?_⟩
      refine h19 _ _ ?_
      clear h19
      refine AWp_region tab_ok [0] ?_
      simp only [go_sem, reduceIte, Nat.reduceEqDiff, Nat.reduceLT, decide_true, reduceCtorEq, Nat.reduceAdd, Nat.reduceBEq, Nat.reduceMul, Nat.reduceLeDiff, Int.reduceToNat, nB1_B0, nB1_B0.symm]
      repeat refine ⟨by first | assumption | omega | exact True.intro | exact rfl | exact ints_cells _ | exact Or.inr rfl | exact List.mem_cons_self | exact bytes_cell (by omega) | exact fun _ => bytes_cell (by omega) | (simp +contextual only [go_sem]; done) | fail, ?_⟩
      refine j5 (c + 2) (v ++ [b.a1]) (by have hb := hb1; refine itTo_T (k := 1) hj6_0 rfl ?_; first | exact hb | (simp only [items] at hb ⊢; simp_all)) (by omega) (by have hl := hj6_2; simp <;> omega) _ _ (by exact hweakL (by repeat (first | exact Fr_refl _ _ | refine Fr_new (by assumption) ?_ | refine Fr_old (by simp only [List.map_cons, List.mem_cons, true_or, or_true]) ?_)) (by simp only [go_sem, reduceIte, Nat.reduceEqDiff, Nat.reduceLT, decide_true, reduceCtorEq, Nat.reduceAdd, Nat.reduceBEq, Nat.reduceMul, Nat.reduceLeDiff, Int.reduceToNat, nB1_B0, nB1_B0.symm]; first | done | exact True.intro | (repeat' apply And.intro) <;> first | rfl | exact True.intro)) (by simp only [go_sem, reduceIte, Nat.reduceEqDiff, Nat.reduceLT, decide_true, reduceCtorEq, Nat.reduceAdd, Nat.reduceBEq, Nat.reduceMul, Nat.reduceLeDiff, Int.reduceToNat, nB1_B0, nB1_B0.symm]; (first | done | exact True.intro | (repeat' apply And.intro) <;> first | rfl | exact True.intro))
    · skip
      refine AWp_skip ?_
      refine j5 c v (by have hb := hb1; refine itTo_F (k := 1) hj6_0 rfl ?_; first | exact hb | (simp only [items] at hb ⊢; simp_all)) (by omega) (by have hl := hj6_2; omega) _ _ (by exact hweakL (by repeat (first | exact Fr_refl _ _ | refine Fr_new (by assumption) ?_ | refine Fr_old (by simp only [List.map_cons, List.mem_cons, true_or, or_true]) ?_)) (by simp only [go_sem, reduceIte, Nat.reduceEqDiff, Nat.reduceLT, decide_true, reduceCtorEq, Nat.reduceAdd, Nat.reduceBEq, Nat.reduceMul, Nat.reduceLeDiff, Int.reduceToNat, nB1_B0, nB1_B0.symm]; first | done | exact True.intro | (repeat' apply And.intro) <;> first | rfl | exact True.intro)) (by simp only [go_sem, reduceIte, Nat.reduceEqDiff, Nat.reduceLT, decide_true, reduceCtorEq, Nat.reduceAdd, Nat.reduceBEq, Nat.reduceMul, Nat.reduceLeDiff, Int.reduceToNat, nB1_B0, nB1_B0.symm]; (first | done | exact True.intro | (repeat' apply And.intro) <;> first | rfl | exact True.intro))
  clear h4
  refine AWp_seq fun K20 h20 => ?_
  refine AWp_region tab_ok [] ?_
  simp only [go_sem, reduceIte, Nat.reduceEqDiff, Nat.reduceLT, decide_true, reduceCtorEq, Nat.reduceAdd, Nat.reduceBEq, Nat.reduceMul, Nat.reduceLeDiff, Int.reduceToNat, nB1_B0, nB1_B0.symm]
  repeat refine ⟨by first | assumption | omega | exact True.intro | exact rfl | exact ints_cells _ | exact Or.inr rfl | exact List.mem_cons_self | exact bytes_cell (by omega) | exact fun _ => bytes_cell (by omega) | (simp +contextual only [go_sem]; done) | fail, ?_⟩
  refine h20 _ _ ?_
  clear h20
  refine AWp_if fun kk hkk => ?_
  simp only [go_sem, reduceIte, Nat.reduceEqDiff, Nat.reduceLT, decide_true, reduceCtorEq, Nat.reduceAdd, Nat.reduceBEq, Nat.reduceMul, Nat.reduceLeDiff, Int.reduceToNat, nB1_B0, nB1_B0.symm]
  repeat refine ⟨by first | assumption | omega | exact True.intro | exact rfl | exact ints_cells _ | exact Or.inr rfl | exact List.mem_cons_self | exact bytes_cell (by omega) | exact fun _ => bytes_cell (by omega) | (simp +contextual only [go_sem]; done) | fail, ?_⟩
  refine hkk _ (fun hb0 => ?_) (fun hb0 => ?_) <;> clear hkk kk
  · skip
    refine AWp_seq fun K21 h21 => ?_
    refine AWp_region tab_ok [] ?_
    simp only [go_sem, reduceIte, Nat.reduceEqDiff, Nat.reduceLT, decide_true, reduceCtorEq, Nat.reduceAdd, Nat.reduceBEq, Nat.reduceMul, Nat.reduceLeDiff, Int.reduceToNat, nB1_B0, nB1_B0.symm]
    try simp (disch := omega) only [wrap64]
    repeat refine ⟨by first | assumption | omega | exact True.intro | exact rfl | exact ints_cells _ | exact Or.inr rfl | exact List.mem_cons_self | exact bytes_cell (by omega) | exact fun _ => bytes_cell (by omega) | (simp +contextual only [go_sem]; done) | fail, ?_⟩
    refine h21 _ _ ?_
    clear h21
    refine AWp_region tab_ok [0] ?_
    simp only [go_sem, reduceIte, Nat.reduceEqDiff, Nat.reduceLT, decide_true, reduceCtorEq, Nat.reduceAdd, Nat.reduceBEq, Nat.reduceMul, Nat.reduceLeDiff, Int.reduceToNat, nB1_B0, nB1_B0.symm]
    repeat refine ⟨by first | assumption | omega | exact True.intro | exact rfl | exact ints_cells _ | exact Or.inr rfl | exact List.mem_cons_self | exact bytes_cell (by omega) | exact fun _ => bytes_cell (by omega) | (simp +contextual only [go_sem]; done) | fail, ?_⟩
    refine j4 (0 + 1) [b.a0] (by have hb := hb0; refine itTo_T (k := 0) rfl rfl ?_; first | exact hb | (simp only [items] at hb ⊢; simp_all)) (by omega) (by simp) _ _ (by exact hweakL (by repeat (first | exact Fr_refl _ _ | refine Fr_new (by assumption) ?_ | refine Fr_old (by simp only [List.map_cons, List.mem_cons, true_or, or_true]) ?_)) (by simp only [go_sem, reduceIte, Nat.reduceEqDiff, Nat.reduceLT, decide_true, reduceCtorEq, Nat.reduceAdd, Nat.reduceBEq, Nat.reduceMul, Nat.reduceLeDiff, Int.reduceToNat, nB1_B0, nB1_B0.symm]; first | done | exact True.intro | (repeat' apply And.intro) <;> first | rfl | exact True.intro)) (by simp only [go_sem, reduceIte, Nat.reduceEqDiff, Nat.reduceLT, decide_true, reduceCtorEq, Nat.reduceAdd, Nat.reduceBEq, Nat.reduceMul, Nat.reduceLeDiff, Int.reduceToNat, nB1_B0, nB1_B0.symm]; (first | done | exact True.intro | (repeat' apply And.intro) <;> first | rfl | exact True.intro))
  · skip
    refine AWp_skip ?_
    refine j4 0 [] (by have hb := hb0; refine itTo_F (k := 0) rfl rfl ?_; first | exact hb | (simp only [items] at hb ⊢; simp_all)) (by omega) (by simp) _ _ (by exact hweakL (by repeat (first | exact Fr_refl _ _ | refine Fr_new (by assumption) ?_ | refine Fr_old (by simp only [List.map_cons, List.mem_cons, true_or, or_true]) ?_)) (by simp only [go_sem, reduceIte, Nat.reduceEqDiff, Nat.reduceLT, decide_true, reduceCtorEq, Nat.reduceAdd, Nat.reduceBEq, Nat.reduceMul, Nat.reduceLeDiff, Int.reduceToNat, nB1_B0, nB1_B0.symm]; first | done | exact True.intro | (repeat' apply And.intro) <;> first | rfl | exact True.intro)) (by simp only [go_sem, reduceIte, Nat.reduceEqDiff, Nat.reduceLT, decide_true, reduceCtorEq, Nat.reduceAdd, Nat.reduceBEq, Nat.reduceMul, Nat.reduceLeDiff, Int.reduceToNat, nB1_B0, nB1_B0.symm]; (first | done | exact True.intro | (repeat' apply And.intro) <;> first | rfl | exact True.intro))

end Go.Ab
