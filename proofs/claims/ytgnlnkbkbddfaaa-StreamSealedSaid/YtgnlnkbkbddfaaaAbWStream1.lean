/- Ab.WStream1: parts of a batch in a stream, and what was written. -/
import Derived.Test.YtgnlnkbkbddfaaaAbWSum
import Derived.Test.YtgnlnkbkbddfaaaAbWBatch
import Derived.Test.YtgnlnkbkbddfaaaAbWWriter
namespace Go.Ab
set_option maxHeartbeats 1000000
set_option linter.unusedSimpArgs false

theorem part1_spec (H : Hp) (K : AV → Hp → Prop) (B : Nat)  (hK : K (.sc (.pointer (some ⟨B, 0, none⟩))) H) :
    ACalls Go.Proofs.Try.prog 226 [.sc (.pointer (some ⟨B, 0, none⟩))] H K := by
  refine ACalls_fn tab_ok Go.Proofs.Try.func226 6 [.tmp 2] rfl rfl rfl rfl fun d => ?_
  refine AWp_seq fun K1 h1 => ?_
  refine AWp_region tab_ok [] ?_
  simp only [go_sem, reduceIte, Nat.reduceEqDiff, Nat.reduceLT, decide_true, reduceCtorEq, Nat.reduceAdd, Nat.reduceBEq, Nat.reduceMul, Nat.reduceLeDiff, Int.reduceToNat]
  repeat refine ⟨by first | assumption | omega | exact True.intro | exact rfl | exact List.mem_cons_self | exact bytes_cell (by omega) | exact fun _ => bytes_cell (by omega) | (simp +contextual only [go_sem]; done) | fail, ?_⟩
  refine h1 _ _ ?_
  clear h1
  refine AWp_seq fun K2 h2 => ?_
  refine AWp_region tab_ok [] ?_
  simp only [go_sem, reduceIte, Nat.reduceEqDiff, Nat.reduceLT, decide_true, reduceCtorEq, Nat.reduceAdd, Nat.reduceBEq, Nat.reduceMul, Nat.reduceLeDiff, Int.reduceToNat]
  repeat refine ⟨by first | assumption | omega | exact True.intro | exact rfl | exact List.mem_cons_self | exact bytes_cell (by omega) | exact fun _ => bytes_cell (by omega) | (simp +contextual only [go_sem]; done) | fail, ?_⟩
  refine h2 _ _ ?_
  clear h2
  refine AWp_ret ?_
  refine retQ_ret ?_
  simp only [go_sem, reduceIte, Nat.reduceEqDiff, Nat.reduceLT, decide_true, reduceCtorEq, Nat.reduceAdd, Nat.reduceBEq, Nat.reduceMul, Nat.reduceLeDiff, Int.reduceToNat]
  repeat refine ⟨by first | assumption | omega | exact True.intro | exact rfl | exact List.mem_cons_self | exact bytes_cell (by omega) | exact fun _ => bytes_cell (by omega) | (simp +contextual only [go_sem]; done) | fail, ?_⟩
  exact hK

theorem part2_spec (H : Hp) (K : AV → Hp → Prop) (B : Nat)  (hK : K (.sc (.pointer (some ⟨B, 1, none⟩))) H) :
    ACalls Go.Proofs.Try.prog 227 [.sc (.pointer (some ⟨B, 0, none⟩))] H K := by
  refine ACalls_fn tab_ok Go.Proofs.Try.func227 6 [.tmp 2] rfl rfl rfl rfl fun d => ?_
  refine AWp_seq fun K1 h1 => ?_
  refine AWp_region tab_ok [] ?_
  simp only [go_sem, reduceIte, Nat.reduceEqDiff, Nat.reduceLT, decide_true, reduceCtorEq, Nat.reduceAdd, Nat.reduceBEq, Nat.reduceMul, Nat.reduceLeDiff, Int.reduceToNat]
  repeat refine ⟨by first | assumption | omega | exact True.intro | exact rfl | exact List.mem_cons_self | exact bytes_cell (by omega) | exact fun _ => bytes_cell (by omega) | (simp +contextual only [go_sem]; done) | fail, ?_⟩
  refine h1 _ _ ?_
  clear h1
  refine AWp_seq fun K2 h2 => ?_
  refine AWp_region tab_ok [] ?_
  simp only [go_sem, reduceIte, Nat.reduceEqDiff, Nat.reduceLT, decide_true, reduceCtorEq, Nat.reduceAdd, Nat.reduceBEq, Nat.reduceMul, Nat.reduceLeDiff, Int.reduceToNat]
  repeat refine ⟨by first | assumption | omega | exact True.intro | exact rfl | exact List.mem_cons_self | exact bytes_cell (by omega) | exact fun _ => bytes_cell (by omega) | (simp +contextual only [go_sem]; done) | fail, ?_⟩
  refine h2 _ _ ?_
  clear h2
  refine AWp_ret ?_
  refine retQ_ret ?_
  simp only [go_sem, reduceIte, Nat.reduceEqDiff, Nat.reduceLT, decide_true, reduceCtorEq, Nat.reduceAdd, Nat.reduceBEq, Nat.reduceMul, Nat.reduceLeDiff, Int.reduceToNat]
  repeat refine ⟨by first | assumption | omega | exact True.intro | exact rfl | exact List.mem_cons_self | exact bytes_cell (by omega) | exact fun _ => bytes_cell (by omega) | (simp +contextual only [go_sem]; done) | fail, ?_⟩
  exact hK

theorem part3_spec (H : Hp) (K : AV → Hp → Prop) (B : Nat)  (hK : K (.sc (.pointer (some ⟨B, 3, none⟩))) H) :
    ACalls Go.Proofs.Try.prog 228 [.sc (.pointer (some ⟨B, 0, none⟩))] H K := by
  refine ACalls_fn tab_ok Go.Proofs.Try.func228 6 [.tmp 2] rfl rfl rfl rfl fun d => ?_
  refine AWp_seq fun K1 h1 => ?_
  refine AWp_region tab_ok [] ?_
  simp only [go_sem, reduceIte, Nat.reduceEqDiff, Nat.reduceLT, decide_true, reduceCtorEq, Nat.reduceAdd, Nat.reduceBEq, Nat.reduceMul, Nat.reduceLeDiff, Int.reduceToNat]
  repeat refine ⟨by first | assumption | omega | exact True.intro | exact rfl | exact List.mem_cons_self | exact bytes_cell (by omega) | exact fun _ => bytes_cell (by omega) | (simp +contextual only [go_sem]; done) | fail, ?_⟩
  refine h1 _ _ ?_
  clear h1
  refine AWp_seq fun K2 h2 => ?_
  refine AWp_region tab_ok [] ?_
  simp only [go_sem, reduceIte, Nat.reduceEqDiff, Nat.reduceLT, decide_true, reduceCtorEq, Nat.reduceAdd, Nat.reduceBEq, Nat.reduceMul, Nat.reduceLeDiff, Int.reduceToNat]
  repeat refine ⟨by first | assumption | omega | exact True.intro | exact rfl | exact List.mem_cons_self | exact bytes_cell (by omega) | exact fun _ => bytes_cell (by omega) | (simp +contextual only [go_sem]; done) | fail, ?_⟩
  refine h2 _ _ ?_
  clear h2
  refine AWp_ret ?_
  refine retQ_ret ?_
  simp only [go_sem, reduceIte, Nat.reduceEqDiff, Nat.reduceLT, decide_true, reduceCtorEq, Nat.reduceAdd, Nat.reduceBEq, Nat.reduceMul, Nat.reduceLeDiff, Int.reduceToNat]
  repeat refine ⟨by first | assumption | omega | exact True.intro | exact rfl | exact List.mem_cons_self | exact bytes_cell (by omega) | exact fun _ => bytes_cell (by omega) | (simp +contextual only [go_sem]; done) | fail, ?_⟩
  exact hK

theorem part4_spec (H : Hp) (K : AV → Hp → Prop) (B : Nat)  (hK : K (.sc (.pointer (some ⟨B, 4, none⟩))) H) :
    ACalls Go.Proofs.Try.prog 229 [.sc (.pointer (some ⟨B, 0, none⟩))] H K := by
  refine ACalls_fn tab_ok Go.Proofs.Try.func229 6 [.tmp 2] rfl rfl rfl rfl fun d => ?_
  refine AWp_seq fun K1 h1 => ?_
  refine AWp_region tab_ok [] ?_
  simp only [go_sem, reduceIte, Nat.reduceEqDiff, Nat.reduceLT, decide_true, reduceCtorEq, Nat.reduceAdd, Nat.reduceBEq, Nat.reduceMul, Nat.reduceLeDiff, Int.reduceToNat]
  repeat refine ⟨by first | assumption | omega | exact True.intro | exact rfl | exact List.mem_cons_self | exact bytes_cell (by omega) | exact fun _ => bytes_cell (by omega) | (simp +contextual only [go_sem]; done) | fail, ?_⟩
  refine h1 _ _ ?_
  clear h1
  refine AWp_seq fun K2 h2 => ?_
  refine AWp_region tab_ok [] ?_
  simp only [go_sem, reduceIte, Nat.reduceEqDiff, Nat.reduceLT, decide_true, reduceCtorEq, Nat.reduceAdd, Nat.reduceBEq, Nat.reduceMul, Nat.reduceLeDiff, Int.reduceToNat]
  repeat refine ⟨by first | assumption | omega | exact True.intro | exact rfl | exact List.mem_cons_self | exact bytes_cell (by omega) | exact fun _ => bytes_cell (by omega) | (simp +contextual only [go_sem]; done) | fail, ?_⟩
  refine h2 _ _ ?_
  clear h2
  refine AWp_ret ?_
  refine retQ_ret ?_
  simp only [go_sem, reduceIte, Nat.reduceEqDiff, Nat.reduceLT, decide_true, reduceCtorEq, Nat.reduceAdd, Nat.reduceBEq, Nat.reduceMul, Nat.reduceLeDiff, Int.reduceToNat]
  repeat refine ⟨by first | assumption | omega | exact True.intro | exact rfl | exact List.mem_cons_self | exact bytes_cell (by omega) | exact fun _ => bytes_cell (by omega) | (simp +contextual only [go_sem]; done) | fail, ?_⟩
  exact hK

theorem part5_spec (H : Hp) (K : AV → Hp → Prop) (B : Nat)  (hK : K (.sc (.pointer (some ⟨B, 5, none⟩))) H) :
    ACalls Go.Proofs.Try.prog 230 [.sc (.pointer (some ⟨B, 0, none⟩))] H K := by
  refine ACalls_fn tab_ok Go.Proofs.Try.func230 6 [.tmp 2] rfl rfl rfl rfl fun d => ?_
  refine AWp_seq fun K1 h1 => ?_
  refine AWp_region tab_ok [] ?_
  simp only [go_sem, reduceIte, Nat.reduceEqDiff, Nat.reduceLT, decide_true, reduceCtorEq, Nat.reduceAdd, Nat.reduceBEq, Nat.reduceMul, Nat.reduceLeDiff, Int.reduceToNat]
  repeat refine ⟨by first | assumption | omega | exact True.intro | exact rfl | exact List.mem_cons_self | exact bytes_cell (by omega) | exact fun _ => bytes_cell (by omega) | (simp +contextual only [go_sem]; done) | fail, ?_⟩
  refine h1 _ _ ?_
  clear h1
  refine AWp_seq fun K2 h2 => ?_
  refine AWp_region tab_ok [] ?_
  simp only [go_sem, reduceIte, Nat.reduceEqDiff, Nat.reduceLT, decide_true, reduceCtorEq, Nat.reduceAdd, Nat.reduceBEq, Nat.reduceMul, Nat.reduceLeDiff, Int.reduceToNat]
  repeat refine ⟨by first | assumption | omega | exact True.intro | exact rfl | exact List.mem_cons_self | exact bytes_cell (by omega) | exact fun _ => bytes_cell (by omega) | (simp +contextual only [go_sem]; done) | fail, ?_⟩
  refine h2 _ _ ?_
  clear h2
  refine AWp_ret ?_
  refine retQ_ret ?_
  simp only [go_sem, reduceIte, Nat.reduceEqDiff, Nat.reduceLT, decide_true, reduceCtorEq, Nat.reduceAdd, Nat.reduceBEq, Nat.reduceMul, Nat.reduceLeDiff, Int.reduceToNat]
  repeat refine ⟨by first | assumption | omega | exact True.intro | exact rfl | exact List.mem_cons_self | exact bytes_cell (by omega) | exact fun _ => bytes_cell (by omega) | (simp +contextual only [go_sem]; done) | fail, ?_⟩
  exact hK

theorem parts_spec (H : Hp) (K : AV → Hp → Prop)   (hK : K (.agg [.sc (.int .i64 1), .sc (.func (.func 226) #[] #[]), .sc (.int .i64 2), .sc (.func (.func 227) #[] #[]), .sc (.int .i64 8), .sc (.func (.func 228) #[] #[]), .sc (.int .i64 16), .sc (.func (.func 229) #[] #[]), .sc (.int .i64 32), .sc (.func (.func 230) #[] #[])]) H) :
    ACalls Go.Proofs.Try.prog 184 [] H K := by
  refine ACalls_fn tab_ok Go.Proofs.Try.func184 7 [.cell 0 233] rfl rfl rfl rfl fun d => ?_
  refine AWp_seq fun K1 h1 => ?_
  refine AWp_region tab_ok [] ?_
  simp only [go_sem, reduceIte, Nat.reduceEqDiff, Nat.reduceLT, decide_true, reduceCtorEq, Nat.reduceAdd, Nat.reduceBEq, Nat.reduceMul, Nat.reduceLeDiff, Int.reduceToNat]
  repeat refine ⟨by first | assumption | omega | exact True.intro | exact rfl | exact List.mem_cons_self | exact bytes_cell (by omega) | exact fun _ => bytes_cell (by omega) | (simp +contextual only [go_sem]; done) | fail, ?_⟩
  refine fun B0 hB0 => ?_
  repeat (first | replace hB0 := ite_none hB0 | replace hB0 := hset_none hB0)
  try simp only [go_sem, reduceIte, Nat.reduceEqDiff, Nat.reduceLT, decide_true, reduceCtorEq, Nat.reduceAdd, Nat.reduceBEq, Nat.reduceMul, Nat.reduceLeDiff, Int.reduceToNat]
  repeat refine ⟨by first | assumption | omega | exact True.intro | exact rfl | exact List.mem_cons_self | exact bytes_cell (by omega) | exact fun _ => bytes_cell (by omega) | (simp +contextual only [go_sem]; done) | fail, ?_⟩
  refine h1 _ _ ?_
  clear h1
  refine AWp_seq fun K2 h2 => ?_
  refine AWp_region tab_ok [] ?_
  simp only [go_sem, reduceIte, Nat.reduceEqDiff, Nat.reduceLT, decide_true, reduceCtorEq, Nat.reduceAdd, Nat.reduceBEq, Nat.reduceMul, Nat.reduceLeDiff, Int.reduceToNat]
  repeat refine ⟨by first | assumption | omega | exact True.intro | exact rfl | exact List.mem_cons_self | exact bytes_cell (by omega) | exact fun _ => bytes_cell (by omega) | (simp +contextual only [go_sem]; done) | fail, ?_⟩
  refine h2 _ _ ?_
  clear h2
  refine AWp_ret ?_
  refine retQ_mk H (by first | exact fun _ _ h => h | assumption | exact Fr_weak (by repeat (first | exact Fr_refl _ _ | refine Fr_new (by assumption) ?_ | refine Fr_old (by simp only [List.map_cons, List.mem_cons, true_or, or_true]) ?_))) (.inr rfl) ?_
  simp only [go_sem, reduceIte, Nat.reduceEqDiff, Nat.reduceLT, decide_true, reduceCtorEq, Nat.reduceAdd, Nat.reduceBEq, Nat.reduceMul, Nat.reduceLeDiff, Int.reduceToNat]
  repeat refine ⟨by first | assumption | omega | exact True.intro | exact rfl | exact List.mem_cons_self | exact bytes_cell (by omega) | exact fun _ => bytes_cell (by omega) | (simp +contextual only [go_sem]; done) | fail, ?_⟩
  exact hK

theorem wbytes_spec (H : Hp) (K : AV → Hp → Prop) (B : Nat) (w : List (BitVec 8) × Bool) (h_0 : H B = some (.cells [.lst 1 (bytes w.1), .sc (.bool w.2)])) (h_1 : w.1.length < 2^28) (hK : K (.tup [.lst 0 (bytes (if w.2 then [] else w.1)), .sc (.int .i64 (if w.2 then 1 else 0))]) H) :
    ACalls Go.Proofs.Try.prog 149 [.sc (.pointer (some ⟨B, 0, none⟩))] H K := by
  refine ACalls_fn tab_ok Go.Proofs.Try.func149 17 [.tmp 2, .tmp 3] rfl rfl rfl rfl fun d => ?_
  refine AWp_seq fun K1 h1 => ?_
  refine AWp_region tab_ok [] ?_
  simp only [go_sem, reduceIte, Nat.reduceEqDiff, Nat.reduceLT, decide_true, reduceCtorEq, Nat.reduceAdd, Nat.reduceBEq, Nat.reduceMul, Nat.reduceLeDiff, Int.reduceToNat, h_0]
  repeat refine ⟨by first | assumption | omega | exact True.intro | exact rfl | exact List.mem_cons_self | exact bytes_cell (by omega) | exact fun _ => bytes_cell (by omega) | (simp +contextual only [go_sem]; done) | fail, ?_⟩
  refine h1 _ _ ?_
  clear h1
  refine AWp_seq fun K2 h2 => ?_
  refine AWp_seq fun K3 h3 => ?_
  refine AWp_region tab_ok [] ?_
  simp only [go_sem, reduceIte, Nat.reduceEqDiff, Nat.reduceLT, decide_true, reduceCtorEq, Nat.reduceAdd, Nat.reduceBEq, Nat.reduceMul, Nat.reduceLeDiff, Int.reduceToNat, h_0]
  repeat refine ⟨by first | assumption | omega | exact True.intro | exact rfl | exact List.mem_cons_self | exact bytes_cell (by omega) | exact fun _ => bytes_cell (by omega) | (simp +contextual only [go_sem]; done) | fail, ?_⟩
  refine h3 _ _ ?_
  clear h3
  refine AWp_if fun kk hkk => ?_
  simp only [go_sem, reduceIte, Nat.reduceEqDiff, Nat.reduceLT, decide_true, reduceCtorEq, Nat.reduceAdd, Nat.reduceBEq, Nat.reduceMul, Nat.reduceLeDiff, Int.reduceToNat, h_0]
  repeat refine ⟨by first | assumption | omega | exact True.intro | exact rfl | exact List.mem_cons_self | exact bytes_cell (by omega) | exact fun _ => bytes_cell (by omega) | (simp +contextual only [go_sem]; done) | fail, ?_⟩
  refine hkk _ (fun hb0 => ?_) (fun hb0 => ?_) <;> clear hkk kk
  · try simp only [bne_iff_ne, ne_eq, bne_eq_false_iff_eq, beq_iff_eq, beq_eq_false_iff_ne, decide_eq_true_eq, decide_eq_false_iff_not, Bool.not_eq_true', Bool.not_eq_false', Bool.and_eq_true, Bool.and_eq_false_iff, Bool.or_eq_true, Bool.or_eq_false_iff, Int.natCast_inj, not_true_eq_false, not_false_eq_true] at hb0
    refine AWp_seq fun K4 h4 => ?_
    refine AWp_region tab_ok [] ?_
    simp only [go_sem, reduceIte, Nat.reduceEqDiff, Nat.reduceLT, decide_true, reduceCtorEq, Nat.reduceAdd, Nat.reduceBEq, Nat.reduceMul, Nat.reduceLeDiff, Int.reduceToNat, h_0]
    repeat refine ⟨by first | assumption | omega | exact True.intro | exact rfl | exact List.mem_cons_self | exact bytes_cell (by omega) | exact fun _ => bytes_cell (by omega) | (simp +contextual only [go_sem]; done) | fail, ?_⟩
    refine h4 _ _ ?_
    clear h4
    refine AWp_fzE (l := [.tmp 2, .tmp 3]) ?_
    refine AWp_ret ?_
    refine retQ_ret ?_
    simp only [go_sem, reduceIte, Nat.reduceEqDiff, Nat.reduceLT, decide_true, reduceCtorEq, Nat.reduceAdd, Nat.reduceBEq, Nat.reduceMul, Nat.reduceLeDiff, Int.reduceToNat, h_0]
    repeat refine ⟨by first | assumption | omega | exact True.intro | exact rfl | exact List.mem_cons_self | exact bytes_cell (by omega) | exact fun _ => bytes_cell (by omega) | (simp +contextual only [go_sem]; done) | fail, ?_⟩
    rw [if_pos hb0, if_pos hb0] at hK
    exact hK
  · try simp only [bne_iff_ne, ne_eq, bne_eq_false_iff_eq, beq_iff_eq, beq_eq_false_iff_ne, decide_eq_true_eq, decide_eq_false_iff_not, Bool.not_eq_true', Bool.not_eq_false', Bool.and_eq_true, Bool.and_eq_false_iff, Bool.or_eq_true, Bool.or_eq_false_iff, Int.natCast_inj, not_true_eq_false, not_false_eq_true] at hb0
    refine AWp_skip ?_
    refine h2 _ _ ?_
    refine AWp_seq fun K5 h5 => ?_
    refine AWp_region tab_ok [] ?_
    simp only [go_sem, reduceIte, Nat.reduceEqDiff, Nat.reduceLT, decide_true, reduceCtorEq, Nat.reduceAdd, Nat.reduceBEq, Nat.reduceMul, Nat.reduceLeDiff, Int.reduceToNat, h_0]
    repeat refine ⟨by first | assumption | omega | exact True.intro | exact rfl | exact List.mem_cons_self | exact bytes_cell (by omega) | exact fun _ => bytes_cell (by omega) | (simp +contextual only [go_sem]; done) | fail, ?_⟩
    refine clone_spec _ _ _ (by (first | assumption | omega | exact True.intro | (simp only [go_sem, reduceIte, Nat.reduceEqDiff, Nat.reduceLT, decide_true, reduceCtorEq, Nat.reduceAdd, Nat.reduceBEq, Nat.reduceMul, Nat.reduceLeDiff, Int.reduceToNat, h_0] <;> rfl))) ?_
    simp only [callK]
    simp only [go_sem, reduceIte, Nat.reduceEqDiff, Nat.reduceLT, decide_true, reduceCtorEq, Nat.reduceAdd, Nat.reduceBEq, Nat.reduceMul, Nat.reduceLeDiff, Int.reduceToNat, h_0]
    repeat refine ⟨by first | assumption | omega | exact True.intro | exact rfl | exact List.mem_cons_self | exact bytes_cell (by omega) | exact fun _ => bytes_cell (by omega) | (simp +contextual only [go_sem]; done) | fail, ?_⟩
    refine h5 _ _ ?_
    clear h5
    refine AWp_fzE (l := [.tmp 2, .tmp 3]) ?_
    refine AWp_ret ?_
    refine retQ_ret ?_
    simp only [go_sem, reduceIte, Nat.reduceEqDiff, Nat.reduceLT, decide_true, reduceCtorEq, Nat.reduceAdd, Nat.reduceBEq, Nat.reduceMul, Nat.reduceLeDiff, Int.reduceToNat, h_0]
    repeat refine ⟨by first | assumption | omega | exact True.intro | exact rfl | exact List.mem_cons_self | exact bytes_cell (by omega) | exact fun _ => bytes_cell (by omega) | (simp +contextual only [go_sem]; done) | fail, ?_⟩
    rw [if_neg (by simp [hb0]), if_neg (by simp [hb0])] at hK
    exact hK

end Go.Ab
