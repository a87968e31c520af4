/- Ab.WStream2: what the functions of stream compute, that write. -/
import Derived.Test.YtgnlnkbkbddfaaaAbWStream1
import Derived.Test.YtgnlnkbkbddfaaaAbStream
namespace Go.Ab
set_option maxHeartbeats 1000000
set_option linter.unusedSimpArgs false

def fnOf : Nat → Nat
  | 0 => 226 | 1 => 227 | 2 => 228 | 3 => 229 | _ => 230

theorem partI_spec (H : Hp) (K : AV → Hp → Prop) (B i : Nat) (hi : i < 5) (hK : K (.sc (.pointer (some ⟨B, offOf i, none⟩))) H) : ACalls Go.Proofs.Try.prog (fnOf i) [.sc (.pointer (some ⟨B, 0, none⟩))] H K := by
  rcases (by omega : i = 0 ∨ i = 1 ∨ i = 2 ∨ i = 3 ∨ i = 4) with rfl | rfl | rfl | rfl | rfl
  · exact part1_spec H K B hK
  · exact part2_spec H K B hK
  · exact part3_spec H K B hK
  · exact part4_spec H K B hK
  · exact part5_spec H K B hK

theorem cell_off (b : Bt) {i : Nat} (hi : i < 5) : ([.sc (.int .i64 b.a0), .sc (.int .i64 b.a1), .sc (.bool b.clear), .sc (.int .i64 b.a3), .sc (.int .i64 b.a4), .sc (.int .i64 b.a5), .lst 0 (ints b.ids)] : List AV)[offOf i]? = some (.sc (.int .i64 (partOf b i))) := by
  rcases (by omega : i = 0 ∨ i = 1 ∨ i = 2 ∨ i = 3 ∨ i = 4) with rfl | rfl | rfl | rfl | rfl <;> rfl

theorem part_elem {i : Nat} (hi : i < 5) : (if i * 2 ≤ 8 then some (AV.agg (List.take 2 (List.drop (i * 2) [.sc (.int .i64 1), .sc (.func (.func 226) #[] #[]), .sc (.int .i64 2), .sc (.func (.func 227) #[] #[]), .sc (.int .i64 8), .sc (.func (.func 228) #[] #[]), .sc (.int .i64 16), .sc (.func (.func 229) #[] #[]), .sc (.int .i64 32), .sc (.func (.func 230) #[] #[])]))) else none) = some (AV.agg [.sc (.int .i64 (bitOf i : Nat)), .sc (.func (.func (fnOf i)) #[] #[])]) := by
  rcases (by omega : i = 0 ∨ i = 1 ∨ i = 2 ∨ i = 3 ∨ i = 4) with rfl | rfl | rfl | rfl | rfl <;> rfl

theorem write_spec (H : Hp) (K : AV → Hp → Prop) (B : Nat) (w : List (BitVec 8) × Bool) (was b : Bt) (h_0 : H B = some (.cells [.lst 1 (bytes w.1), .sc (.bool w.2)])) (h_1 : w.1.length < 2^26) (h_2 : b.ids.length ≤ 64) (hK : K (.tup []) (hset H B (.cells [.lst 1 (bytes (putL w (btNums was b)).1), .sc (.bool (putL w (btNums was b)).2)]))) :
    ACalls Go.Proofs.Try.prog 148 [.sc (.pointer (some ⟨B, 0, none⟩)), .agg [.sc (.int .i64 was.a0), .sc (.int .i64 was.a1), .sc (.bool was.clear), .sc (.int .i64 was.a3), .sc (.int .i64 was.a4), .sc (.int .i64 was.a5), .lst 0 (ints was.ids)], .agg [.sc (.int .i64 b.a0), .sc (.int .i64 b.a1), .sc (.bool b.clear), .sc (.int .i64 b.a3), .sc (.int .i64 b.a4), .sc (.int .i64 b.a5), .lst 0 (ints b.ids)]] H K := by
  refine ACalls_fn tab_ok Go.Proofs.Try.func148 68 [] rfl rfl rfl rfl fun d => ?_
  refine AWp_seq fun K1 h1 => ?_
  refine AWp_region tab_ok [] ?_
  simp only [go_sem, reduceIte, Nat.reduceEqDiff, Nat.reduceLT, decide_true, reduceCtorEq, Nat.reduceAdd, Nat.reduceBEq, Nat.reduceMul, Nat.reduceLeDiff, Int.reduceToNat, h_0]
  repeat refine ⟨by first | assumption | omega | exact True.intro | exact rfl | exact ints_cells _ | exact bytes_cells _ | exact Or.inr rfl | exact List.mem_cons_self | exact bytes_cell (by omega) | exact fun _ => bytes_cell (by omega) | (simp +contextual only [go_sem]; done) | fail, ?_⟩
  refine fun B0 hB0 => ?_
  have nB0_B : B0 ≠ B := fun hh => by rw [hh] at hB0; revert hB0; (try simp only [hset]); (repeat' split) <;> simp_all
  repeat (first | replace hB0 := ite_none hB0 | replace hB0 := hset_none hB0)
  try simp only [go_sem, reduceIte, Nat.reduceEqDiff, Nat.reduceLT, decide_true, reduceCtorEq, Nat.reduceAdd, Nat.reduceBEq, Nat.reduceMul, Nat.reduceLeDiff, Int.reduceToNat, h_0, nB0_B, nB0_B.symm]
  repeat refine ⟨by first | assumption | omega | exact True.intro | exact rfl | exact ints_cells _ | exact bytes_cells _ | exact Or.inr rfl | exact List.mem_cons_self | exact bytes_cell (by omega) | exact fun _ => bytes_cell (by omega) | (simp +contextual only [go_sem]; done) | fail, ?_⟩
  refine fun B1 hB1 => ?_
  have nB1_B : B1 ≠ B := fun hh => by rw [hh] at hB1; revert hB1; (try simp only [hset]); (repeat' split) <;> simp_all
  have nB1_B0 : B1 ≠ B0 := fun hh => by rw [hh] at hB1; revert hB1; (try simp only [hset]); (repeat' split) <;> simp_all
  repeat (first | replace hB1 := ite_none hB1 | replace hB1 := hset_none hB1)
  try simp only [go_sem, reduceIte, Nat.reduceEqDiff, Nat.reduceLT, decide_true, reduceCtorEq, Nat.reduceAdd, Nat.reduceBEq, Nat.reduceMul, Nat.reduceLeDiff, Int.reduceToNat, h_0, nB0_B, nB0_B.symm, nB1_B, nB1_B.symm, nB1_B0, nB1_B0.symm]
  repeat refine ⟨by first | assumption | omega | exact True.intro | exact rfl | exact ints_cells _ | exact bytes_cells _ | exact Or.inr rfl | exact List.mem_cons_self | exact bytes_cell (by omega) | exact fun _ => bytes_cell (by omega) | (simp +contextual only [go_sem]; done) | fail, ?_⟩
  refine h1 _ _ ?_
  clear h1
  refine AWp_seq fun K2 h2 => ?_
  refine AWp_region tab_ok [] ?_
  simp only [go_sem, reduceIte, Nat.reduceEqDiff, Nat.reduceLT, decide_true, reduceCtorEq, Nat.reduceAdd, Nat.reduceBEq, Nat.reduceMul, Nat.reduceLeDiff, Int.reduceToNat, h_0, nB0_B, nB0_B.symm, nB1_B, nB1_B.symm, nB1_B0, nB1_B0.symm]
  repeat refine ⟨by first | assumption | omega | exact True.intro | exact rfl | exact ints_cells _ | exact bytes_cells _ | exact Or.inr rfl | exact List.mem_cons_self | exact bytes_cell (by omega) | exact fun _ => bytes_cell (by omega) | (simp +contextual only [go_sem]; done) | fail, ?_⟩
  refine h2 _ _ ?_
  clear h2
  refine AWp_seq fun K3 h3 => ?_
  refine AWp_region tab_ok [] ?_
  simp only [go_sem, reduceIte, Nat.reduceEqDiff, Nat.reduceLT, decide_true, reduceCtorEq, Nat.reduceAdd, Nat.reduceBEq, Nat.reduceMul, Nat.reduceLeDiff, Int.reduceToNat, h_0, nB0_B, nB0_B.symm, nB1_B, nB1_B.symm, nB1_B0, nB1_B0.symm]
  repeat refine ⟨by first | assumption | omega | exact True.intro | exact rfl | exact ints_cells _ | exact bytes_cells _ | exact Or.inr rfl | exact List.mem_cons_self | exact bytes_cell (by omega) | exact fun _ => bytes_cell (by omega) | (simp +contextual only [go_sem]; done) | fail, ?_⟩
  refine h3 _ _ ?_
  clear h3
  refine AWp_seq fun K4 h4 => ?_
  refine AWp_seq fun K5 h5 => ?_
  refine AWp_region tab_ok [] ?_
  simp only [go_sem, reduceIte, Nat.reduceEqDiff, Nat.reduceLT, decide_true, reduceCtorEq, Nat.reduceAdd, Nat.reduceBEq, Nat.reduceMul, Nat.reduceLeDiff, Int.reduceToNat, h_0, nB0_B, nB0_B.symm, nB1_B, nB1_B.symm, nB1_B0, nB1_B0.symm]
  repeat refine ⟨by first | assumption | omega | exact True.intro | exact rfl | exact ints_cells _ | exact bytes_cells _ | exact Or.inr rfl | exact List.mem_cons_self | exact bytes_cell (by omega) | exact fun _ => bytes_cell (by omega) | (simp +contextual only [go_sem]; done) | fail, ?_⟩
  refine parts_spec _ _   ?_
  simp only [callK]
  simp only [go_sem, reduceIte, Nat.reduceEqDiff, Nat.reduceLT, decide_true, reduceCtorEq, Nat.reduceAdd, Nat.reduceBEq, Nat.reduceMul, Nat.reduceLeDiff, Int.reduceToNat, h_0, nB0_B, nB0_B.symm, nB1_B, nB1_B.symm, nB1_B0, nB1_B0.symm]
  repeat refine ⟨by first | assumption | omega | exact True.intro | exact rfl | exact ints_cells _ | exact bytes_cells _ | exact Or.inr rfl | exact List.mem_cons_self | exact bytes_cell (by omega) | exact fun _ => bytes_cell (by omega) | (simp +contextual only [go_sem]; done) | fail, ?_⟩
  refine h5 _ _ ?_
  clear h5
  refine AWp_block ?_
  refine AWp_loop_ind (ι := (Nat) × (Nat) × (List Int)) (fun (s : (Nat) × (Nat) × (List Int)) => match s with | (i, c, v) => [(14, .sc (.int .i64 i)), (13, .agg [.sc (.int .i64 1), .sc (.func (.func 226) #[] #[]), .sc (.int .i64 2), .sc (.func (.func 227) #[] #[]), .sc (.int .i64 8), .sc (.func (.func 228) #[] #[]), .sc (.int .i64 16), .sc (.func (.func 229) #[] #[]), .sc (.int .i64 32), .sc (.func (.func 230) #[] #[])]), (6, .sc (.int .i64 c)), (7, .lst 2 (ints v)), (4, .sc (.pointer (some ⟨B0, 0, none⟩))), (5, .sc (.pointer (some ⟨B1, 0, none⟩))), (0, .sc (.pointer (some ⟨B, 0, none⟩)))]) (fun (s : (Nat) × (Nat) × (List Int)) => match s with | (i, c, v) => (hsets H [(B0, (.cells [.sc (.int .i64 was.a0), .sc (.int .i64 was.a1), .sc (.bool was.clear), .sc (.int .i64 was.a3), .sc (.int .i64 was.a4), .sc (.int .i64 was.a5), .lst 0 (ints was.ids)])), (B1, (.cells [.sc (.int .i64 b.a0), .sc (.int .i64 b.a1), .sc (.bool b.clear), .sc (.int .i64 b.a3), .sc (.int .i64 b.a4), .sc (.int .i64 b.a5), .lst 0 (ints b.ids)]))])) (fun (s : (Nat) × (Nat) × (List Int)) => match s with | (i, c, v) => (i ≤ 5) ∧ (c ≤ 63) ∧ (v.length ≤ i) ∧ ((c, v) = chgV ((steps was b).take i))) (fun (s : (Nat) × (Nat) × (List Int)) => match s with | (i, c, v) => 5 - i) (0, 0, []) ?_ ?_ ?_ ?_
  · exact ⟨by omega, by omega, by simp, rfl⟩
  · (try dsimp only); exact (hweakL (by repeat (first | exact Fr_refl _ _ | refine Fr_new (by assumption) ?_ | refine Fr_old (by simp only [List.map_cons, List.mem_cons, true_or, or_true]) ?_)) (by simp only [go_sem, reduceIte, Nat.reduceEqDiff, Nat.reduceLT, decide_true, reduceCtorEq, Nat.reduceAdd, Nat.reduceBEq, Nat.reduceMul, Nat.reduceLeDiff, Int.reduceToNat, h_0, nB0_B, nB0_B.symm, nB1_B, nB1_B.symm, nB1_B0, nB1_B0.symm]; first | done | exact True.intro | (repeat' apply And.intro) <;> first | rfl | exact True.intro))
  · simp only [go_sem, reduceIte, Nat.reduceEqDiff, Nat.reduceLT, decide_true, reduceCtorEq, Nat.reduceAdd, Nat.reduceBEq, Nat.reduceMul, Nat.reduceLeDiff, Int.reduceToNat, h_0, nB0_B, nB0_B.symm, nB1_B, nB1_B.symm, nB1_B0, nB1_B0.symm]; first | done | exact True.intro | (repeat' apply And.intro) <;> first | rfl | exact True.intro
  rintro ⟨i, c, v⟩ ⟨hi0_0, hi0_1, hi0_2, hi0_3⟩ L0 hL0
  dsimp only at *
  refine AWp_seq fun K6 h6 => ?_
  refine AWp_region tab_ok [] ?_
  simp only [go_sem, reduceIte, Nat.reduceEqDiff, Nat.reduceLT, decide_true, reduceCtorEq, Nat.reduceAdd, Nat.reduceBEq, Nat.reduceMul, Nat.reduceLeDiff, Int.reduceToNat, h_0, nB0_B, nB0_B.symm, nB1_B, nB1_B.symm, nB1_B0, nB1_B0.symm]
  repeat refine ⟨by first | assumption | omega | exact True.intro | exact rfl | exact ints_cells _ | exact bytes_cells _ | exact Or.inr rfl | exact List.mem_cons_self | exact bytes_cell (by omega) | exact fun _ => bytes_cell (by omega) | (simp +contextual only [go_sem]; done) | fail, ?_⟩
  refine h6 _ _ ?_
  clear h6
  refine AWp_seq fun K7 h7 => ?_
  refine AWp_if fun kk hkk => ?_
  simp only [go_sem, reduceIte, Nat.reduceEqDiff, Nat.reduceLT, decide_true, reduceCtorEq, Nat.reduceAdd, Nat.reduceBEq, Nat.reduceMul, Nat.reduceLeDiff, Int.reduceToNat, h_0, nB0_B, nB0_B.symm, nB1_B, nB1_B.symm, nB1_B0, nB1_B0.symm]
  repeat refine ⟨by first | assumption | omega | exact True.intro | exact rfl | exact ints_cells _ | exact bytes_cells _ | exact Or.inr rfl | exact List.mem_cons_self | exact bytes_cell (by omega) | exact fun _ => bytes_cell (by omega) | (simp +contextual only [go_sem]; done) | fail, ?_⟩
  refine hkk _ (fun hb0 => ?_) (fun hb0 => ?_) <;> clear hkk kk
  · simp only [decide_eq_true_eq] at hb0
    have hi5 : i < 5 := by omega
    have hbit := bitOf_le i
    have orf := or64 c (bitOf i) (by omega) (by omega)
    have hor : c ||| bitOf i < 2 ^ 6 := Nat.or_lt_two_pow (by omega) (by omega)
    refine AWp_skip ?_
    refine h7 _ _ ?_
    refine AWp_seq fun K8 h8 => ?_
    refine AWp_block ?_
    refine AWp_seq fun K9 h9 => ?_
    refine AWp_region tab_ok [] ?_
    simp only [go_sem, reduceIte, Nat.reduceEqDiff, Nat.reduceLT, decide_true, reduceCtorEq, Nat.reduceAdd, Nat.reduceBEq, Nat.reduceMul, Nat.reduceLeDiff, Int.reduceToNat, h_0, nB0_B, nB0_B.symm, nB1_B, nB1_B.symm, nB1_B0, nB1_B0.symm]
    try simp (disch := omega) only [ints_get]
    try simp only [go_sem, reduceIte, Nat.reduceEqDiff, Nat.reduceLT, decide_true, reduceCtorEq, Nat.reduceAdd, Nat.reduceBEq, Nat.reduceMul, Nat.reduceLeDiff, Int.reduceToNat, h_0, nB0_B, nB0_B.symm, nB1_B, nB1_B.symm, nB1_B0, nB1_B0.symm]
    rw [part_elem hi5]
    simp only [go_sem, reduceIte, Nat.reduceEqDiff, Nat.reduceLT, decide_true, reduceCtorEq, Nat.reduceAdd, Nat.reduceBEq, Nat.reduceMul, Nat.reduceLeDiff, Int.reduceToNat, h_0, nB0_B, nB0_B.symm, nB1_B, nB1_B.symm, nB1_B0, nB1_B0.symm]
    repeat refine ⟨by first | assumption | omega | exact True.intro | exact rfl | exact ints_cells _ | exact bytes_cells _ | exact Or.inr rfl | exact List.mem_cons_self | exact bytes_cell (by omega) | exact fun _ => bytes_cell (by omega) | (simp +contextual only [go_sem]; done) | fail, ?_⟩
    refine fun B2 hB2 => ?_
    have nB2_B : B2 ≠ B := fun hh => by rw [hh] at hB2; revert hB2; (try simp only [hset]); (repeat' split) <;> simp_all
    have nB2_B0 : B2 ≠ B0 := fun hh => by rw [hh] at hB2; revert hB2; (try simp only [hset]); (repeat' split) <;> simp_all
    have nB2_B1 : B2 ≠ B1 := fun hh => by rw [hh] at hB2; revert hB2; (try simp only [hset]); (repeat' split) <;> simp_all
    repeat (first | replace hB2 := ite_none hB2 | replace hB2 := hset_none hB2)
    try simp only [go_sem, reduceIte, Nat.reduceEqDiff, Nat.reduceLT, decide_true, reduceCtorEq, Nat.reduceAdd, Nat.reduceBEq, Nat.reduceMul, Nat.reduceLeDiff, Int.reduceToNat, h_0, nB0_B, nB0_B.symm, nB1_B, nB1_B.symm, nB1_B0, nB1_B0.symm, nB2_B, nB2_B.symm, nB2_B0, nB2_B0.symm, nB2_B1, nB2_B1.symm]
    repeat refine ⟨by first | assumption | omega | exact True.intro | exact rfl | exact ints_cells _ | exact bytes_cells _ | exact Or.inr rfl | exact List.mem_cons_self | exact bytes_cell (by omega) | exact fun _ => bytes_cell (by omega) | (simp +contextual only [go_sem]; done) | fail, ?_⟩
    refine h9 _ _ ?_
    clear h9
    refine AWp_seq fun K10 h10 => ?_
    refine AWp_region tab_ok [] ?_
    simp only [go_sem, reduceIte, Nat.reduceEqDiff, Nat.reduceLT, decide_true, reduceCtorEq, Nat.reduceAdd, Nat.reduceBEq, Nat.reduceMul, Nat.reduceLeDiff, Int.reduceToNat, h_0, nB0_B, nB0_B.symm, nB1_B, nB1_B.symm, nB1_B0, nB1_B0.symm, nB2_B, nB2_B.symm, nB2_B0, nB2_B0.symm, nB2_B1, nB2_B1.symm]
    repeat refine ⟨by first | assumption | omega | exact True.intro | exact rfl | exact ints_cells _ | exact bytes_cells _ | exact Or.inr rfl | exact List.mem_cons_self | exact bytes_cell (by omega) | exact fun _ => bytes_cell (by omega) | (simp +contextual only [go_sem]; done) | fail, ?_⟩
    refine partI_spec _ _ _ i hi5 ?_
    simp only [callK]
    simp only [go_sem, reduceIte, Nat.reduceEqDiff, Nat.reduceLT, decide_true, reduceCtorEq, Nat.reduceAdd, Nat.reduceBEq, Nat.reduceMul, Nat.reduceLeDiff, Int.reduceToNat, h_0, nB0_B, nB0_B.symm, nB1_B, nB1_B.symm, nB1_B0, nB1_B0.symm, nB2_B, nB2_B.symm, nB2_B0, nB2_B0.symm, nB2_B1, nB2_B1.symm]
    rw [cell_off _ hi5]
    simp only [go_sem, reduceIte, Nat.reduceEqDiff, Nat.reduceLT, decide_true, reduceCtorEq, Nat.reduceAdd, Nat.reduceBEq, Nat.reduceMul, Nat.reduceLeDiff, Int.reduceToNat, h_0, nB0_B, nB0_B.symm, nB1_B, nB1_B.symm, nB1_B0, nB1_B0.symm, nB2_B, nB2_B.symm, nB2_B0, nB2_B0.symm, nB2_B1, nB2_B1.symm]
    repeat refine ⟨by first | assumption | omega | exact True.intro | exact rfl | exact ints_cells _ | exact bytes_cells _ | exact Or.inr rfl | exact List.mem_cons_self | exact bytes_cell (by omega) | exact fun _ => bytes_cell (by omega) | (simp +contextual only [go_sem]; done) | fail, ?_⟩
    refine h10 _ _ ?_
    clear h10
    refine AWp_seq fun K11 h11 => ?_
    refine AWp_region tab_ok [] ?_
    simp only [go_sem, reduceIte, Nat.reduceEqDiff, Nat.reduceLT, decide_true, reduceCtorEq, Nat.reduceAdd, Nat.reduceBEq, Nat.reduceMul, Nat.reduceLeDiff, Int.reduceToNat, h_0, nB0_B, nB0_B.symm, nB1_B, nB1_B.symm, nB1_B0, nB1_B0.symm, nB2_B, nB2_B.symm, nB2_B0, nB2_B0.symm, nB2_B1, nB2_B1.symm]
    repeat refine ⟨by first | assumption | omega | exact True.intro | exact rfl | exact ints_cells _ | exact bytes_cells _ | exact Or.inr rfl | exact List.mem_cons_self | exact bytes_cell (by omega) | exact fun _ => bytes_cell (by omega) | (simp +contextual only [go_sem]; done) | fail, ?_⟩
    refine partI_spec _ _ _ i hi5 ?_
    simp only [callK]
    simp only [go_sem, reduceIte, Nat.reduceEqDiff, Nat.reduceLT, decide_true, reduceCtorEq, Nat.reduceAdd, Nat.reduceBEq, Nat.reduceMul, Nat.reduceLeDiff, Int.reduceToNat, h_0, nB0_B, nB0_B.symm, nB1_B, nB1_B.symm, nB1_B0, nB1_B0.symm, nB2_B, nB2_B.symm, nB2_B0, nB2_B0.symm, nB2_B1, nB2_B1.symm]
    rw [cell_off _ hi5]
    simp only [go_sem, reduceIte, Nat.reduceEqDiff, Nat.reduceLT, decide_true, reduceCtorEq, Nat.reduceAdd, Nat.reduceBEq, Nat.reduceMul, Nat.reduceLeDiff, Int.reduceToNat, h_0, nB0_B, nB0_B.symm, nB1_B, nB1_B.symm, nB1_B0, nB1_B0.symm, nB2_B, nB2_B.symm, nB2_B0, nB2_B0.symm, nB2_B1, nB2_B1.symm]
    repeat refine ⟨by first | assumption | omega | exact True.intro | exact rfl | exact ints_cells _ | exact bytes_cells _ | exact Or.inr rfl | exact List.mem_cons_self | exact bytes_cell (by omega) | exact fun _ => bytes_cell (by omega) | (simp +contextual only [go_sem]; done) | fail, ?_⟩
    refine h11 _ _ ?_
    clear h11
    refine AWp_if fun kk hkk => ?_
    simp only [go_sem, reduceIte, Nat.reduceEqDiff, Nat.reduceLT, decide_true, reduceCtorEq, Nat.reduceAdd, Nat.reduceBEq, Nat.reduceMul, Nat.reduceLeDiff, Int.reduceToNat, h_0, nB0_B, nB0_B.symm, nB1_B, nB1_B.symm, nB1_B0, nB1_B0.symm, nB2_B, nB2_B.symm, nB2_B0, nB2_B0.symm, nB2_B1, nB2_B1.symm]
    repeat refine ⟨by first | assumption | omega | exact True.intro | exact rfl | exact ints_cells _ | exact bytes_cells _ | exact Or.inr rfl | exact List.mem_cons_self | exact bytes_cell (by omega) | exact fun _ => bytes_cell (by omega) | (simp +contextual only [go_sem]; done) | fail, ?_⟩
    refine hkk _ (fun hb1 => ?_) (fun hb1 => ?_) <;> clear hkk kk
    · try simp only [bne_iff_ne, ne_eq, bne_eq_false_iff_eq, beq_iff_eq, beq_eq_false_iff_ne, decide_eq_true_eq, decide_eq_false_iff_not, Bool.not_eq_true', Bool.not_eq_false', Bool.and_eq_true, Bool.and_eq_false_iff, Bool.or_eq_true, Bool.or_eq_false_iff, Int.natCast_inj, not_true_eq_false, not_false_eq_true] at hb1
      refine AWp_seq fun K12 h12 => ?_
      refine AWp_region tab_ok [] ?_
      simp only [go_sem, reduceIte, Nat.reduceEqDiff, Nat.reduceLT, decide_true, reduceCtorEq, Nat.reduceAdd, Nat.reduceBEq, Nat.reduceMul, Nat.reduceLeDiff, Int.reduceToNat, h_0, nB0_B, nB0_B.symm, nB1_B, nB1_B.symm, nB1_B0, nB1_B0.symm, nB2_B, nB2_B.symm, nB2_B0, nB2_B0.symm, nB2_B1, nB2_B1.symm, orf]
      repeat refine ⟨by first | assumption | omega | exact True.intro | exact rfl | exact ints_cells _ | exact bytes_cells _ | exact Or.inr rfl | exact List.mem_cons_self | exact bytes_cell (by omega) | exact fun _ => bytes_cell (by omega) | (simp +contextual only [go_sem]; done) | fail, ?_⟩
      refine h12 _ _ ?_
      clear h12
      refine AWp_region tab_ok [0] ?_
      simp only [go_sem, reduceIte, Nat.reduceEqDiff, Nat.reduceLT, decide_true, reduceCtorEq, Nat.reduceAdd, Nat.reduceBEq, Nat.reduceMul, Nat.reduceLeDiff, Int.reduceToNat, h_0, nB0_B, nB0_B.symm, nB1_B, nB1_B.symm, nB1_B0, nB1_B0.symm, nB2_B, nB2_B.symm, nB2_B0, nB2_B0.symm, nB2_B1, nB2_B1.symm]
      repeat refine ⟨by first | assumption | omega | exact True.intro | exact rfl | exact ints_cells _ | exact bytes_cells _ | exact Or.inr rfl | exact List.mem_cons_self | exact bytes_cell (by omega) | exact fun _ => bytes_cell (by omega) | (simp +contextual only [go_sem]; done) | fail, ?_⟩
      refine h8 _ _ ?_
      refine AWp_region tab_ok [] ?_
      simp only [go_sem, reduceIte, Nat.reduceEqDiff, Nat.reduceLT, decide_true, reduceCtorEq, Nat.reduceAdd, Nat.reduceBEq, Nat.reduceMul, Nat.reduceLeDiff, Int.reduceToNat, h_0, nB0_B, nB0_B.symm, nB1_B, nB1_B.symm, nB1_B0, nB1_B0.symm, nB2_B, nB2_B.symm, nB2_B0, nB2_B0.symm, nB2_B1, nB2_B1.symm]
      try simp (disch := omega) only [wrap64]
      repeat refine ⟨by first | assumption | omega | exact True.intro | exact rfl | exact ints_cells _ | exact bytes_cells _ | exact Or.inr rfl | exact List.mem_cons_self | exact bytes_cell (by omega) | exact fun _ => bytes_cell (by omega) | (simp +contextual only [go_sem]; done) | fail, ?_⟩
      refine hL0 ((i + 1), (c ||| bitOf i), (v ++ [partOf b i])) _ _ ?_ ?_ (by (try dsimp only); exact hweakL (by repeat (first | exact Fr_refl _ _ | refine Fr_new (by assumption) ?_ | refine Fr_old (by simp only [List.map_cons, List.mem_cons, true_or, or_true]) ?_)) (by simp only [go_sem, reduceIte, Nat.reduceEqDiff, Nat.reduceLT, decide_true, reduceCtorEq, Nat.reduceAdd, Nat.reduceBEq, Nat.reduceMul, Nat.reduceLeDiff, Int.reduceToNat, h_0, nB0_B, nB0_B.symm, nB1_B, nB1_B.symm, nB1_B0, nB1_B0.symm, nB2_B, nB2_B.symm, nB2_B0, nB2_B0.symm, nB2_B1, nB2_B1.symm]; first | done | exact True.intro | (repeat' apply And.intro) <;> first | rfl | exact True.intro)) ?_
      · dsimp only; refine ⟨by omega, by omega, by simp; omega, ?_⟩; rw [chgV_succ _ _ hi5, ← hi0_3, chgOne, if_neg hb1]
      · dsimp only; omega
      · simp only [go_sem, reduceIte, Nat.reduceEqDiff, Nat.reduceLT, decide_true, reduceCtorEq, Nat.reduceAdd, Nat.reduceBEq, Nat.reduceMul, Nat.reduceLeDiff, Int.reduceToNat, h_0, nB0_B, nB0_B.symm, nB1_B, nB1_B.symm, nB1_B0, nB1_B0.symm, nB2_B, nB2_B.symm, nB2_B0, nB2_B0.symm, nB2_B1, nB2_B1.symm]; first | done | exact True.intro | (repeat' apply And.intro) <;> first | rfl | exact True.intro
    · try simp only [bne_iff_ne, ne_eq, bne_eq_false_iff_eq, beq_iff_eq, beq_eq_false_iff_ne, decide_eq_true_eq, decide_eq_false_iff_not, Bool.not_eq_true', Bool.not_eq_false', Bool.and_eq_true, Bool.and_eq_false_iff, Bool.or_eq_true, Bool.or_eq_false_iff, Int.natCast_inj, not_true_eq_false, not_false_eq_true] at hb1
      refine AWp_skip ?_
      refine h8 _ _ ?_
      refine AWp_region tab_ok [] ?_
      simp only [go_sem, reduceIte, Nat.reduceEqDiff, Nat.reduceLT, decide_true, reduceCtorEq, Nat.reduceAdd, Nat.reduceBEq, Nat.reduceMul, Nat.reduceLeDiff, Int.reduceToNat, h_0, nB0_B, nB0_B.symm, nB1_B, nB1_B.symm, nB1_B0, nB1_B0.symm, nB2_B, nB2_B.symm, nB2_B0, nB2_B0.symm, nB2_B1, nB2_B1.symm]
      try simp (disch := omega) only [wrap64]
      repeat refine ⟨by first | assumption | omega | exact True.intro | exact rfl | exact ints_cells _ | exact bytes_cells _ | exact Or.inr rfl | exact List.mem_cons_self | exact bytes_cell (by omega) | exact fun _ => bytes_cell (by omega) | (simp +contextual only [go_sem]; done) | fail, ?_⟩
      refine hL0 ((i + 1), c, v) _ _ ?_ ?_ (by (try dsimp only); exact hweakL (by repeat (first | exact Fr_refl _ _ | refine Fr_new (by assumption) ?_ | refine Fr_old (by simp only [List.map_cons, List.mem_cons, true_or, or_true]) ?_)) (by simp only [go_sem, reduceIte, Nat.reduceEqDiff, Nat.reduceLT, decide_true, reduceCtorEq, Nat.reduceAdd, Nat.reduceBEq, Nat.reduceMul, Nat.reduceLeDiff, Int.reduceToNat, h_0, nB0_B, nB0_B.symm, nB1_B, nB1_B.symm, nB1_B0, nB1_B0.symm, nB2_B, nB2_B.symm, nB2_B0, nB2_B0.symm, nB2_B1, nB2_B1.symm]; first | done | exact True.intro | (repeat' apply And.intro) <;> first | rfl | exact True.intro)) ?_
      · dsimp only; refine ⟨by omega, by omega, by omega, ?_⟩; rw [chgV_succ _ _ hi5, ← hi0_3, chgOne, if_pos hb1]
      · dsimp only; omega
      · simp only [go_sem, reduceIte, Nat.reduceEqDiff, Nat.reduceLT, decide_true, reduceCtorEq, Nat.reduceAdd, Nat.reduceBEq, Nat.reduceMul, Nat.reduceLeDiff, Int.reduceToNat, h_0, nB0_B, nB0_B.symm, nB1_B, nB1_B.symm, nB1_B0, nB1_B0.symm, nB2_B, nB2_B.symm, nB2_B0, nB2_B0.symm, nB2_B1, nB2_B1.symm]; first | done | exact True.intro | (repeat' apply And.intro) <;> first | rfl | exact True.intro
  · simp only [decide_eq_false_iff_not] at hb0
    obtain rfl : i = 5 := by omega
    have hc : chgV (steps was b) = (c, v) := hi0_3.symm
    have or4 := or64l c 4 (by omega) (by omega)
    have hch : btChange was b ≤ 63 := by unfold btChange; rw [hc]; split <;> first | omega | exact Nat.le_of_lt_succ (Nat.or_lt_two_pow (n := 6) (by omega) (by omega))
    refine AWp_exit ?_
    refine h4 _ _ ?_
    refine AWp_seq fun K13 h13 => ?_
    have j13 : ∀ (e' : Env) (H' : Hp), (∀ BB bb, (hsets H [(B0, (.cells [.sc (.int .i64 was.a0), .sc (.int .i64 was.a1), .sc (.bool was.clear), .sc (.int .i64 was.a3), .sc (.int .i64 was.a4), .sc (.int .i64 was.a5), .lst 0 (ints was.ids)])), (B1, (.cells [.sc (.int .i64 b.a0), .sc (.int .i64 b.a1), .sc (.bool b.clear), .sc (.int .i64 b.a3), .sc (.int .i64 b.a4), .sc (.int .i64 b.a5), .lst 0 (ints b.ids)]))]) BB = some bb → H' BB = some bb) → wkL e' [(6, .sc (.int .i64 (btChange was b : Nat))), (7, .lst 2 (ints v)), (4, .sc (.pointer (some ⟨B0, 0, none⟩))), (5, .sc (.pointer (some ⟨B1, 0, none⟩))), (0, .sc (.pointer (some ⟨B, 0, none⟩)))] → K13 e' H' := by
      intro   e' H' hH hw
      refine h13 _ _ (AWp.weak (wk_ofL hH hw) ?_)
      clear h13 hH hw
      have hl1 := putL_length [(btChange was b : Int)] w
      have hl2 := putL_length v (putL w [(btChange was b : Int)])
      have hl3 := putL_length [(b.ids.length : Int)] (putL (putL w [(btChange was b : Int)]) v)
      simp only [List.length_cons, List.length_nil] at hl1 hl3
      refine AWp_seq fun K14 h14 => ?_
      refine AWp_open tab_ok (by kernel_rfl) [4] [(3, [B]), (5, [B]), (7, [B1]), (10, [B])] [(3, [B]), (5, [B]), (10, [B])] [3, 5, 10] rfl [(3, 4), (3, 6), (5, 6), (3, 7), (5, 7), (3, 8), (5, 8), (3, 9), (5, 9)] (by kernel_rfl) (by kernel_rfl) ?_ ?_
      · simp only [go_sem, reduceIte, Nat.reduceEqDiff, Nat.reduceLT, decide_true, reduceCtorEq, Nat.reduceAdd, Nat.reduceBEq, Nat.reduceMul, Nat.reduceLeDiff, Int.reduceToNat, h_0, nB0_B, nB0_B.symm, nB1_B, nB1_B.symm, nB1_B0, nB1_B0.symm, List.mem_singleton, forall_eq]
      simp only [go_sem, reduceIte, Nat.reduceEqDiff, Nat.reduceLT, decide_true, reduceCtorEq, Nat.reduceAdd, Nat.reduceBEq, Nat.reduceMul, Nat.reduceLeDiff, Int.reduceToNat, h_0, nB0_B, nB0_B.symm, nB1_B, nB1_B.symm, nB1_B0, nB1_B0.symm]
      repeat refine ⟨by first | assumption | omega | exact True.intro | exact rfl | exact ints_cells _ | exact bytes_cells _ | exact Or.inr rfl | exact List.mem_cons_self | exact bytes_cell (by omega) | exact fun _ => bytes_cell (by omega) | (simp +contextual only [go_sem]; done) | fail, ?_⟩
      refine ⟨.sc (.pointer (some ⟨B, 0, none⟩)), [(B, (.cells [.lst 1 (bytes (putL w [(btChange was b : Int)]).1), .sc (.bool (putL w [(btChange was b : Int)]).2)]))], fun H2 hH2 K2 hK2 => ?_, ?_⟩
      · refine put_spec _ _ _ w [(btChange was b : Int)] hH2 (by first | omega | (simp only [List.length_cons, List.length_nil]; omega)) hK2
      try simp only [go_sem, reduceIte, Nat.reduceEqDiff, Nat.reduceLT, decide_true, reduceCtorEq, Nat.reduceAdd, Nat.reduceBEq, Nat.reduceMul, Nat.reduceLeDiff, Int.reduceToNat, h_0, nB0_B, nB0_B.symm, nB1_B, nB1_B.symm, nB1_B0, nB1_B0.symm]
      repeat refine ⟨by first | assumption | omega | exact True.intro | exact rfl | exact ints_cells _ | exact bytes_cells _ | exact Or.inr rfl | exact List.mem_cons_self | exact bytes_cell (by omega) | exact fun _ => bytes_cell (by omega) | (simp +contextual only [go_sem]; done) | fail, ?_⟩
      refine ⟨.sc (.pointer (some ⟨B, 0, none⟩)), [(B, (.cells [.lst 1 (bytes (putL (putL w [(btChange was b : Int)]) v).1), .sc (.bool (putL (putL w [(btChange was b : Int)]) v).2)]))], fun H2 hH2 K2 hK2 => ?_, ?_⟩
      · refine put_spec _ _ _ (putL w [(btChange was b : Int)]) v hH2 (by first | omega | (simp only [List.length_cons, List.length_nil]; omega)) hK2
      try simp only [go_sem, reduceIte, Nat.reduceEqDiff, Nat.reduceLT, decide_true, reduceCtorEq, Nat.reduceAdd, Nat.reduceBEq, Nat.reduceMul, Nat.reduceLeDiff, Int.reduceToNat, h_0, nB0_B, nB0_B.symm, nB1_B, nB1_B.symm, nB1_B0, nB1_B0.symm]
      repeat refine ⟨by first | assumption | omega | exact True.intro | exact rfl | exact ints_cells _ | exact bytes_cells _ | exact Or.inr rfl | exact List.mem_cons_self | exact bytes_cell (by omega) | exact fun _ => bytes_cell (by omega) | (simp +contextual only [go_sem]; done) | fail, ?_⟩
      refine ⟨.sc (.pointer (some ⟨B, 0, none⟩)), [(B, (.cells [.lst 1 (bytes (putL (putL (putL w [(btChange was b : Int)]) v) [(b.ids.length : Int)]).1), .sc (.bool (putL (putL (putL w [(btChange was b : Int)]) v) [(b.ids.length : Int)]).2)]))], fun H2 hH2 K2 hK2 => ?_, ?_⟩
      · refine put_spec _ _ _ (putL (putL w [(btChange was b : Int)]) v) [(b.ids.length : Int)] hH2 (by first | omega | (simp only [List.length_cons, List.length_nil]; omega)) hK2
      try simp only [go_sem, reduceIte, Nat.reduceEqDiff, Nat.reduceLT, decide_true, reduceCtorEq, Nat.reduceAdd, Nat.reduceBEq, Nat.reduceMul, Nat.reduceLeDiff, Int.reduceToNat, h_0, nB0_B, nB0_B.symm, nB1_B, nB1_B.symm, nB1_B0, nB1_B0.symm]
      repeat refine ⟨by first | assumption | omega | exact True.intro | exact rfl | exact ints_cells _ | exact bytes_cells _ | exact Or.inr rfl | exact List.mem_cons_self | exact bytes_cell (by omega) | exact fun _ => bytes_cell (by omega) | (simp +contextual only [go_sem]; done) | fail, ?_⟩
      refine h14 _ _ ?_
      clear h14
      refine AWp_seq fun K15 h15 => ?_
      refine AWp_region tab_ok [] ?_
      simp only [go_sem, reduceIte, Nat.reduceEqDiff, Nat.reduceLT, decide_true, reduceCtorEq, Nat.reduceAdd, Nat.reduceBEq, Nat.reduceMul, Nat.reduceLeDiff, Int.reduceToNat, h_0, nB0_B, nB0_B.symm, nB1_B, nB1_B.symm, nB1_B0, nB1_B0.symm]
      repeat refine ⟨by first | assumption | omega | exact True.intro | exact rfl | exact ints_cells _ | exact bytes_cells _ | exact Or.inr rfl | exact List.mem_cons_self | exact bytes_cell (by omega) | exact fun _ => bytes_cell (by omega) | (simp +contextual only [go_sem]; done) | fail, ?_⟩
      refine h15 _ _ ?_
      clear h15
      refine AWp_block ?_
      refine AWp_loop_ind (ι := (Nat)) (fun (i : Nat) => [(59, .sc (.int .i64 i)), (58, .sc (.int .i64 b.ids.length)), (57, .lst 0 (ints b.ids)), (0, .sc (.pointer (some ⟨B, 0, none⟩)))]) (fun (i : Nat) => (hsets H [(B0, (.cells [.sc (.int .i64 was.a0), .sc (.int .i64 was.a1), .sc (.bool was.clear), .sc (.int .i64 was.a3), .sc (.int .i64 was.a4), .sc (.int .i64 was.a5), .lst 0 (ints was.ids)])), (B1, (.cells [.sc (.int .i64 b.a0), .sc (.int .i64 b.a1), .sc (.bool b.clear), .sc (.int .i64 b.a3), .sc (.int .i64 b.a4), .sc (.int .i64 b.a5), .lst 0 (ints b.ids)])), (B, (.cells [.lst 1 (bytes (putL (putL (putL (putL w [(btChange was b : Int)]) v) [(b.ids.length : Int)]) (b.ids.take i)).1), .sc (.bool (putL (putL (putL (putL w [(btChange was b : Int)]) v) [(b.ids.length : Int)]) (b.ids.take i)).2)]))])) (fun (i : Nat) => (i ≤ b.ids.length)) (fun (i : Nat) => b.ids.length - i) 0 ?_ ?_ ?_ ?_
      · first | omega | exact True.intro | simp
      · (try dsimp only); exact (hweakL (by repeat (first | exact Fr_refl _ _ | refine Fr_new (by assumption) ?_ | refine Fr_old (by simp only [List.map_cons, List.mem_cons, true_or, or_true]) ?_)) (by simp only [go_sem, reduceIte, Nat.reduceEqDiff, Nat.reduceLT, decide_true, reduceCtorEq, Nat.reduceAdd, Nat.reduceBEq, Nat.reduceMul, Nat.reduceLeDiff, Int.reduceToNat, h_0, nB0_B, nB0_B.symm, nB1_B, nB1_B.symm, nB1_B0, nB1_B0.symm]; first | done | exact True.intro | (repeat' apply And.intro) <;> first | rfl | exact True.intro))
      · simp only [go_sem, reduceIte, Nat.reduceEqDiff, Nat.reduceLT, decide_true, reduceCtorEq, Nat.reduceAdd, Nat.reduceBEq, Nat.reduceMul, Nat.reduceLeDiff, Int.reduceToNat, h_0, nB0_B, nB0_B.symm, nB1_B, nB1_B.symm, nB1_B0, nB1_B0.symm]; first | done | exact True.intro | (repeat' apply And.intro) <;> first | rfl | exact True.intro
      rintro i hi1_0 L1 hL1
      skip
      have hl4 := putL_length (b.ids.take i) (putL (putL (putL w [(btChange was b : Int)]) v) [(b.ids.length : Int)])
      rw [List.length_take, Nat.min_eq_left hi1_0] at hl4
      refine AWp_seq fun K16 h16 => ?_
      refine AWp_region tab_ok [] ?_
      simp only [go_sem, reduceIte, Nat.reduceEqDiff, Nat.reduceLT, decide_true, reduceCtorEq, Nat.reduceAdd, Nat.reduceBEq, Nat.reduceMul, Nat.reduceLeDiff, Int.reduceToNat, h_0, nB0_B, nB0_B.symm, nB1_B, nB1_B.symm, nB1_B0, nB1_B0.symm]
      repeat refine ⟨by first | assumption | omega | exact True.intro | exact rfl | exact ints_cells _ | exact bytes_cells _ | exact Or.inr rfl | exact List.mem_cons_self | exact bytes_cell (by omega) | exact fun _ => bytes_cell (by omega) | (simp +contextual only [go_sem]; done) | fail, ?_⟩
      refine h16 _ _ ?_
      clear h16
      refine AWp_seq fun K17 h17 => ?_
      refine AWp_if fun kk hkk => ?_
      simp only [go_sem, reduceIte, Nat.reduceEqDiff, Nat.reduceLT, decide_true, reduceCtorEq, Nat.reduceAdd, Nat.reduceBEq, Nat.reduceMul, Nat.reduceLeDiff, Int.reduceToNat, h_0, nB0_B, nB0_B.symm, nB1_B, nB1_B.symm, nB1_B0, nB1_B0.symm]
      repeat refine ⟨by first | assumption | omega | exact True.intro | exact rfl | exact ints_cells _ | exact bytes_cells _ | exact Or.inr rfl | exact List.mem_cons_self | exact bytes_cell (by omega) | exact fun _ => bytes_cell (by omega) | (simp +contextual only [go_sem]; done) | fail, ?_⟩
      refine hkk _ (fun hb3 => ?_) (fun hb3 => ?_) <;> clear hkk kk
      · try simp only [bne_iff_ne, ne_eq, bne_eq_false_iff_eq, beq_iff_eq, beq_eq_false_iff_ne, decide_eq_true_eq, decide_eq_false_iff_not, Bool.not_eq_true', Bool.not_eq_false', Bool.and_eq_true, Bool.and_eq_false_iff, Bool.or_eq_true, Bool.or_eq_false_iff, Int.natCast_inj, not_true_eq_false, not_false_eq_true] at hb3
        refine AWp_skip ?_
        refine h17 _ _ ?_
        refine AWp_seq fun K18 h18 => ?_
        refine AWp_block ?_
        refine AWp_seq fun K19 h19 => ?_
        refine AWp_region tab_ok [] ?_
        simp only [go_sem, reduceIte, Nat.reduceEqDiff, Nat.reduceLT, decide_true, reduceCtorEq, Nat.reduceAdd, Nat.reduceBEq, Nat.reduceMul, Nat.reduceLeDiff, Int.reduceToNat, h_0, nB0_B, nB0_B.symm, nB1_B, nB1_B.symm, nB1_B0, nB1_B0.symm]
        try simp (disch := omega) only [ints_get]
        try simp only [go_sem, reduceIte, Nat.reduceEqDiff, Nat.reduceLT, decide_true, reduceCtorEq, Nat.reduceAdd, Nat.reduceBEq, Nat.reduceMul, Nat.reduceLeDiff, Int.reduceToNat, h_0, nB0_B, nB0_B.symm, nB1_B, nB1_B.symm, nB1_B0, nB1_B0.symm]
        repeat refine ⟨by first | assumption | omega | exact True.intro | exact rfl | exact ints_cells _ | exact bytes_cells _ | exact Or.inr rfl | exact List.mem_cons_self | exact bytes_cell (by omega) | exact fun _ => bytes_cell (by omega) | (simp +contextual only [go_sem]; done) | fail, ?_⟩
        refine h19 _ _ ?_
        clear h19
        refine AWp_region tab_ok [] ?_
        simp only [go_sem, reduceIte, Nat.reduceEqDiff, Nat.reduceLT, decide_true, reduceCtorEq, Nat.reduceAdd, Nat.reduceBEq, Nat.reduceMul, Nat.reduceLeDiff, Int.reduceToNat, h_0, nB0_B, nB0_B.symm, nB1_B, nB1_B.symm, nB1_B0, nB1_B0.symm]
        repeat refine ⟨by first | assumption | omega | exact True.intro | exact rfl | exact ints_cells _ | exact bytes_cells _ | exact Or.inr rfl | exact List.mem_cons_self | exact bytes_cell (by omega) | exact fun _ => bytes_cell (by omega) | (simp +contextual only [go_sem]; done) | fail, ?_⟩
        refine put_spec _ _ _ (putL (putL (putL (putL w [(btChange was b : Int)]) v) [(b.ids.length : Int)]) (b.ids.take i)) [b.ids[i]] (by simp only [go_sem, reduceIte, Nat.reduceEqDiff, Nat.reduceLT, decide_true, reduceCtorEq, Nat.reduceAdd, Nat.reduceBEq, Nat.reduceMul, Nat.reduceLeDiff, Int.reduceToNat, h_0, nB0_B, nB0_B.symm, nB1_B, nB1_B.symm, nB1_B0, nB1_B0.symm]) (by simp only [List.length_cons, List.length_nil]; omega) ?_
        simp only [callK]
        simp only [go_sem, reduceIte, Nat.reduceEqDiff, Nat.reduceLT, decide_true, reduceCtorEq, Nat.reduceAdd, Nat.reduceBEq, Nat.reduceMul, Nat.reduceLeDiff, Int.reduceToNat, h_0, nB0_B, nB0_B.symm, nB1_B, nB1_B.symm, nB1_B0, nB1_B0.symm]
        repeat refine ⟨by first | assumption | omega | exact True.intro | exact rfl | exact ints_cells _ | exact bytes_cells _ | exact Or.inr rfl | exact List.mem_cons_self | exact bytes_cell (by omega) | exact fun _ => bytes_cell (by omega) | (simp +contextual only [go_sem]; done) | fail, ?_⟩
        refine h18 _ _ ?_
        refine AWp_region tab_ok [] ?_
        simp only [go_sem, reduceIte, Nat.reduceEqDiff, Nat.reduceLT, decide_true, reduceCtorEq, Nat.reduceAdd, Nat.reduceBEq, Nat.reduceMul, Nat.reduceLeDiff, Int.reduceToNat, h_0, nB0_B, nB0_B.symm, nB1_B, nB1_B.symm, nB1_B0, nB1_B0.symm]
        try simp (disch := omega) only [wrap64]
        repeat refine ⟨by first | assumption | omega | exact True.intro | exact rfl | exact ints_cells _ | exact bytes_cells _ | exact Or.inr rfl | exact List.mem_cons_self | exact bytes_cell (by omega) | exact fun _ => bytes_cell (by omega) | (simp +contextual only [go_sem]; done) | fail, ?_⟩
        refine hL1 (i + 1) _ _ ?_ ?_ (by (try dsimp only); exact hweakL (by repeat (first | exact Fr_refl _ _ | refine Fr_new (by assumption) ?_ | refine Fr_old (by simp only [List.map_cons, List.mem_cons, true_or, or_true]) ?_)) (by rw [putL_take_succ _ _ (by omega)]; simp only [go_sem, reduceIte, Nat.reduceEqDiff, Nat.reduceLT, decide_true, reduceCtorEq, Nat.reduceAdd, Nat.reduceBEq, Nat.reduceMul, Nat.reduceLeDiff, Int.reduceToNat, h_0, nB0_B, nB0_B.symm, nB1_B, nB1_B.symm, nB1_B0, nB1_B0.symm]; first | done | exact True.intro | (repeat' apply And.intro) <;> first | rfl | exact True.intro)) ?_
        · first | omega | exact True.intro | (refine ⟨?_, ?_⟩ <;> first | omega | simp)
        · omega
        · simp only [go_sem, reduceIte, Nat.reduceEqDiff, Nat.reduceLT, decide_true, reduceCtorEq, Nat.reduceAdd, Nat.reduceBEq, Nat.reduceMul, Nat.reduceLeDiff, Int.reduceToNat, h_0, nB0_B, nB0_B.symm, nB1_B, nB1_B.symm, nB1_B0, nB1_B0.symm]; first | done | exact True.intro | (repeat' apply And.intro) <;> first | rfl | exact True.intro
      · simp only [decide_eq_false_iff_not] at hb3
        obtain rfl : i = b.ids.length := by omega
        rw [List.take_length]
        refine AWp_exit ?_
        have hfin : putL w (btNums was b) = putL (putL (putL (putL w [(btChange was b : Int)]) v) [(b.ids.length : Int)]) b.ids := by simp only [putL, btNums, hc, List.foldl_append]
        rw [hfin] at hK
        refine retQ_mk (hsets H [(B, (.cells [.lst 1 (bytes (putL (putL (putL (putL w [(btChange was b : Int)]) v) [(b.ids.length : Int)]) b.ids).1), .sc (.bool (putL (putL (putL (putL w [(btChange was b : Int)]) v) [(b.ids.length : Int)]) b.ids).2)]))]) (hweakL (by repeat (first | exact Fr_refl _ _ | refine Fr_new (by assumption) ?_ | refine Fr_old (by simp only [List.map_cons, List.mem_cons, true_or, or_true]) ?_)) (by simp only [go_sem, reduceIte, Nat.reduceEqDiff, Nat.reduceLT, decide_true, reduceCtorEq, Nat.reduceAdd, Nat.reduceBEq, Nat.reduceMul, Nat.reduceLeDiff, Int.reduceToNat, h_0, nB0_B, nB0_B.symm, nB1_B, nB1_B.symm, nB1_B0, nB1_B0.symm]; first | done | exact True.intro | (repeat' apply And.intro) <;> first | rfl | exact True.intro)) (.inl rfl) ?_
        simp only [go_sem, reduceIte, Nat.reduceEqDiff, Nat.reduceLT, decide_true, reduceCtorEq, Nat.reduceAdd, Nat.reduceBEq, Nat.reduceMul, Nat.reduceLeDiff, Int.reduceToNat, h_0, nB0_B, nB0_B.symm, nB1_B, nB1_B.symm, nB1_B0, nB1_B0.symm]
        repeat refine ⟨by first | assumption | omega | exact True.intro | exact rfl | exact ints_cells _ | exact bytes_cells _ | exact Or.inr rfl | exact List.mem_cons_self | exact bytes_cell (by omega) | exact fun _ => bytes_cell (by omega) | (simp +contextual only [go_sem]; done) | fail, ?_⟩
        exact hK
    clear h13
    refine AWp_seq fun K20 h20 => ?_
    refine AWp_region tab_ok [] ?_
    simp only [go_sem, reduceIte, Nat.reduceEqDiff, Nat.reduceLT, decide_true, reduceCtorEq, Nat.reduceAdd, Nat.reduceBEq, Nat.reduceMul, Nat.reduceLeDiff, Int.reduceToNat, h_0, nB0_B, nB0_B.symm, nB1_B, nB1_B.symm, nB1_B0, nB1_B0.symm]
    repeat refine ⟨by first | assumption | omega | exact True.intro | exact rfl | exact ints_cells _ | exact bytes_cells _ | exact Or.inr rfl | exact List.mem_cons_self | exact bytes_cell (by omega) | exact fun _ => bytes_cell (by omega) | (simp +contextual only [go_sem]; done) | fail, ?_⟩
    refine h20 _ _ ?_
    clear h20
    refine AWp_if fun kk hkk => ?_
    simp only [go_sem, reduceIte, Nat.reduceEqDiff, Nat.reduceLT, decide_true, reduceCtorEq, Nat.reduceAdd, Nat.reduceBEq, Nat.reduceMul, Nat.reduceLeDiff, Int.reduceToNat, h_0, nB0_B, nB0_B.symm, nB1_B, nB1_B.symm, nB1_B0, nB1_B0.symm]
    repeat refine ⟨by first | assumption | omega | exact True.intro | exact rfl | exact ints_cells _ | exact bytes_cells _ | exact Or.inr rfl | exact List.mem_cons_self | exact bytes_cell (by omega) | exact fun _ => bytes_cell (by omega) | (simp +contextual only [go_sem]; done) | fail, ?_⟩
    refine hkk _ (fun hb2 => ?_) (fun hb2 => ?_) <;> clear hkk kk
    · simp only [bne_iff_ne, ne_eq, bne_eq_false_iff_eq, beq_iff_eq, beq_eq_false_iff_ne, decide_eq_true_eq, decide_eq_false_iff_not, Bool.not_eq_true', Bool.not_eq_false', Bool.and_eq_true, Bool.and_eq_false_iff, Bool.or_eq_true, Bool.or_eq_false_iff, Int.natCast_inj, not_true_eq_false, not_false_eq_true] at hb2
      have hbc : btChange was b = c ||| 4 := by rw [btChange, if_neg (fun h => hb2 h.symm), hc]
      refine AWp_region tab_ok [] ?_
      simp only [go_sem, reduceIte, Nat.reduceEqDiff, Nat.reduceLT, decide_true, reduceCtorEq, Nat.reduceAdd, Nat.reduceBEq, Nat.reduceMul, Nat.reduceLeDiff, Int.reduceToNat, h_0, nB0_B, nB0_B.symm, nB1_B, nB1_B.symm, nB1_B0, nB1_B0.symm, or4]
      repeat refine ⟨by first | assumption | omega | exact True.intro | exact rfl | exact ints_cells _ | exact bytes_cells _ | exact Or.inr rfl | exact List.mem_cons_self | exact bytes_cell (by omega) | exact fun _ => bytes_cell (by omega) | (simp +contextual only [go_sem]; done) | fail, ?_⟩
      refine j13   _ _ (by exact hweakL (by repeat (first | exact Fr_refl _ _ | refine Fr_new (by assumption) ?_ | refine Fr_old (by simp only [List.map_cons, List.mem_cons, true_or, or_true]) ?_)) (by simp only [go_sem, reduceIte, Nat.reduceEqDiff, Nat.reduceLT, decide_true, reduceCtorEq, Nat.reduceAdd, Nat.reduceBEq, Nat.reduceMul, Nat.reduceLeDiff, Int.reduceToNat, h_0, nB0_B, nB0_B.symm, nB1_B, nB1_B.symm, nB1_B0, nB1_B0.symm]; first | done | exact True.intro | (repeat' apply And.intro) <;> first | rfl | exact True.intro)) (by simp only [go_sem, reduceIte, Nat.reduceEqDiff, Nat.reduceLT, decide_true, reduceCtorEq, Nat.reduceAdd, Nat.reduceBEq, Nat.reduceMul, Nat.reduceLeDiff, Int.reduceToNat, h_0, nB0_B, nB0_B.symm, nB1_B, nB1_B.symm, nB1_B0, nB1_B0.symm]; simp only [hbc]; (first | done | exact True.intro | (repeat' apply And.intro) <;> first | rfl | exact True.intro))
    · simp only [bne_iff_ne, ne_eq, bne_eq_false_iff_eq, beq_iff_eq, beq_eq_false_iff_ne, decide_eq_true_eq, decide_eq_false_iff_not, Bool.not_eq_true', Bool.not_eq_false', Bool.and_eq_true, Bool.and_eq_false_iff, Bool.or_eq_true, Bool.or_eq_false_iff, Int.natCast_inj, not_true_eq_false, not_false_eq_true] at hb2
      have hbc : btChange was b = c := by rw [btChange, if_pos hb2.symm, hc]
      refine AWp_skip ?_
      refine j13   _ _ (by exact hweakL (by repeat (first | exact Fr_refl _ _ | refine Fr_new (by assumption) ?_ | refine Fr_old (by simp only [List.map_cons, List.mem_cons, true_or, or_true]) ?_)) (by simp only [go_sem, reduceIte, Nat.reduceEqDiff, Nat.reduceLT, decide_true, reduceCtorEq, Nat.reduceAdd, Nat.reduceBEq, Nat.reduceMul, Nat.reduceLeDiff, Int.reduceToNat, h_0, nB0_B, nB0_B.symm, nB1_B, nB1_B.symm, nB1_B0, nB1_B0.symm]; first | done | exact True.intro | (repeat' apply And.intro) <;> first | rfl | exact True.intro)) (by simp only [go_sem, reduceIte, Nat.reduceEqDiff, Nat.reduceLT, decide_true, reduceCtorEq, Nat.reduceAdd, Nat.reduceBEq, Nat.reduceMul, Nat.reduceLeDiff, Int.reduceToNat, h_0, nB0_B, nB0_B.symm, nB1_B, nB1_B.symm, nB1_B0, nB1_B0.symm]; simp only [hbc]; (first | done | exact True.intro | (repeat' apply And.intro) <;> first | rfl | exact True.intro))

end Go.Ab
