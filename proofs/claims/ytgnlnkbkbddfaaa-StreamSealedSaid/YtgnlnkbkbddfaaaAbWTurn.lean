/- Ab.WTurn: which batches are gone through; bits that are turned. -/
import Derived.Test.YtgnlnkbkbddfaaaAbWStream6
import Derived.Test.YtgnlnkbkbddfaaaAbTurn
namespace Go.Ab
set_option maxHeartbeats 1000000
set_option linter.unusedSimpArgs false

theorem fits_spec (H : Hp) (K : AV → Hp → Prop) (l : List Bt) (h_0 : l.length < 2^63) (hK : K (.sc (.bool (btsFit l))) H) :
    ACalls Go.Proofs.Try.prog 17 [.lst 0 (bts l)] H K := by
  refine ACalls_fn tab_ok Go.Proofs.Try.func17 24 [.tmp 2] rfl rfl rfl rfl fun d => ?_
  refine AWp_seq fun K1 h1 => ?_
  refine AWp_region tab_ok [] ?_
  simp only [go_sem, reduceIte, Nat.reduceEqDiff, Nat.reduceLT, decide_true, reduceCtorEq, Nat.reduceAdd, Nat.reduceBEq, Nat.reduceMul, Nat.reduceLeDiff, Int.reduceToNat]
  repeat refine ⟨by first | assumption | omega | exact True.intro | exact rfl | exact bts_cell (by omega) | exact fun _ => bts_cell (by omega) | exact List.mem_cons_self | exact bytes_cell (by omega) | exact fun _ => bytes_cell (by omega) | (simp +contextual only [go_sem]; done) | fail, ?_⟩
  refine h1 _ _ ?_
  clear h1
  refine AWp_seq fun K2 h2 => ?_
  refine AWp_seq fun K3 h3 => ?_
  refine AWp_region tab_ok [] ?_
  simp only [go_sem, reduceIte, Nat.reduceEqDiff, Nat.reduceLT, decide_true, reduceCtorEq, Nat.reduceAdd, Nat.reduceBEq, Nat.reduceMul, Nat.reduceLeDiff, Int.reduceToNat]
  repeat refine ⟨by first | assumption | omega | exact True.intro | exact rfl | exact bts_cell (by omega) | exact fun _ => bts_cell (by omega) | exact List.mem_cons_self | exact bytes_cell (by omega) | exact fun _ => bytes_cell (by omega) | (simp +contextual only [go_sem]; done) | fail, ?_⟩
  refine h3 _ _ ?_
  clear h3
  refine AWp_block ?_
  refine AWp_loop_ind (ι := (Nat)) (fun (i : Nat) => [(3, .sc (.int .i64 i)), (0, .lst 0 (bts l))]) (fun (i : Nat) => H) (fun (i : Nat) => (i ≤ l.length) ∧ (i ≤ 101) ∧ (((l.take i).all fun b => decide (b.ids.length ≤ 100)) = true)) (fun (i : Nat) => l.length - i) 0 ?_ ?_ ?_ ?_
  · exact ⟨by omega, by omega, rfl⟩
  · exact fun _ _ h => h
  · simp only [go_sem, reduceIte, Nat.reduceEqDiff, Nat.reduceLT, decide_true, reduceCtorEq, Nat.reduceAdd, Nat.reduceBEq, Nat.reduceMul, Nat.reduceLeDiff, Int.reduceToNat]; first | done | exact True.intro | (repeat' apply And.intro) <;> first | rfl | exact True.intro
  rintro i ⟨hi0_0, hi0_1, hi0_2⟩ L0 hL0
  skip
  refine AWp_seq fun K4 h4 => ?_
  refine AWp_seq fun K5 h5 => ?_
  refine AWp_region tab_ok [] ?_
  simp only [go_sem, reduceIte, Nat.reduceEqDiff, Nat.reduceLT, decide_true, reduceCtorEq, Nat.reduceAdd, Nat.reduceBEq, Nat.reduceMul, Nat.reduceLeDiff, Int.reduceToNat]
  repeat refine ⟨by first | assumption | omega | exact True.intro | exact rfl | exact bts_cell (by omega) | exact fun _ => bts_cell (by omega) | exact List.mem_cons_self | exact bytes_cell (by omega) | exact fun _ => bytes_cell (by omega) | (simp +contextual only [go_sem]; done) | fail, ?_⟩
  refine h5 _ _ ?_
  clear h5
  refine AWp_if fun kk hkk => ?_
  simp only [go_sem, reduceIte, Nat.reduceEqDiff, Nat.reduceLT, decide_true, reduceCtorEq, Nat.reduceAdd, Nat.reduceBEq, Nat.reduceMul, Nat.reduceLeDiff, Int.reduceToNat]
  repeat refine ⟨by first | assumption | omega | exact True.intro | exact rfl | exact bts_cell (by omega) | exact fun _ => bts_cell (by omega) | exact List.mem_cons_self | exact bytes_cell (by omega) | exact fun _ => bytes_cell (by omega) | (simp +contextual only [go_sem]; done) | fail, ?_⟩
  refine hkk _ (fun hb0 => ?_) (fun hb0 => ?_) <;> clear hkk kk
  · simp only [bne_iff_ne, ne_eq, bne_eq_false_iff_eq, beq_iff_eq, beq_eq_false_iff_ne, decide_eq_true_eq, decide_eq_false_iff_not, Bool.not_eq_true', Bool.not_eq_false', Bool.and_eq_true, Bool.and_eq_false_iff, Bool.or_eq_true, Bool.or_eq_false_iff, Int.natCast_inj, not_true_eq_false, not_false_eq_true] at hb0
    obtain ⟨hb0a, hb0b⟩ := hb0
    refine AWp_skip ?_
    refine h4 _ _ ?_
    refine AWp_seq fun K6 h6 => ?_
    refine AWp_block ?_
    refine AWp_seq fun K7 h7 => ?_
    refine AWp_region tab_ok [] ?_
    simp only [go_sem, reduceIte, Nat.reduceEqDiff, Nat.reduceLT, decide_true, reduceCtorEq, Nat.reduceAdd, Nat.reduceBEq, Nat.reduceMul, Nat.reduceLeDiff, Int.reduceToNat]
    try simp (disch := omega) only [bts_get]
    try simp only [go_sem, reduceIte, Nat.reduceEqDiff, Nat.reduceLT, decide_true, reduceCtorEq, Nat.reduceAdd, Nat.reduceBEq, Nat.reduceMul, Nat.reduceLeDiff, Int.reduceToNat]
    repeat refine ⟨by first | assumption | omega | exact True.intro | exact rfl | exact bts_cell (by omega) | exact fun _ => bts_cell (by omega) | exact List.mem_cons_self | exact bytes_cell (by omega) | exact fun _ => bytes_cell (by omega) | (simp +contextual only [go_sem]; done) | fail, ?_⟩
    refine h7 _ _ ?_
    clear h7
    refine AWp_if fun kk hkk => ?_
    simp only [go_sem, reduceIte, Nat.reduceEqDiff, Nat.reduceLT, decide_true, reduceCtorEq, Nat.reduceAdd, Nat.reduceBEq, Nat.reduceMul, Nat.reduceLeDiff, Int.reduceToNat]
    repeat refine ⟨by first | assumption | omega | exact True.intro | exact rfl | exact bts_cell (by omega) | exact fun _ => bts_cell (by omega) | exact List.mem_cons_self | exact bytes_cell (by omega) | exact fun _ => bytes_cell (by omega) | (simp +contextual only [go_sem]; done) | fail, ?_⟩
    refine hkk _ (fun hb1 => ?_) (fun hb1 => ?_) <;> clear hkk kk
    · try simp only [bne_iff_ne, ne_eq, bne_eq_false_iff_eq, beq_iff_eq, beq_eq_false_iff_ne, decide_eq_true_eq, decide_eq_false_iff_not, Bool.not_eq_true', Bool.not_eq_false', Bool.and_eq_true, Bool.and_eq_false_iff, Bool.or_eq_true, Bool.or_eq_false_iff, Int.natCast_inj, not_true_eq_false, not_false_eq_true] at hb1
      refine AWp_seq fun K8 h8 => ?_
      refine AWp_region tab_ok [] ?_
      simp only [go_sem, reduceIte, Nat.reduceEqDiff, Nat.reduceLT, decide_true, reduceCtorEq, Nat.reduceAdd, Nat.reduceBEq, Nat.reduceMul, Nat.reduceLeDiff, Int.reduceToNat]
      repeat refine ⟨by first | assumption | omega | exact True.intro | exact rfl | exact bts_cell (by omega) | exact fun _ => bts_cell (by omega) | exact List.mem_cons_self | exact bytes_cell (by omega) | exact fun _ => bytes_cell (by omega) | (simp +contextual only [go_sem]; done) | fail, ?_⟩
      refine h8 _ _ ?_
      clear h8
      refine AWp_ret ?_
      refine retQ_ret ?_
      simp only [go_sem, reduceIte, Nat.reduceEqDiff, Nat.reduceLT, decide_true, reduceCtorEq, Nat.reduceAdd, Nat.reduceBEq, Nat.reduceMul, Nat.reduceLeDiff, Int.reduceToNat]
      repeat refine ⟨by first | assumption | omega | exact True.intro | exact rfl | exact bts_cell (by omega) | exact fun _ => bts_cell (by omega) | exact List.mem_cons_self | exact bytes_cell (by omega) | exact fun _ => bytes_cell (by omega) | (simp +contextual only [go_sem]; done) | fail, ?_⟩
      rw [show btsFit l = false from by
        rw [btsFit, Bool.and_eq_false_iff]
        right
        rw [List.all_eq_false]
        exact ⟨l[i], List.getElem_mem _, by simp; omega⟩] at hK
      exact hK
    · try simp only [bne_iff_ne, ne_eq, bne_eq_false_iff_eq, beq_iff_eq, beq_eq_false_iff_ne, decide_eq_true_eq, decide_eq_false_iff_not, Bool.not_eq_true', Bool.not_eq_false', Bool.and_eq_true, Bool.and_eq_false_iff, Bool.or_eq_true, Bool.or_eq_false_iff, Int.natCast_inj, not_true_eq_false, not_false_eq_true] at hb1
      refine AWp_skip ?_
      refine h6 _ _ ?_
      refine AWp_region tab_ok [] ?_
      simp only [go_sem, reduceIte, Nat.reduceEqDiff, Nat.reduceLT, decide_true, reduceCtorEq, Nat.reduceAdd, Nat.reduceBEq, Nat.reduceMul, Nat.reduceLeDiff, Int.reduceToNat]
      try simp (disch := omega) only [wrap64]
      repeat refine ⟨by first | assumption | omega | exact True.intro | exact rfl | exact bts_cell (by omega) | exact fun _ => bts_cell (by omega) | exact List.mem_cons_self | exact bytes_cell (by omega) | exact fun _ => bytes_cell (by omega) | (simp +contextual only [go_sem]; done) | fail, ?_⟩
      refine hL0 (i + 1) _ _ ?_ ?_ (fun _ _ h => h) ?_
      · refine ⟨by omega, by omega, ?_⟩; rw [List.take_add_one, List.getElem?_eq_getElem (by omega), List.all_append, hi0_2]; simp; omega
      · omega
      · simp only [go_sem, reduceIte, Nat.reduceEqDiff, Nat.reduceLT, decide_true, reduceCtorEq, Nat.reduceAdd, Nat.reduceBEq, Nat.reduceMul, Nat.reduceLeDiff, Int.reduceToNat]; first | done | exact True.intro | (repeat' apply And.intro) <;> first | rfl | exact True.intro
  · simp only [bne_iff_ne, ne_eq, bne_eq_false_iff_eq, beq_iff_eq, beq_eq_false_iff_ne, decide_eq_true_eq, decide_eq_false_iff_not, Bool.not_eq_true', Bool.not_eq_false', Bool.and_eq_true, Bool.and_eq_false_iff, Bool.or_eq_true, Bool.or_eq_false_iff, Int.natCast_inj, not_true_eq_false, not_false_eq_true] at hb0
    refine AWp_exit ?_
    refine h2 _ _ ?_
    refine AWp_seq fun K9 h9 => ?_
    refine AWp_region tab_ok [] ?_
    simp only [go_sem, reduceIte, Nat.reduceEqDiff, Nat.reduceLT, decide_true, reduceCtorEq, Nat.reduceAdd, Nat.reduceBEq, Nat.reduceMul, Nat.reduceLeDiff, Int.reduceToNat]
    repeat refine ⟨by first | assumption | omega | exact True.intro | exact rfl | exact bts_cell (by omega) | exact fun _ => bts_cell (by omega) | exact List.mem_cons_self | exact bytes_cell (by omega) | exact fun _ => bytes_cell (by omega) | (simp +contextual only [go_sem]; done) | fail, ?_⟩
    refine h9 _ _ ?_
    clear h9
    refine AWp_ret ?_
    refine retQ_ret ?_
    simp only [go_sem, reduceIte, Nat.reduceEqDiff, Nat.reduceLT, decide_true, reduceCtorEq, Nat.reduceAdd, Nat.reduceBEq, Nat.reduceMul, Nat.reduceLeDiff, Int.reduceToNat]
    repeat refine ⟨by first | assumption | omega | exact True.intro | exact rfl | exact bts_cell (by omega) | exact fun _ => bts_cell (by omega) | exact List.mem_cons_self | exact bytes_cell (by omega) | exact fun _ => bytes_cell (by omega) | (simp +contextual only [go_sem]; done) | fail, ?_⟩
    rw [show btsFit l = decide ((l.length : Int) ≤ 100) from by
      by_cases h : l.length ≤ 100
      · rw [show i = l.length by omega, List.take_length] at hi0_2
        rw [btsFit, hi0_2]; simp; omega
      · rw [btsFit, decide_eq_false h]; simp; omega] at hK
    exact hK

theorem turn_spec (H : Hp) (K : AV → Hp → Prop) (xs : List (BitVec 8)) (n : Nat) (p : BitVec 32) (h_0 : 0 < xs.length) (h_1 : xs.length < 2^28) (h_2 : n < 2^40) (hK : K (.lst 2 (bytes (turnOf xs n p))) H) :
    ACalls Go.Proofs.Try.prog 19 [.lst 0 (bytes xs), .sc (.int .i64 n), .sc (.int .u32 p.toNat)] H K := by
  refine ACalls_fn tab_ok Go.Proofs.Try.func19 48 [.tmp 6] rfl rfl rfl rfl fun d => ?_
  refine AWp_seq fun K1 h1 => ?_
  refine AWp_region tab_ok [] ?_
  simp only [go_sem, reduceIte, Nat.reduceEqDiff, Nat.reduceLT, decide_true, reduceCtorEq, Nat.reduceAdd, Nat.reduceBEq, Nat.reduceMul, Nat.reduceLeDiff, Int.reduceToNat]
  repeat refine ⟨by first | assumption | omega | exact True.intro | exact rfl | exact bytes_cells _ | exact Or.inr rfl | exact fun _ => bytes_cell (by omega) | exact List.mem_cons_self | exact bytes_cell (by omega) | exact fun _ => bytes_cell (by omega) | (simp +contextual only [go_sem]; done) | fail, ?_⟩
  refine h1 _ _ ?_
  clear h1
  refine AWp_seq fun K2 h2 => ?_
  refine AWp_region tab_ok [] ?_
  simp only [go_sem, reduceIte, Nat.reduceEqDiff, Nat.reduceLT, decide_true, reduceCtorEq, Nat.reduceAdd, Nat.reduceBEq, Nat.reduceMul, Nat.reduceLeDiff, Int.reduceToNat]
  repeat refine ⟨by first | assumption | omega | exact True.intro | exact rfl | exact bytes_cells _ | exact Or.inr rfl | exact fun _ => bytes_cell (by omega) | exact List.mem_cons_self | exact bytes_cell (by omega) | exact fun _ => bytes_cell (by omega) | (simp +contextual only [go_sem]; done) | fail, ?_⟩
  refine h2 _ _ ?_
  clear h2
  refine AWp_seq fun K3 h3 => ?_
  refine AWp_seq fun K4 h4 => ?_
  refine AWp_openL (s := 7) (xs := bytes xs) (sz := 1) rfl (by rw [bytes_len]; omega) (bytes_cells _) fun B0 off0 cap0 m0 hB0 hcap0 hm0 => ?_
  repeat (first | replace hB0 := ite_none hB0 | replace hB0 := hset_none hB0)
  rw [upd_ofL]
  try simp only [go_sem, reduceIte, Nat.reduceEqDiff, Nat.reduceLT, decide_true, reduceCtorEq, Nat.reduceAdd, Nat.reduceBEq, Nat.reduceMul, Nat.reduceLeDiff, Int.reduceToNat]
  refine AWp_region tab_ok [] ?_
  simp only [go_sem, reduceIte, Nat.reduceEqDiff, Nat.reduceLT, decide_true, reduceCtorEq, Nat.reduceAdd, Nat.reduceBEq, Nat.reduceMul, Nat.reduceLeDiff, Int.reduceToNat]
  repeat refine ⟨by first | assumption | omega | exact True.intro | exact rfl | exact bytes_cells _ | exact Or.inr rfl | exact fun _ => bytes_cell (by omega) | exact List.mem_cons_self | exact bytes_cell (by omega) | exact fun _ => bytes_cell (by omega) | (simp +contextual only [go_sem]; done) | fail, ?_⟩
  refine h4 _ _ ?_
  clear h4
  refine AWp_block ?_
  refine AWp_loop_ind (ι := (Nat)) (fun (i : Nat) => [(8, .sc (.int .i64 i)), (7, .sc (.slice (some ⟨B0, off0, none⟩) xs.length cap0)), (0, .lst 0 (bytes xs)), (1, .sc (.int .i64 n)), (2, .sc (.int .u32 p.toNat))]) (fun (i : Nat) => (hsets H [(B0, .cells (raw off0 (bytes (turnTo xs n p i)) m0))])) (fun (i : Nat) => (i ≤ 32)) (fun (i : Nat) => 32 - i) 0 ?_ ?_ ?_ ?_
  · first | omega | exact True.intro | simp
  · (try dsimp only); exact (hweakL (by repeat (first | exact Fr_refl _ _ | refine Fr_new (by assumption) ?_ | refine Fr_old (by simp only [List.map_cons, List.mem_cons, true_or, or_true]) ?_)) (by simp only [go_sem, reduceIte, Nat.reduceEqDiff, Nat.reduceLT, decide_true, reduceCtorEq, Nat.reduceAdd, Nat.reduceBEq, Nat.reduceMul, Nat.reduceLeDiff, Int.reduceToNat]; first | done | exact True.intro | (repeat' apply And.intro) <;> first | rfl | exact True.intro))
  · simp only [go_sem, reduceIte, Nat.reduceEqDiff, Nat.reduceLT, decide_true, reduceCtorEq, Nat.reduceAdd, Nat.reduceBEq, Nat.reduceMul, Nat.reduceLeDiff, Int.reduceToNat]; first | done | exact True.intro | (repeat' apply And.intro) <;> first | rfl | exact True.intro
  rintro i hi0_0 L0 hL0
  skip
  have htl := turnTo_length xs n p i
  refine AWp_seq fun K5 h5 => ?_
  refine AWp_seq fun K6 h6 => ?_
  refine AWp_region tab_ok [] ?_
  simp only [go_sem, reduceIte, Nat.reduceEqDiff, Nat.reduceLT, decide_true, reduceCtorEq, Nat.reduceAdd, Nat.reduceBEq, Nat.reduceMul, Nat.reduceLeDiff, Int.reduceToNat]
  repeat refine ⟨by first | assumption | omega | exact True.intro | exact rfl | exact bytes_cells _ | exact Or.inr rfl | exact fun _ => bytes_cell (by omega) | exact List.mem_cons_self | exact bytes_cell (by omega) | exact fun _ => bytes_cell (by omega) | (simp +contextual only [go_sem]; done) | fail, ?_⟩
  refine h6 _ _ ?_
  clear h6
  refine AWp_if fun kk hkk => ?_
  simp only [go_sem, reduceIte, Nat.reduceEqDiff, Nat.reduceLT, decide_true, reduceCtorEq, Nat.reduceAdd, Nat.reduceBEq, Nat.reduceMul, Nat.reduceLeDiff, Int.reduceToNat]
  repeat refine ⟨by first | assumption | omega | exact True.intro | exact rfl | exact bytes_cells _ | exact Or.inr rfl | exact fun _ => bytes_cell (by omega) | exact List.mem_cons_self | exact bytes_cell (by omega) | exact fun _ => bytes_cell (by omega) | (simp +contextual only [go_sem]; done) | fail, ?_⟩
  refine hkk _ (fun hb0 => ?_) (fun hb0 => ?_) <;> clear hkk kk
  · simp only [bne_iff_ne, ne_eq, bne_eq_false_iff_eq, beq_iff_eq, beq_eq_false_iff_ne, decide_eq_true_eq, decide_eq_false_iff_not, Bool.not_eq_true', Bool.not_eq_false', Bool.and_eq_true, Bool.and_eq_false_iff, Bool.or_eq_true, Bool.or_eq_false_iff, Int.natCast_inj, not_true_eq_false, not_false_eq_true] at hb0
    have hui := wrapu64 (n := i) (by omega)
    have hq := quo64_8 (n := n + i) (by omega)
    have hr8 := rem8 (n + i)
    have hu := wrapu64 (n := (n + i) % 8) (by omega)
    have hs8 := shl8_one ((n + i) % 8) (by omega)
    refine AWp_skip ?_
    refine h5 _ _ ?_
    refine AWp_seq fun K7 h7 => ?_
    refine AWp_block ?_
    refine AWp_seq fun K8 h8 => ?_
    refine AWp_region tab_ok [] ?_
    simp only [go_sem, reduceIte, Nat.reduceEqDiff, Nat.reduceLT, decide_true, reduceCtorEq, Nat.reduceAdd, Nat.reduceBEq, Nat.reduceMul, Nat.reduceLeDiff, Int.reduceToNat]
    try simp (disch := omega) only [wrap64]
    rw [← Int.natCast_add]
    repeat refine ⟨by first | assumption | omega | exact True.intro | exact rfl | exact bytes_cells _ | exact Or.inr rfl | exact fun _ => bytes_cell (by omega) | exact List.mem_cons_self | exact bytes_cell (by omega) | exact fun _ => bytes_cell (by omega) | (simp +contextual only [go_sem]; done) | fail, ?_⟩
    refine h8 _ _ ?_
    clear h8
    refine AWp_seq fun K9 h9 => ?_
    refine AWp_region tab_ok [] ?_
    simp only [go_sem, reduceIte, Nat.reduceEqDiff, Nat.reduceLT, decide_true, reduceCtorEq, Nat.reduceAdd, Nat.reduceBEq, Nat.reduceMul, Nat.reduceLeDiff, Int.reduceToNat, hui, Int.toNat_natCast]
    try simp (disch := omega) only [wrap64]
    repeat refine ⟨by first | assumption | omega | exact True.intro | exact rfl | exact bytes_cells _ | exact Or.inr rfl | exact fun _ => bytes_cell (by omega) | exact List.mem_cons_self | exact bytes_cell (by omega) | exact fun _ => bytes_cell (by omega) | (simp +contextual only [go_sem]; done) | fail, ?_⟩
    refine h9 _ _ ?_
    clear h9
    refine AWp_if fun kk hkk => ?_
    simp only [go_sem, reduceIte, Nat.reduceEqDiff, Nat.reduceLT, decide_true, reduceCtorEq, Nat.reduceAdd, Nat.reduceBEq, Nat.reduceMul, Nat.reduceLeDiff, Int.reduceToNat]
    repeat refine ⟨by first | assumption | omega | exact True.intro | exact rfl | exact bytes_cells _ | exact Or.inr rfl | exact fun _ => bytes_cell (by omega) | exact List.mem_cons_self | exact bytes_cell (by omega) | exact fun _ => bytes_cell (by omega) | (simp +contextual only [go_sem]; done) | fail, ?_⟩
    refine hkk _ (fun hb1 => ?_) (fun hb1 => ?_) <;> clear hkk kk
    · simp only [bitShr, Bool.and_eq_true, decide_eq_true_eq] at hb1
      have hlt8 : (n + i) / 8 < xs.length := by omega
      have hlt9 : (n + i) / 8 < (turnTo xs n p i).length := by omega
      refine AWp_region tab_ok [] ?_
      simp only [go_sem, reduceIte, Nat.reduceEqDiff, Nat.reduceLT, decide_true, reduceCtorEq, Nat.reduceAdd, Nat.reduceBEq, Nat.reduceMul, Nat.reduceLeDiff, Int.reduceToNat, hq, hr8, hu, hs8, xor8, Nat.mul_one, Int.toNat_natCast]
      try simp (disch := omega) only [bytes_get]
      try simp only [go_sem, reduceIte, Nat.reduceEqDiff, Nat.reduceLT, decide_true, reduceCtorEq, Nat.reduceAdd, Nat.reduceBEq, Nat.reduceMul, Nat.reduceLeDiff, Int.reduceToNat, hq, hr8, hu, hs8, xor8, Nat.mul_one, Int.toNat_natCast]
      repeat refine ⟨by first | assumption | omega | exact True.intro | exact rfl | exact bytes_cells _ | exact Or.inr rfl | exact fun _ => bytes_cell (by omega) | exact List.mem_cons_self | exact bytes_cell (by omega) | exact fun _ => bytes_cell (by omega) | (simp +contextual only [go_sem]; done) | fail, ?_⟩
      rw [raw_get (by rw [bytes_len]; omega), bytes_get? hlt9]
      simp only [go_sem, reduceIte, Nat.reduceEqDiff, Nat.reduceLT, decide_true, reduceCtorEq, Nat.reduceAdd, Nat.reduceBEq, Nat.reduceMul, Nat.reduceLeDiff, Int.reduceToNat, hq, hr8, hu, hs8, xor8, Nat.mul_one, Int.toNat_natCast]
      repeat refine ⟨by first | assumption | omega | exact True.intro | exact rfl | exact bytes_cells _ | exact Or.inr rfl | exact fun _ => bytes_cell (by omega) | exact List.mem_cons_self | exact bytes_cell (by omega) | exact fun _ => bytes_cell (by omega) | (simp +contextual only [go_sem]; done) | fail, ?_⟩
      rw [raw_set (by rw [bytes_len]; omega), bytes_set]
      repeat refine ⟨by first | assumption | omega | exact True.intro | exact rfl | exact bytes_cells _ | exact Or.inr rfl | exact fun _ => bytes_cell (by omega) | exact List.mem_cons_self | exact bytes_cell (by omega) | exact fun _ => bytes_cell (by omega) | (simp +contextual only [go_sem]; done) | fail, ?_⟩
      refine h7 _ _ ?_
      refine AWp_region tab_ok [] ?_
      simp only [go_sem, reduceIte, Nat.reduceEqDiff, Nat.reduceLT, decide_true, reduceCtorEq, Nat.reduceAdd, Nat.reduceBEq, Nat.reduceMul, Nat.reduceLeDiff, Int.reduceToNat]
      try simp (disch := omega) only [wrap64]
      repeat refine ⟨by first | assumption | omega | exact True.intro | exact rfl | exact bytes_cells _ | exact Or.inr rfl | exact fun _ => bytes_cell (by omega) | exact List.mem_cons_self | exact bytes_cell (by omega) | exact fun _ => bytes_cell (by omega) | (simp +contextual only [go_sem]; done) | fail, ?_⟩
      refine hL0 (i + 1) _ _ ?_ ?_ (by (try dsimp only); exact hweakL (by repeat (first | exact Fr_refl _ _ | refine Fr_new (by assumption) ?_ | refine Fr_old (by simp only [List.map_cons, List.mem_cons, true_or, or_true]) ?_)) (by rw [turnTo_set hb1.1 (by omega) hlt9]; simp only [go_sem, reduceIte, Nat.reduceEqDiff, Nat.reduceLT, decide_true, reduceCtorEq, Nat.reduceAdd, Nat.reduceBEq, Nat.reduceMul, Nat.reduceLeDiff, Int.reduceToNat]; first | done | exact True.intro | (repeat' apply And.intro) <;> first | rfl | exact True.intro)) ?_
      · first | omega | exact True.intro | (refine ⟨?_, ?_⟩ <;> first | omega | simp)
      · omega
      · simp only [go_sem, reduceIte, Nat.reduceEqDiff, Nat.reduceLT, decide_true, reduceCtorEq, Nat.reduceAdd, Nat.reduceBEq, Nat.reduceMul, Nat.reduceLeDiff, Int.reduceToNat]; first | done | exact True.intro | (repeat' apply And.intro) <;> first | rfl | exact True.intro
    · simp only [bitShr] at hb1
      have hb1' : ¬ (p.getLsbD i = true ∧ n + i < 8 * xs.length) := fun h => by
        rw [h.1, decide_eq_true (by omega)] at hb1; cases hb1
      refine AWp_skip ?_
      refine h7 _ _ ?_
      refine AWp_region tab_ok [] ?_
      simp only [go_sem, reduceIte, Nat.reduceEqDiff, Nat.reduceLT, decide_true, reduceCtorEq, Nat.reduceAdd, Nat.reduceBEq, Nat.reduceMul, Nat.reduceLeDiff, Int.reduceToNat]
      try simp (disch := omega) only [wrap64]
      repeat refine ⟨by first | assumption | omega | exact True.intro | exact rfl | exact bytes_cells _ | exact Or.inr rfl | exact fun _ => bytes_cell (by omega) | exact List.mem_cons_self | exact bytes_cell (by omega) | exact fun _ => bytes_cell (by omega) | (simp +contextual only [go_sem]; done) | fail, ?_⟩
      refine hL0 (i + 1) _ _ ?_ ?_ (by (try dsimp only); exact hweakL (by repeat (first | exact Fr_refl _ _ | refine Fr_new (by assumption) ?_ | refine Fr_old (by simp only [List.map_cons, List.mem_cons, true_or, or_true]) ?_)) (by rw [turnTo_skip hb1']; simp only [go_sem, reduceIte, Nat.reduceEqDiff, Nat.reduceLT, decide_true, reduceCtorEq, Nat.reduceAdd, Nat.reduceBEq, Nat.reduceMul, Nat.reduceLeDiff, Int.reduceToNat]; first | done | exact True.intro | (repeat' apply And.intro) <;> first | rfl | exact True.intro)) ?_
      · first | omega | exact True.intro | (refine ⟨?_, ?_⟩ <;> first | omega | simp)
      · omega
      · simp only [go_sem, reduceIte, Nat.reduceEqDiff, Nat.reduceLT, decide_true, reduceCtorEq, Nat.reduceAdd, Nat.reduceBEq, Nat.reduceMul, Nat.reduceLeDiff, Int.reduceToNat]; first | done | exact True.intro | (repeat' apply And.intro) <;> first | rfl | exact True.intro
  · try simp only [bne_iff_ne, ne_eq, bne_eq_false_iff_eq, beq_iff_eq, beq_eq_false_iff_ne, decide_eq_true_eq, decide_eq_false_iff_not, Bool.not_eq_true', Bool.not_eq_false', Bool.and_eq_true, Bool.and_eq_false_iff, Bool.or_eq_true, Bool.or_eq_false_iff, Int.natCast_inj, not_true_eq_false, not_false_eq_true] at hb0
    refine AWp_exit ?_
    refine h3 _ _ ?_
    refine AWp_seq fun K10 h10 => ?_
    refine AWp_closeL (s := 7) (B := B0) (sz := 1) (bytes (turnTo xs n p i)) rfl (by first | exact hset_get _ _ _ | (simp only [go_sem, reduceIte, Nat.reduceEqDiff, Nat.reduceLT, decide_true, reduceCtorEq, Nat.reduceAdd, Nat.reduceBEq, Nat.reduceMul, Nat.reduceLeDiff, Int.reduceToNat] <;> rfl)) (by rw [bytes_len]; omega) (by rw [bytes_len]; omega) (by decide) (bytes_cells _) (by rw [flatB]; exact bytes_still _) (by rw [bytes_len] at hcap0; exact hcap0) (by simp only [raw_len, bytes_len] at *; omega) (fun k hk => by rw [flatB] at hk ⊢; exact raw_get hk) ?_
    rw [upd_ofL]
    rw [hdel_hset (by assumption)]
    try simp only [go_sem, reduceIte, Nat.reduceEqDiff, Nat.reduceLT, decide_true, reduceCtorEq, Nat.reduceAdd, Nat.reduceBEq, Nat.reduceMul, Nat.reduceLeDiff, Int.reduceToNat]
    refine AWp_region tab_ok [0] ?_
    simp only [go_sem, reduceIte, Nat.reduceEqDiff, Nat.reduceLT, decide_true, reduceCtorEq, Nat.reduceAdd, Nat.reduceBEq, Nat.reduceMul, Nat.reduceLeDiff, Int.reduceToNat]
    repeat refine ⟨by first | assumption | omega | exact True.intro | exact rfl | exact bytes_cells _ | exact Or.inr rfl | exact fun _ => bytes_cell (by omega) | exact List.mem_cons_self | exact bytes_cell (by omega) | exact fun _ => bytes_cell (by omega) | (simp +contextual only [go_sem]; done) | fail, ?_⟩
    refine h10 _ _ ?_
    clear h10
    refine AWp_ret ?_
    refine retQ_ret ?_
    simp only [go_sem, reduceIte, Nat.reduceEqDiff, Nat.reduceLT, decide_true, reduceCtorEq, Nat.reduceAdd, Nat.reduceBEq, Nat.reduceMul, Nat.reduceLeDiff, Int.reduceToNat]
    repeat refine ⟨by first | assumption | omega | exact True.intro | exact rfl | exact bytes_cells _ | exact Or.inr rfl | exact fun _ => bytes_cell (by omega) | exact List.mem_cons_self | exact bytes_cell (by omega) | exact fun _ => bytes_cell (by omega) | (simp +contextual only [go_sem]; done) | fail, ?_⟩
    obtain rfl : i = 32 := by omega
    exact hK

end Go.Ab
