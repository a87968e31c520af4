/- Ab.WStream3: what stream.all, Encode and Size compute. -/
import Derived.Test.YtgnlnkbkbddfaaaAbWStream2
import Derived.Test.YtgnlnkbkbddfaaaAbHeap
namespace Go.Ab
set_option maxHeartbeats 1000000
set_option linter.unusedSimpArgs false

theorem all_spec (H : Hp) (K : AV → Hp → Prop) (frame : Int) (l : List Bt) (h_0 : l.length ≤ 65536) (h_1 : ∀ b ∈ l, b.ids.length < 2^63) (hK : K (.tup [.lst 0 (bytes (allOf frame l).1), .sc (.int .i64 (allOf frame l).2)]) H) :
    ACalls Go.Proofs.Try.prog 75 [.sc (.int .i64 frame), .lst 0 (bts l)] H K := by
  refine ACalls_fn tab_ok Go.Proofs.Try.func75 51 [.tmp 4, .tmp 5] rfl rfl rfl rfl fun d => ?_
  refine AWp_seq fun K1 h1 => ?_
  refine AWp_region tab_ok [] ?_
  simp only [go_sem, reduceIte, Nat.reduceEqDiff, Nat.reduceLT, decide_true, reduceCtorEq, Nat.reduceAdd, Nat.reduceBEq, Nat.reduceMul, Nat.reduceLeDiff, Int.reduceToNat]
  repeat refine ⟨by first | assumption | omega | exact True.intro | exact rfl | exact bts_cells _ | exact bts_cell (by omega) | exact fun _ => bts_cell (by omega) | exact ints_cells _ | exact bytes_cells _ | exact Or.inr rfl | exact List.mem_cons_self | exact bytes_cell (by omega) | exact fun _ => bytes_cell (by omega) | (simp +contextual only [go_sem]; done) | fail, ?_⟩
  refine h1 _ _ ?_
  clear h1
  refine AWp_seq fun K2 h2 => ?_
  refine AWp_seq fun K3 h3 => ?_
  refine AWp_region tab_ok [] ?_
  simp only [go_sem, reduceIte, Nat.reduceEqDiff, Nat.reduceLT, decide_true, reduceCtorEq, Nat.reduceAdd, Nat.reduceBEq, Nat.reduceMul, Nat.reduceLeDiff, Int.reduceToNat]
  repeat refine ⟨by first | assumption | omega | exact True.intro | exact rfl | exact bts_cells _ | exact bts_cell (by omega) | exact fun _ => bts_cell (by omega) | exact ints_cells _ | exact bytes_cells _ | exact Or.inr rfl | exact List.mem_cons_self | exact bytes_cell (by omega) | exact fun _ => bytes_cell (by omega) | (simp +contextual only [go_sem]; done) | fail, ?_⟩
  first | refine gcall_of _ (fun hG => ⟨by (first | assumption | omega | exact True.intro | exact bts_cells _ | exact bts_cell (by omega) | exact fun _ => bts_cell (by omega) | exact ints_cells _ | exact bytes_cells _ | exact Or.inr rfl | (simp only [go_sem, reduceIte, Nat.reduceEqDiff, Nat.reduceLT, decide_true, reduceCtorEq, Nat.reduceAdd, Nat.reduceBEq, Nat.reduceMul, Nat.reduceLeDiff, Int.reduceToNat] <;> rfl)), batchRight_spec _ _ _ (by (first | assumption | omega | exact True.intro | exact bts_cells _ | exact bts_cell (by omega) | exact fun _ => bts_cell (by omega) | exact ints_cells _ | exact bytes_cells _ | exact Or.inr rfl | (simp only [go_sem, reduceIte, Nat.reduceEqDiff, Nat.reduceLT, decide_true, reduceCtorEq, Nat.reduceAdd, Nat.reduceBEq, Nat.reduceMul, Nat.reduceLeDiff, Int.reduceToNat] <;> rfl))) (by (first | assumption | omega | exact True.intro | exact bts_cells _ | exact bts_cell (by omega) | exact fun _ => bts_cell (by omega) | exact ints_cells _ | exact bytes_cells _ | exact Or.inr rfl | (simp only [go_sem, reduceIte, Nat.reduceEqDiff, Nat.reduceLT, decide_true, reduceCtorEq, Nat.reduceAdd, Nat.reduceBEq, Nat.reduceMul, Nat.reduceLeDiff, Int.reduceToNat] <;> rfl))) ⟨rfl, rfl⟩⟩) ?_ | refine gcall_of _ (fun hG => batchRight_spec _ _ _ (by (first | assumption | omega | exact True.intro | exact bts_cells _ | exact bts_cell (by omega) | exact fun _ => bts_cell (by omega) | exact ints_cells _ | exact bytes_cells _ | exact Or.inr rfl | (simp only [go_sem, reduceIte, Nat.reduceEqDiff, Nat.reduceLT, decide_true, reduceCtorEq, Nat.reduceAdd, Nat.reduceBEq, Nat.reduceMul, Nat.reduceLeDiff, Int.reduceToNat] <;> rfl))) (by (first | assumption | omega | exact True.intro | exact bts_cells _ | exact bts_cell (by omega) | exact fun _ => bts_cell (by omega) | exact ints_cells _ | exact bytes_cells _ | exact Or.inr rfl | (simp only [go_sem, reduceIte, Nat.reduceEqDiff, Nat.reduceLT, decide_true, reduceCtorEq, Nat.reduceAdd, Nat.reduceBEq, Nat.reduceMul, Nat.reduceLeDiff, Int.reduceToNat] <;> rfl))) ⟨rfl, rfl⟩) ?_ | refine gcall_of _ (batchRight_spec _ _ _ (by (first | assumption | omega | exact True.intro | exact bts_cells _ | exact bts_cell (by omega) | exact fun _ => bts_cell (by omega) | exact ints_cells _ | exact bytes_cells _ | exact Or.inr rfl | (simp only [go_sem, reduceIte, Nat.reduceEqDiff, Nat.reduceLT, decide_true, reduceCtorEq, Nat.reduceAdd, Nat.reduceBEq, Nat.reduceMul, Nat.reduceLeDiff, Int.reduceToNat] <;> rfl))) (by (first | assumption | omega | exact True.intro | exact bts_cells _ | exact bts_cell (by omega) | exact fun _ => bts_cell (by omega) | exact ints_cells _ | exact bytes_cells _ | exact Or.inr rfl | (simp only [go_sem, reduceIte, Nat.reduceEqDiff, Nat.reduceLT, decide_true, reduceCtorEq, Nat.reduceAdd, Nat.reduceBEq, Nat.reduceMul, Nat.reduceLeDiff, Int.reduceToNat] <;> rfl))) ⟨rfl, rfl⟩) ?_ | refine gcall_of _ ⟨by (first | assumption | omega | exact True.intro | exact bts_cells _ | exact bts_cell (by omega) | exact fun _ => bts_cell (by omega) | exact ints_cells _ | exact bytes_cells _ | exact Or.inr rfl | (simp only [go_sem, reduceIte, Nat.reduceEqDiff, Nat.reduceLT, decide_true, reduceCtorEq, Nat.reduceAdd, Nat.reduceBEq, Nat.reduceMul, Nat.reduceLeDiff, Int.reduceToNat] <;> rfl)), batchRight_spec _ _ _ (by (first | assumption | omega | exact True.intro | exact bts_cells _ | exact bts_cell (by omega) | exact fun _ => bts_cell (by omega) | exact ints_cells _ | exact bytes_cells _ | exact Or.inr rfl | (simp only [go_sem, reduceIte, Nat.reduceEqDiff, Nat.reduceLT, decide_true, reduceCtorEq, Nat.reduceAdd, Nat.reduceBEq, Nat.reduceMul, Nat.reduceLeDiff, Int.reduceToNat] <;> rfl))) (by (first | assumption | omega | exact True.intro | exact bts_cells _ | exact bts_cell (by omega) | exact fun _ => bts_cell (by omega) | exact ints_cells _ | exact bytes_cells _ | exact Or.inr rfl | (simp only [go_sem, reduceIte, Nat.reduceEqDiff, Nat.reduceLT, decide_true, reduceCtorEq, Nat.reduceAdd, Nat.reduceBEq, Nat.reduceMul, Nat.reduceLeDiff, Int.reduceToNat] <;> rfl))) ⟨rfl, rfl⟩⟩ ?_
  simp only [go_sem, reduceIte, Nat.reduceEqDiff, Nat.reduceLT, decide_true, reduceCtorEq, Nat.reduceAdd, Nat.reduceBEq, Nat.reduceMul, Nat.reduceLeDiff, Int.reduceToNat]
  repeat refine ⟨by first | assumption | omega | exact True.intro | exact rfl | exact bts_cells _ | exact bts_cell (by omega) | exact fun _ => bts_cell (by omega) | exact ints_cells _ | exact bytes_cells _ | exact Or.inr rfl | exact List.mem_cons_self | exact bytes_cell (by omega) | exact fun _ => bytes_cell (by omega) | (simp +contextual only [go_sem]; done) | fail, ?_⟩
  refine h3 _ _ ?_
  clear h3
  refine AWp_if fun kk hkk => ?_
  simp only [go_sem, reduceIte, Nat.reduceEqDiff, Nat.reduceLT, decide_true, reduceCtorEq, Nat.reduceAdd, Nat.reduceBEq, Nat.reduceMul, Nat.reduceLeDiff, Int.reduceToNat]
  repeat refine ⟨by first | assumption | omega | exact True.intro | exact rfl | exact bts_cells _ | exact bts_cell (by omega) | exact fun _ => bts_cell (by omega) | exact ints_cells _ | exact bytes_cells _ | exact Or.inr rfl | exact List.mem_cons_self | exact bytes_cell (by omega) | exact fun _ => bytes_cell (by omega) | (simp +contextual only [go_sem]; done) | fail, ?_⟩
  refine hkk _ (fun hb0 => ?_) (fun hb0 => ?_) <;> clear hkk kk
  · have hex : frame < 0 ∨ frame > 2147483647 ∨ btsRight l = false := by
      simp only [bne_iff_ne, ne_eq, bne_eq_false_iff_eq, beq_iff_eq, beq_eq_false_iff_ne, decide_eq_true_eq, decide_eq_false_iff_not, Bool.not_eq_true', Bool.not_eq_false', Bool.and_eq_true, Bool.and_eq_false_iff, Bool.or_eq_true, Bool.or_eq_false_iff, Int.natCast_inj, not_true_eq_false, not_false_eq_true] at hb0
      simpa [or_assoc, and_assoc] using hb0
    rw [show allOf frame l = ([], 1) from if_pos hex] at hK
    refine AWp_seq fun K4 h4 => ?_
    refine AWp_region tab_ok [] ?_
    simp only [go_sem, reduceIte, Nat.reduceEqDiff, Nat.reduceLT, decide_true, reduceCtorEq, Nat.reduceAdd, Nat.reduceBEq, Nat.reduceMul, Nat.reduceLeDiff, Int.reduceToNat]
    repeat refine ⟨by first | assumption | omega | exact True.intro | exact rfl | exact bts_cells _ | exact bts_cell (by omega) | exact fun _ => bts_cell (by omega) | exact ints_cells _ | exact bytes_cells _ | exact Or.inr rfl | exact List.mem_cons_self | exact bytes_cell (by omega) | exact fun _ => bytes_cell (by omega) | (simp +contextual only [go_sem]; done) | fail, ?_⟩
    refine h4 _ _ ?_
    clear h4
    refine AWp_fzE (l := [.tmp 4, .tmp 5]) ?_
    refine AWp_ret ?_
    refine retQ_mk H (by first | exact fun _ _ h => h | assumption | exact Fr_weak (by repeat (first | exact Fr_refl _ _ | refine Fr_new (by assumption) ?_ | refine Fr_old (by simp only [List.map_cons, List.mem_cons, true_or, or_true]) ?_))) (.inr rfl) ?_
    simp only [go_sem, reduceIte, Nat.reduceEqDiff, Nat.reduceLT, decide_true, reduceCtorEq, Nat.reduceAdd, Nat.reduceBEq, Nat.reduceMul, Nat.reduceLeDiff, Int.reduceToNat]
    repeat refine ⟨by first | assumption | omega | exact True.intro | exact rfl | exact bts_cells _ | exact bts_cell (by omega) | exact fun _ => bts_cell (by omega) | exact ints_cells _ | exact bytes_cells _ | exact Or.inr rfl | exact List.mem_cons_self | exact bytes_cell (by omega) | exact fun _ => bytes_cell (by omega) | (simp +contextual only [go_sem]; done) | fail, ?_⟩
    exact hK
  · have hex : ¬ (frame < 0 ∨ frame > 2147483647 ∨ btsRight l = false) := by
      simp only [bne_iff_ne, ne_eq, bne_eq_false_iff_eq, beq_iff_eq, beq_eq_false_iff_ne, decide_eq_true_eq, decide_eq_false_iff_not, Bool.not_eq_true', Bool.not_eq_false', Bool.and_eq_true, Bool.and_eq_false_iff, Bool.or_eq_true, Bool.or_eq_false_iff, Int.natCast_inj, not_true_eq_false, not_false_eq_true] at hb0
      simpa [or_assoc, and_assoc] using hb0
    simp only [not_or] at hex
    have hids : ∀ b ∈ l, b.ids.length ≤ 64 := btsRight_ids (by simpa using hex.2.2)
    clear hb0
    refine AWp_skip ?_
    refine h2 _ _ ?_
    refine AWp_seq fun K5 h5 => ?_
    refine AWp_region tab_ok [] ?_
    simp only [go_sem, reduceIte, Nat.reduceEqDiff, Nat.reduceLT, decide_true, reduceCtorEq, Nat.reduceAdd, Nat.reduceBEq, Nat.reduceMul, Nat.reduceLeDiff, Int.reduceToNat]
    repeat refine ⟨by first | assumption | omega | exact True.intro | exact rfl | exact bts_cells _ | exact bts_cell (by omega) | exact fun _ => bts_cell (by omega) | exact ints_cells _ | exact bytes_cells _ | exact Or.inr rfl | exact List.mem_cons_self | exact bytes_cell (by omega) | exact fun _ => bytes_cell (by omega) | (simp +contextual only [go_sem]; done) | fail, ?_⟩
    refine fun B0 hB0 => ?_
    repeat (first | replace hB0 := ite_none hB0 | replace hB0 := hset_none hB0)
    try simp only [go_sem, reduceIte, Nat.reduceEqDiff, Nat.reduceLT, decide_true, reduceCtorEq, Nat.reduceAdd, Nat.reduceBEq, Nat.reduceMul, Nat.reduceLeDiff, Int.reduceToNat]
    repeat refine ⟨by first | assumption | omega | exact True.intro | exact rfl | exact bts_cells _ | exact bts_cell (by omega) | exact fun _ => bts_cell (by omega) | exact ints_cells _ | exact bytes_cells _ | exact Or.inr rfl | exact List.mem_cons_self | exact bytes_cell (by omega) | exact fun _ => bytes_cell (by omega) | (simp +contextual only [go_sem]; done) | fail, ?_⟩
    refine h5 _ _ ?_
    clear h5
    refine AWp_seq fun K6 h6 => ?_
    refine AWp_region tab_ok [] ?_
    simp only [go_sem, reduceIte, Nat.reduceEqDiff, Nat.reduceLT, decide_true, reduceCtorEq, Nat.reduceAdd, Nat.reduceBEq, Nat.reduceMul, Nat.reduceLeDiff, Int.reduceToNat]
    repeat refine ⟨by first | assumption | omega | exact True.intro | exact rfl | exact bts_cells _ | exact bts_cell (by omega) | exact fun _ => bts_cell (by omega) | exact ints_cells _ | exact bytes_cells _ | exact Or.inr rfl | exact List.mem_cons_self | exact bytes_cell (by omega) | exact fun _ => bytes_cell (by omega) | (simp +contextual only [go_sem]; done) | fail, ?_⟩
    refine put_spec _ _ _ ([], false) [1, frame, (l.length : Int)] (by simp only [go_sem, reduceIte, Nat.reduceEqDiff, Nat.reduceLT, decide_true, reduceCtorEq, Nat.reduceAdd, Nat.reduceBEq, Nat.reduceMul, Nat.reduceLeDiff, Int.reduceToNat] <;> rfl) (by simp) ?_
    simp only [callK]
    simp only [go_sem, reduceIte, Nat.reduceEqDiff, Nat.reduceLT, decide_true, reduceCtorEq, Nat.reduceAdd, Nat.reduceBEq, Nat.reduceMul, Nat.reduceLeDiff, Int.reduceToNat]
    repeat refine ⟨by first | assumption | omega | exact True.intro | exact rfl | exact bts_cells _ | exact bts_cell (by omega) | exact fun _ => bts_cell (by omega) | exact ints_cells _ | exact bytes_cells _ | exact Or.inr rfl | exact List.mem_cons_self | exact bytes_cell (by omega) | exact fun _ => bytes_cell (by omega) | (simp +contextual only [go_sem]; done) | fail, ?_⟩
    refine h6 _ _ ?_
    clear h6
    refine AWp_seq fun K7 h7 => ?_
    refine AWp_region tab_ok [] ?_
    simp only [go_sem, reduceIte, Nat.reduceEqDiff, Nat.reduceLT, decide_true, reduceCtorEq, Nat.reduceAdd, Nat.reduceBEq, Nat.reduceMul, Nat.reduceLeDiff, Int.reduceToNat]
    repeat refine ⟨by first | assumption | omega | exact True.intro | exact rfl | exact bts_cells _ | exact bts_cell (by omega) | exact fun _ => bts_cell (by omega) | exact ints_cells _ | exact bytes_cells _ | exact Or.inr rfl | exact List.mem_cons_self | exact bytes_cell (by omega) | exact fun _ => bytes_cell (by omega) | (simp +contextual only [go_sem]; done) | fail, ?_⟩
    refine fun B1 hB1 => ?_
    have nB1_B0 : B1 ≠ B0 := fun hh => by rw [hh] at hB1; revert hB1; (try simp only [hset]); (repeat' split) <;> simp_all
    repeat (first | replace hB1 := ite_none hB1 | replace hB1 := hset_none hB1)
    try simp only [go_sem, reduceIte, Nat.reduceEqDiff, Nat.reduceLT, decide_true, reduceCtorEq, Nat.reduceAdd, Nat.reduceBEq, Nat.reduceMul, Nat.reduceLeDiff, Int.reduceToNat, nB1_B0, nB1_B0.symm]
    repeat refine ⟨by first | assumption | omega | exact True.intro | exact rfl | exact bts_cells _ | exact bts_cell (by omega) | exact fun _ => bts_cell (by omega) | exact ints_cells _ | exact bytes_cells _ | exact Or.inr rfl | exact List.mem_cons_self | exact bytes_cell (by omega) | exact fun _ => bytes_cell (by omega) | (simp +contextual only [go_sem]; done) | fail, ?_⟩
    refine h7 _ _ ?_
    clear h7
    refine AWp_seq fun K8 h8 => ?_
    refine AWp_seq fun K9 h9 => ?_
    refine AWp_region tab_ok [] ?_
    simp only [go_sem, reduceIte, Nat.reduceEqDiff, Nat.reduceLT, decide_true, reduceCtorEq, Nat.reduceAdd, Nat.reduceBEq, Nat.reduceMul, Nat.reduceLeDiff, Int.reduceToNat, nB1_B0, nB1_B0.symm]
    repeat refine ⟨by first | assumption | omega | exact True.intro | exact rfl | exact bts_cells _ | exact bts_cell (by omega) | exact fun _ => bts_cell (by omega) | exact ints_cells _ | exact bytes_cells _ | exact Or.inr rfl | exact List.mem_cons_self | exact bytes_cell (by omega) | exact fun _ => bytes_cell (by omega) | (simp +contextual only [go_sem]; done) | fail, ?_⟩
    refine h9 _ _ ?_
    clear h9
    refine AWp_block ?_
    refine AWp_top [.sc (.int .i64 btZero.a0), .sc (.int .i64 btZero.a1), .sc (.bool btZero.clear), .sc (.int .i64 btZero.a3), .sc (.int .i64 btZero.a4), .sc (.int .i64 btZero.a5), .lst 0 (ints btZero.ids)] ⟨.inl rfl, .inl rfl, .inl rfl, .inl rfl, .inl rfl, .inl rfl, .inr (.inl ⟨_, rfl, rfl⟩), trivial⟩ ?_
    refine AWp_loop_ind (ι := (Nat)) (fun (i : Nat) => [(33, .sc (.int .i64 i)), (32, .sc (.int .i64 l.length)), (31, .lst 0 (bts l)), (6, .sc (.pointer (some ⟨B0, 0, none⟩))), (7, .sc (.pointer (some ⟨B1, 0, none⟩)))]) (fun (i : Nat) => (hsets H [(B0, (.cells [.lst 1 (bytes ((wrTo btZero (putL ([], false) [1, frame, (l.length : Int)]) (l.take (i))).2.1)), .sc (.bool ((wrTo btZero (putL ([], false) [1, frame, (l.length : Int)]) (l.take (i))).2.2))])), (B1, (.cells [.sc (.int .i64 (wrTo btZero (putL ([], false) [1, frame, (l.length : Int)]) (l.take (i))).1.a0), .sc (.int .i64 (wrTo btZero (putL ([], false) [1, frame, (l.length : Int)]) (l.take (i))).1.a1), .sc (.bool (wrTo btZero (putL ([], false) [1, frame, (l.length : Int)]) (l.take (i))).1.clear), .sc (.int .i64 (wrTo btZero (putL ([], false) [1, frame, (l.length : Int)]) (l.take (i))).1.a3), .sc (.int .i64 (wrTo btZero (putL ([], false) [1, frame, (l.length : Int)]) (l.take (i))).1.a4), .sc (.int .i64 (wrTo btZero (putL ([], false) [1, frame, (l.length : Int)]) (l.take (i))).1.a5), .lst 0 (ints (wrTo btZero (putL ([], false) [1, frame, (l.length : Int)]) (l.take (i))).1.ids)]))])) (fun (i : Nat) => (i ≤ l.length)) (fun (i : Nat) => l.length - i) 0 ?_ ?_ ?_ ?_
    · first | omega | exact True.intro | simp
    · (try dsimp only); exact (hweakL (by repeat (first | exact Fr_refl _ _ | refine Fr_new (by assumption) ?_ | refine Fr_old (by simp only [List.map_cons, List.mem_cons, true_or, or_true]) ?_)) (by rw [List.take_zero]; simp only [go_sem, reduceIte, Nat.reduceEqDiff, Nat.reduceLT, decide_true, reduceCtorEq, Nat.reduceAdd, Nat.reduceBEq, Nat.reduceMul, Nat.reduceLeDiff, Int.reduceToNat, nB1_B0, nB1_B0.symm]; first | done | exact True.intro | (repeat' apply And.intro) <;> first | rfl | exact True.intro))
    · simp only [go_sem, reduceIte, Nat.reduceEqDiff, Nat.reduceLT, decide_true, reduceCtorEq, Nat.reduceAdd, Nat.reduceBEq, Nat.reduceMul, Nat.reduceLeDiff, Int.reduceToNat, nB1_B0, nB1_B0.symm]; first | done | exact True.intro | (repeat' apply And.intro) <;> first | rfl | exact True.intro
    rintro i hi0_0 L0 hL0
    skip
    have hl1 := wrTo_len (l.take i) btZero (putL ([], false) [1, frame, (l.length : Int)]) (fun b hb => hids b (List.mem_of_mem_take hb))
    have hl0 := putL_length [1, frame, (l.length : Int)] ([], false)
    rw [List.length_take, Nat.min_eq_left hi0_0] at hl1
    simp only [List.length_cons, List.length_nil] at hl0
    refine AWp_seq fun K10 h10 => ?_
    refine AWp_region tab_ok [] ?_
    simp only [go_sem, reduceIte, Nat.reduceEqDiff, Nat.reduceLT, decide_true, reduceCtorEq, Nat.reduceAdd, Nat.reduceBEq, Nat.reduceMul, Nat.reduceLeDiff, Int.reduceToNat, nB1_B0, nB1_B0.symm]
    repeat refine ⟨by first | assumption | omega | exact True.intro | exact rfl | exact bts_cells _ | exact bts_cell (by omega) | exact fun _ => bts_cell (by omega) | exact ints_cells _ | exact bytes_cells _ | exact Or.inr rfl | exact List.mem_cons_self | exact bytes_cell (by omega) | exact fun _ => bytes_cell (by omega) | (simp +contextual only [go_sem]; done) | fail, ?_⟩
    refine h10 _ _ ?_
    clear h10
    refine AWp_seq fun K11 h11 => ?_
    refine AWp_if fun kk hkk => ?_
    simp only [go_sem, reduceIte, Nat.reduceEqDiff, Nat.reduceLT, decide_true, reduceCtorEq, Nat.reduceAdd, Nat.reduceBEq, Nat.reduceMul, Nat.reduceLeDiff, Int.reduceToNat, nB1_B0, nB1_B0.symm]
    repeat refine ⟨by first | assumption | omega | exact True.intro | exact rfl | exact bts_cells _ | exact bts_cell (by omega) | exact fun _ => bts_cell (by omega) | exact ints_cells _ | exact bytes_cells _ | exact Or.inr rfl | exact List.mem_cons_self | exact bytes_cell (by omega) | exact fun _ => bytes_cell (by omega) | (simp +contextual only [go_sem]; done) | fail, ?_⟩
    refine hkk _ (fun hb1 => ?_) (fun hb1 => ?_) <;> clear hkk kk
    · try simp only [bne_iff_ne, ne_eq, bne_eq_false_iff_eq, beq_iff_eq, beq_eq_false_iff_ne, decide_eq_true_eq, decide_eq_false_iff_not, Bool.not_eq_true', Bool.not_eq_false', Bool.and_eq_true, Bool.and_eq_false_iff, Bool.or_eq_true, Bool.or_eq_false_iff, Int.natCast_inj, not_true_eq_false, not_false_eq_true] at hb1
      refine AWp_skip ?_
      refine h11 _ _ ?_
      refine AWp_seq fun K12 h12 => ?_
      refine AWp_block ?_
      refine AWp_seq fun K13 h13 => ?_
      refine AWp_region tab_ok [] ?_
      simp only [go_sem, reduceIte, Nat.reduceEqDiff, Nat.reduceLT, decide_true, reduceCtorEq, Nat.reduceAdd, Nat.reduceBEq, Nat.reduceMul, Nat.reduceLeDiff, Int.reduceToNat, nB1_B0, nB1_B0.symm]
      try simp (disch := omega) only [bts_get]
      try simp only [go_sem, reduceIte, Nat.reduceEqDiff, Nat.reduceLT, decide_true, reduceCtorEq, Nat.reduceAdd, Nat.reduceBEq, Nat.reduceMul, Nat.reduceLeDiff, Int.reduceToNat, nB1_B0, nB1_B0.symm]
      repeat refine ⟨by first | assumption | omega | exact True.intro | exact rfl | exact bts_cells _ | exact bts_cell (by omega) | exact fun _ => bts_cell (by omega) | exact ints_cells _ | exact bytes_cells _ | exact Or.inr rfl | exact List.mem_cons_self | exact bytes_cell (by omega) | exact fun _ => bytes_cell (by omega) | (simp +contextual only [go_sem]; done) | fail, ?_⟩
      refine fun B2 hB2 => ?_
      have nB2_B0 : B2 ≠ B0 := fun hh => by rw [hh] at hB2; revert hB2; (try simp only [hset]); (repeat' split) <;> simp_all
      have nB2_B1 : B2 ≠ B1 := fun hh => by rw [hh] at hB2; revert hB2; (try simp only [hset]); (repeat' split) <;> simp_all
      repeat (first | replace hB2 := ite_none hB2 | replace hB2 := hset_none hB2)
      try simp only [go_sem, reduceIte, Nat.reduceEqDiff, Nat.reduceLT, decide_true, reduceCtorEq, Nat.reduceAdd, Nat.reduceBEq, Nat.reduceMul, Nat.reduceLeDiff, Int.reduceToNat, nB1_B0, nB1_B0.symm, nB2_B0, nB2_B0.symm, nB2_B1, nB2_B1.symm]
      repeat refine ⟨by first | assumption | omega | exact True.intro | exact rfl | exact bts_cells _ | exact bts_cell (by omega) | exact fun _ => bts_cell (by omega) | exact ints_cells _ | exact bytes_cells _ | exact Or.inr rfl | exact List.mem_cons_self | exact bytes_cell (by omega) | exact fun _ => bytes_cell (by omega) | (simp +contextual only [go_sem]; done) | fail, ?_⟩
      refine h13 _ _ ?_
      clear h13
      refine AWp_seq fun K14 h14 => ?_
      refine AWp_region tab_ok [] ?_
      simp only [go_sem, reduceIte, Nat.reduceEqDiff, Nat.reduceLT, decide_true, reduceCtorEq, Nat.reduceAdd, Nat.reduceBEq, Nat.reduceMul, Nat.reduceLeDiff, Int.reduceToNat, nB1_B0, nB1_B0.symm, nB2_B0, nB2_B0.symm, nB2_B1, nB2_B1.symm]
      repeat refine ⟨by first | assumption | omega | exact True.intro | exact rfl | exact bts_cells _ | exact bts_cell (by omega) | exact fun _ => bts_cell (by omega) | exact ints_cells _ | exact bytes_cells _ | exact Or.inr rfl | exact List.mem_cons_self | exact bytes_cell (by omega) | exact fun _ => bytes_cell (by omega) | (simp +contextual only [go_sem]; done) | fail, ?_⟩
      refine write_spec _ _ _ (wrTo btZero (putL ([], false) [1, frame, (l.length : Int)]) (l.take (i))).2 (wrTo btZero (putL ([], false) [1, frame, (l.length : Int)]) (l.take (i))).1 l[i] (by simp only [go_sem, reduceIte, Nat.reduceEqDiff, Nat.reduceLT, decide_true, reduceCtorEq, Nat.reduceAdd, Nat.reduceBEq, Nat.reduceMul, Nat.reduceLeDiff, Int.reduceToNat, nB1_B0, nB1_B0.symm, nB2_B0, nB2_B0.symm, nB2_B1, nB2_B1.symm]) (by omega) (hids _ (List.getElem_mem (by omega))) ?_
      simp only [callK]
      simp only [go_sem, reduceIte, Nat.reduceEqDiff, Nat.reduceLT, decide_true, reduceCtorEq, Nat.reduceAdd, Nat.reduceBEq, Nat.reduceMul, Nat.reduceLeDiff, Int.reduceToNat, nB1_B0, nB1_B0.symm, nB2_B0, nB2_B0.symm, nB2_B1, nB2_B1.symm]
      repeat refine ⟨by first | assumption | omega | exact True.intro | exact rfl | exact bts_cells _ | exact bts_cell (by omega) | exact fun _ => bts_cell (by omega) | exact ints_cells _ | exact bytes_cells _ | exact Or.inr rfl | exact List.mem_cons_self | exact bytes_cell (by omega) | exact fun _ => bytes_cell (by omega) | (simp +contextual only [go_sem]; done) | fail, ?_⟩
      refine h14 _ _ ?_
      clear h14
      refine AWp_region tab_ok [] ?_
      simp only [go_sem, reduceIte, Nat.reduceEqDiff, Nat.reduceLT, decide_true, reduceCtorEq, Nat.reduceAdd, Nat.reduceBEq, Nat.reduceMul, Nat.reduceLeDiff, Int.reduceToNat, nB1_B0, nB1_B0.symm, nB2_B0, nB2_B0.symm, nB2_B1, nB2_B1.symm]
      repeat refine ⟨by first | assumption | omega | exact True.intro | exact rfl | exact bts_cells _ | exact bts_cell (by omega) | exact fun _ => bts_cell (by omega) | exact ints_cells _ | exact bytes_cells _ | exact Or.inr rfl | exact List.mem_cons_self | exact bytes_cell (by omega) | exact fun _ => bytes_cell (by omega) | (simp +contextual only [go_sem]; done) | fail, ?_⟩
      refine h12 _ _ ?_
      refine AWp_region tab_ok [] ?_
      simp only [go_sem, reduceIte, Nat.reduceEqDiff, Nat.reduceLT, decide_true, reduceCtorEq, Nat.reduceAdd, Nat.reduceBEq, Nat.reduceMul, Nat.reduceLeDiff, Int.reduceToNat, nB1_B0, nB1_B0.symm, nB2_B0, nB2_B0.symm, nB2_B1, nB2_B1.symm]
      try simp (disch := omega) only [wrap64]
      repeat refine ⟨by first | assumption | omega | exact True.intro | exact rfl | exact bts_cells _ | exact bts_cell (by omega) | exact fun _ => bts_cell (by omega) | exact ints_cells _ | exact bytes_cells _ | exact Or.inr rfl | exact List.mem_cons_self | exact bytes_cell (by omega) | exact fun _ => bytes_cell (by omega) | (simp +contextual only [go_sem]; done) | fail, ?_⟩
      refine hL0 (i + 1) _ _ ?_ ?_ (by (try dsimp only); exact hweakL (by repeat (first | exact Fr_refl _ _ | refine Fr_new (by assumption) ?_ | refine Fr_old (by simp only [List.map_cons, List.mem_cons, true_or, or_true]) ?_)) (by rw [wrTo_succ _ _ _ (by omega)]; simp only [go_sem, reduceIte, Nat.reduceEqDiff, Nat.reduceLT, decide_true, reduceCtorEq, Nat.reduceAdd, Nat.reduceBEq, Nat.reduceMul, Nat.reduceLeDiff, Int.reduceToNat, nB1_B0, nB1_B0.symm, nB2_B0, nB2_B0.symm, nB2_B1, nB2_B1.symm]; first | done | exact True.intro | (repeat' apply And.intro) <;> first | rfl | exact True.intro)) ?_
      · first | omega | exact True.intro | (refine ⟨?_, ?_⟩ <;> first | omega | simp)
      · omega
      · simp only [go_sem, reduceIte, Nat.reduceEqDiff, Nat.reduceLT, decide_true, reduceCtorEq, Nat.reduceAdd, Nat.reduceBEq, Nat.reduceMul, Nat.reduceLeDiff, Int.reduceToNat, nB1_B0, nB1_B0.symm, nB2_B0, nB2_B0.symm, nB2_B1, nB2_B1.symm]; first | done | exact True.intro | (repeat' apply And.intro) <;> first | rfl | exact True.intro
    · try simp only [bne_iff_ne, ne_eq, bne_eq_false_iff_eq, beq_iff_eq, beq_eq_false_iff_ne, decide_eq_true_eq, decide_eq_false_iff_not, Bool.not_eq_true', Bool.not_eq_false', Bool.and_eq_true, Bool.and_eq_false_iff, Bool.or_eq_true, Bool.or_eq_false_iff, Int.natCast_inj, not_true_eq_false, not_false_eq_true] at hb1
      refine AWp_exit ?_
      refine h8 _ _ ?_
      refine AWp_seq fun K15 h15 => ?_
      refine AWp_region tab_ok [] ?_
      simp only [go_sem, reduceIte, Nat.reduceEqDiff, Nat.reduceLT, decide_true, reduceCtorEq, Nat.reduceAdd, Nat.reduceBEq, Nat.reduceMul, Nat.reduceLeDiff, Int.reduceToNat, nB1_B0, nB1_B0.symm]
      repeat refine ⟨by first | assumption | omega | exact True.intro | exact rfl | exact bts_cells _ | exact bts_cell (by omega) | exact fun _ => bts_cell (by omega) | exact ints_cells _ | exact bytes_cells _ | exact Or.inr rfl | exact List.mem_cons_self | exact bytes_cell (by omega) | exact fun _ => bytes_cell (by omega) | (simp +contextual only [go_sem]; done) | fail, ?_⟩
      refine wbytes_spec _ _ _ (wrTo btZero (putL ([], false) [1, frame, (l.length : Int)]) (l.take (i))).2 (by simp only [go_sem, reduceIte, Nat.reduceEqDiff, Nat.reduceLT, decide_true, reduceCtorEq, Nat.reduceAdd, Nat.reduceBEq, Nat.reduceMul, Nat.reduceLeDiff, Int.reduceToNat, nB1_B0, nB1_B0.symm]) (by omega) ?_
      simp only [callK]
      simp only [go_sem, reduceIte, Nat.reduceEqDiff, Nat.reduceLT, decide_true, reduceCtorEq, Nat.reduceAdd, Nat.reduceBEq, Nat.reduceMul, Nat.reduceLeDiff, Int.reduceToNat, nB1_B0, nB1_B0.symm]
      repeat refine ⟨by first | assumption | omega | exact True.intro | exact rfl | exact bts_cells _ | exact bts_cell (by omega) | exact fun _ => bts_cell (by omega) | exact ints_cells _ | exact bytes_cells _ | exact Or.inr rfl | exact List.mem_cons_self | exact bytes_cell (by omega) | exact fun _ => bytes_cell (by omega) | (simp +contextual only [go_sem]; done) | fail, ?_⟩
      refine h15 _ _ ?_
      clear h15
      refine AWp_seq fun K16 h16 => ?_
      refine AWp_region tab_ok [2] ?_
      simp only [go_sem, reduceIte, Nat.reduceEqDiff, Nat.reduceLT, decide_true, reduceCtorEq, Nat.reduceAdd, Nat.reduceBEq, Nat.reduceMul, Nat.reduceLeDiff, Int.reduceToNat, nB1_B0, nB1_B0.symm]
      repeat refine ⟨by first | assumption | omega | exact True.intro | exact rfl | exact bts_cells _ | exact bts_cell (by omega) | exact fun _ => bts_cell (by omega) | exact ints_cells _ | exact bytes_cells _ | exact Or.inr rfl | exact List.mem_cons_self | exact bytes_cell (by omega) | exact fun _ => bytes_cell (by omega) | (simp +contextual only [go_sem]; done) | fail, ?_⟩
      refine seal_spec _ _ _ (by split <;> first | omega | simp) ?_
      simp only [callK]
      simp only [go_sem, reduceIte, Nat.reduceEqDiff, Nat.reduceLT, decide_true, reduceCtorEq, Nat.reduceAdd, Nat.reduceBEq, Nat.reduceMul, Nat.reduceLeDiff, Int.reduceToNat, nB1_B0, nB1_B0.symm]
      repeat refine ⟨by first | assumption | omega | exact True.intro | exact rfl | exact bts_cells _ | exact bts_cell (by omega) | exact fun _ => bts_cell (by omega) | exact ints_cells _ | exact bytes_cells _ | exact Or.inr rfl | exact List.mem_cons_self | exact bytes_cell (by omega) | exact fun _ => bytes_cell (by omega) | (simp +contextual only [go_sem]; done) | fail, ?_⟩
      refine h16 _ _ ?_
      clear h16
      refine AWp_fzE (l := [.tmp 4, .tmp 5]) ?_
      refine AWp_ret ?_
      refine retQ_mk H (by first | exact fun _ _ h => h | assumption | exact Fr_weak (by repeat (first | exact Fr_refl _ _ | refine Fr_new (by assumption) ?_ | refine Fr_old (by simp only [List.map_cons, List.mem_cons, true_or, or_true]) ?_))) (.inr rfl) ?_
      simp only [go_sem, reduceIte, Nat.reduceEqDiff, Nat.reduceLT, decide_true, reduceCtorEq, Nat.reduceAdd, Nat.reduceBEq, Nat.reduceMul, Nat.reduceLeDiff, Int.reduceToNat, nB1_B0, nB1_B0.symm]
      repeat refine ⟨by first | assumption | omega | exact True.intro | exact rfl | exact bts_cells _ | exact bts_cell (by omega) | exact fun _ => bts_cell (by omega) | exact ints_cells _ | exact bytes_cells _ | exact Or.inr rfl | exact List.mem_cons_self | exact bytes_cell (by omega) | exact fun _ => bytes_cell (by omega) | (simp +contextual only [go_sem]; done) | fail, ?_⟩
      obtain rfl : i = l.length := by omega
      rw [List.take_length] at *
      rw [show allOf frame l = (if (wrTo btZero (putL ([], false) [1, frame, (l.length : Int)]) l).2.2 then (sealed [], 1) else (sealed (wrTo btZero (putL ([], false) [1, frame, (l.length : Int)]) l).2.1, 0)) from by rw [allOf, if_neg (by simp [hex])]; rfl] at hK
      split at hK <;> rename_i hw <;> simp only [hw, if_true, if_false, Bool.false_eq_true, reduceIte] <;> exact hK

theorem encode_spec (H : Hp) (K : AV → Hp → Prop) (frame : Int) (l : List Bt) (h_0 : l.length ≤ 65536) (h_1 : ∀ b ∈ l, b.ids.length < 2^63) (hK : K (.tup [.lst 0 (bytes (encodeOf frame l).1), .sc (.int .i64 (encodeOf frame l).2)]) H) :
    ACalls Go.Proofs.Try.prog 18 [.sc (.int .i64 frame), .lst 0 (bts l)] H K := by
  refine ACalls_fn tab_ok Go.Proofs.Try.func18 23 [.tmp 4, .tmp 5] rfl rfl rfl rfl fun d => ?_
  refine AWp_seq fun K1 h1 => ?_
  refine AWp_region tab_ok [] ?_
  simp only [go_sem, reduceIte, Nat.reduceEqDiff, Nat.reduceLT, decide_true, reduceCtorEq, Nat.reduceAdd, Nat.reduceBEq, Nat.reduceMul, Nat.reduceLeDiff, Int.reduceToNat]
  repeat refine ⟨by first | assumption | omega | exact True.intro | exact rfl | exact List.mem_cons_self | exact bytes_cell (by omega) | exact fun _ => bytes_cell (by omega) | (simp +contextual only [go_sem]; done) | fail, ?_⟩
  refine h1 _ _ ?_
  clear h1
  refine AWp_seq fun K2 h2 => ?_
  refine AWp_region tab_ok [] ?_
  simp only [go_sem, reduceIte, Nat.reduceEqDiff, Nat.reduceLT, decide_true, reduceCtorEq, Nat.reduceAdd, Nat.reduceBEq, Nat.reduceMul, Nat.reduceLeDiff, Int.reduceToNat]
  repeat refine ⟨by first | assumption | omega | exact True.intro | exact rfl | exact List.mem_cons_self | exact bytes_cell (by omega) | exact fun _ => bytes_cell (by omega) | (simp +contextual only [go_sem]; done) | fail, ?_⟩
  refine all_spec _ _ _ _ (by (first | assumption | omega | exact True.intro | (simp only [go_sem, reduceIte, Nat.reduceEqDiff, Nat.reduceLT, decide_true, reduceCtorEq, Nat.reduceAdd, Nat.reduceBEq, Nat.reduceMul, Nat.reduceLeDiff, Int.reduceToNat] <;> rfl))) (by (first | assumption | omega | exact True.intro | (simp only [go_sem, reduceIte, Nat.reduceEqDiff, Nat.reduceLT, decide_true, reduceCtorEq, Nat.reduceAdd, Nat.reduceBEq, Nat.reduceMul, Nat.reduceLeDiff, Int.reduceToNat] <;> rfl))) ?_
  simp only [callK]
  simp only [go_sem, reduceIte, Nat.reduceEqDiff, Nat.reduceLT, decide_true, reduceCtorEq, Nat.reduceAdd, Nat.reduceBEq, Nat.reduceMul, Nat.reduceLeDiff, Int.reduceToNat]
  repeat refine ⟨by first | assumption | omega | exact True.intro | exact rfl | exact List.mem_cons_self | exact bytes_cell (by omega) | exact fun _ => bytes_cell (by omega) | (simp +contextual only [go_sem]; done) | fail, ?_⟩
  refine h2 _ _ ?_
  clear h2
  refine AWp_seq fun K3 h3 => ?_
  refine AWp_block ?_
  refine AWp_seq fun K4 h4 => ?_
  refine AWp_region tab_ok [] ?_
  simp only [go_sem, reduceIte, Nat.reduceEqDiff, Nat.reduceLT, decide_true, reduceCtorEq, Nat.reduceAdd, Nat.reduceBEq, Nat.reduceMul, Nat.reduceLeDiff, Int.reduceToNat]
  repeat refine ⟨by first | assumption | omega | exact True.intro | exact rfl | exact List.mem_cons_self | exact bytes_cell (by omega) | exact fun _ => bytes_cell (by omega) | (simp +contextual only [go_sem]; done) | fail, ?_⟩
  refine h4 _ _ ?_
  clear h4
  refine AWp_if fun kk hkk => ?_
  simp only [go_sem, reduceIte, Nat.reduceEqDiff, Nat.reduceLT, decide_true, reduceCtorEq, Nat.reduceAdd, Nat.reduceBEq, Nat.reduceMul, Nat.reduceLeDiff, Int.reduceToNat]
  repeat refine ⟨by first | assumption | omega | exact True.intro | exact rfl | exact List.mem_cons_self | exact bytes_cell (by omega) | exact fun _ => bytes_cell (by omega) | (simp +contextual only [go_sem]; done) | fail, ?_⟩
  refine hkk _ (fun hb0 => ?_) (fun hb0 => ?_) <;> clear hkk kk
  · try simp only [bne_iff_ne, ne_eq, bne_eq_false_iff_eq, beq_iff_eq, beq_eq_false_iff_ne, decide_eq_true_eq, decide_eq_false_iff_not, Bool.not_eq_true', Bool.not_eq_false', Bool.and_eq_true, Bool.and_eq_false_iff, Bool.or_eq_true, Bool.or_eq_false_iff, Int.natCast_inj, not_true_eq_false, not_false_eq_true] at hb0
    refine AWp_seq fun K5 h5 => ?_
    refine AWp_region tab_ok [0] ?_
    simp only [go_sem, reduceIte, Nat.reduceEqDiff, Nat.reduceLT, decide_true, reduceCtorEq, Nat.reduceAdd, Nat.reduceBEq, Nat.reduceMul, Nat.reduceLeDiff, Int.reduceToNat]
    repeat refine ⟨by first | assumption | omega | exact True.intro | exact rfl | exact List.mem_cons_self | exact bytes_cell (by omega) | exact fun _ => bytes_cell (by omega) | (simp +contextual only [go_sem]; done) | fail, ?_⟩
    refine h5 _ _ ?_
    clear h5
    refine AWp_fzE (l := [.tmp 4, .tmp 5]) ?_
    refine AWp_ret ?_
    refine retQ_ret ?_
    simp only [go_sem, reduceIte, Nat.reduceEqDiff, Nat.reduceLT, decide_true, reduceCtorEq, Nat.reduceAdd, Nat.reduceBEq, Nat.reduceMul, Nat.reduceLeDiff, Int.reduceToNat]
    repeat refine ⟨by first | assumption | omega | exact True.intro | exact rfl | exact List.mem_cons_self | exact bytes_cell (by omega) | exact fun _ => bytes_cell (by omega) | (simp +contextual only [go_sem]; done) | fail, ?_⟩
    rw [show encodeOf frame l = ([], (allOf frame l).2) from if_pos hb0] at hK
    exact hK
  · try simp only [bne_iff_ne, ne_eq, bne_eq_false_iff_eq, beq_iff_eq, beq_eq_false_iff_ne, decide_eq_true_eq, decide_eq_false_iff_not, Bool.not_eq_true', Bool.not_eq_false', Bool.and_eq_true, Bool.and_eq_false_iff, Bool.or_eq_true, Bool.or_eq_false_iff, Int.natCast_inj, not_true_eq_false, not_false_eq_true] at hb0
    refine AWp_seq fun K6 h6 => ?_
    refine AWp_region tab_ok [] ?_
    simp only [go_sem, reduceIte, Nat.reduceEqDiff, Nat.reduceLT, decide_true, reduceCtorEq, Nat.reduceAdd, Nat.reduceBEq, Nat.reduceMul, Nat.reduceLeDiff, Int.reduceToNat]
    repeat refine ⟨by first | assumption | omega | exact True.intro | exact rfl | exact List.mem_cons_self | exact bytes_cell (by omega) | exact fun _ => bytes_cell (by omega) | (simp +contextual only [go_sem]; done) | fail, ?_⟩
    refine h6 _ _ ?_
    clear h6
    refine AWp_if fun kk hkk => ?_
    simp only [go_sem, reduceIte, Nat.reduceEqDiff, Nat.reduceLT, decide_true, reduceCtorEq, Nat.reduceAdd, Nat.reduceBEq, Nat.reduceMul, Nat.reduceLeDiff, Int.reduceToNat]
    repeat refine ⟨by first | assumption | omega | exact True.intro | exact rfl | exact List.mem_cons_self | exact bytes_cell (by omega) | exact fun _ => bytes_cell (by omega) | (simp +contextual only [go_sem]; done) | fail, ?_⟩
    refine hkk _ (fun hb1 => ?_) (fun hb1 => ?_) <;> clear hkk kk
    · try simp only [bne_iff_ne, ne_eq, bne_eq_false_iff_eq, beq_iff_eq, beq_eq_false_iff_ne, decide_eq_true_eq, decide_eq_false_iff_not, Bool.not_eq_true', Bool.not_eq_false', Bool.and_eq_true, Bool.and_eq_false_iff, Bool.or_eq_true, Bool.or_eq_false_iff, Int.natCast_inj, not_true_eq_false, not_false_eq_true] at hb1
      refine AWp_seq fun K7 h7 => ?_
      refine AWp_region tab_ok [] ?_
      simp only [go_sem, reduceIte, Nat.reduceEqDiff, Nat.reduceLT, decide_true, reduceCtorEq, Nat.reduceAdd, Nat.reduceBEq, Nat.reduceMul, Nat.reduceLeDiff, Int.reduceToNat]
      repeat refine ⟨by first | assumption | omega | exact True.intro | exact rfl | exact List.mem_cons_self | exact bytes_cell (by omega) | exact fun _ => bytes_cell (by omega) | (simp +contextual only [go_sem]; done) | fail, ?_⟩
      refine h7 _ _ ?_
      clear h7
      refine AWp_fzE (l := [.tmp 4, .tmp 5]) ?_
      refine AWp_ret ?_
      refine retQ_ret ?_
      simp only [go_sem, reduceIte, Nat.reduceEqDiff, Nat.reduceLT, decide_true, reduceCtorEq, Nat.reduceAdd, Nat.reduceBEq, Nat.reduceMul, Nat.reduceLeDiff, Int.reduceToNat]
      repeat refine ⟨by first | assumption | omega | exact True.intro | exact rfl | exact List.mem_cons_self | exact bytes_cell (by omega) | exact fun _ => bytes_cell (by omega) | (simp +contextual only [go_sem]; done) | fail, ?_⟩
      rw [show encodeOf frame l = ([], 3) from by rw [encodeOf, if_neg (by simpa using hb0), if_pos (by omega)]] at hK
      exact hK
    · try simp only [bne_iff_ne, ne_eq, bne_eq_false_iff_eq, beq_iff_eq, beq_eq_false_iff_ne, decide_eq_true_eq, decide_eq_false_iff_not, Bool.not_eq_true', Bool.not_eq_false', Bool.and_eq_true, Bool.and_eq_false_iff, Bool.or_eq_true, Bool.or_eq_false_iff, Int.natCast_inj, not_true_eq_false, not_false_eq_true] at hb1
      refine AWp_skip ?_
      refine h3 _ _ ?_
      refine AWp_seq fun K8 h8 => ?_
      refine AWp_region tab_ok [0] ?_
      simp only [go_sem, reduceIte, Nat.reduceEqDiff, Nat.reduceLT, decide_true, reduceCtorEq, Nat.reduceAdd, Nat.reduceBEq, Nat.reduceMul, Nat.reduceLeDiff, Int.reduceToNat]
      repeat refine ⟨by first | assumption | omega | exact True.intro | exact rfl | exact List.mem_cons_self | exact bytes_cell (by omega) | exact fun _ => bytes_cell (by omega) | (simp +contextual only [go_sem]; done) | fail, ?_⟩
      refine h8 _ _ ?_
      clear h8
      refine AWp_fzE (l := [.tmp 4, .tmp 5]) ?_
      refine AWp_ret ?_
      refine retQ_ret ?_
      simp only [go_sem, reduceIte, Nat.reduceEqDiff, Nat.reduceLT, decide_true, reduceCtorEq, Nat.reduceAdd, Nat.reduceBEq, Nat.reduceMul, Nat.reduceLeDiff, Int.reduceToNat]
      repeat refine ⟨by first | assumption | omega | exact True.intro | exact rfl | exact List.mem_cons_self | exact bytes_cell (by omega) | exact fun _ => bytes_cell (by omega) | (simp +contextual only [go_sem]; done) | fail, ?_⟩
      rw [show encodeOf frame l = ((allOf frame l).1, 0) from by rw [encodeOf, if_neg (by simpa using hb0), if_neg (by omega)]] at hK
      exact hK

theorem size_spec (H : Hp) (K : AV → Hp → Prop) (l : List Bt) (h_0 : l.length ≤ 65536) (h_1 : ∀ b ∈ l, b.ids.length < 2^63) (hK : K (.sc (.int .i64 (if (allOf 0 l).2 ≠ 0 then 0 else ((allOf 0 l).1.length : Int)))) H) :
    ACalls Go.Proofs.Try.prog 63 [.lst 0 (bts l)] H K := by
  refine ACalls_fn tab_ok Go.Proofs.Try.func63 14 [.tmp 2] rfl rfl rfl rfl fun d => ?_
  refine AWp_seq fun K1 h1 => ?_
  refine AWp_region tab_ok [] ?_
  simp only [go_sem, reduceIte, Nat.reduceEqDiff, Nat.reduceLT, decide_true, reduceCtorEq, Nat.reduceAdd, Nat.reduceBEq, Nat.reduceMul, Nat.reduceLeDiff, Int.reduceToNat]
  repeat refine ⟨by first | assumption | omega | exact True.intro | exact rfl | exact List.mem_cons_self | exact bytes_cell (by omega) | exact fun _ => bytes_cell (by omega) | (simp +contextual only [go_sem]; done) | fail, ?_⟩
  refine h1 _ _ ?_
  clear h1
  refine AWp_seq fun K2 h2 => ?_
  refine AWp_region tab_ok [] ?_
  simp only [go_sem, reduceIte, Nat.reduceEqDiff, Nat.reduceLT, decide_true, reduceCtorEq, Nat.reduceAdd, Nat.reduceBEq, Nat.reduceMul, Nat.reduceLeDiff, Int.reduceToNat]
  repeat refine ⟨by first | assumption | omega | exact True.intro | exact rfl | exact List.mem_cons_self | exact bytes_cell (by omega) | exact fun _ => bytes_cell (by omega) | (simp +contextual only [go_sem]; done) | fail, ?_⟩
  refine all_spec _ _ _ _ (by (first | assumption | omega | exact True.intro | (simp only [go_sem, reduceIte, Nat.reduceEqDiff, Nat.reduceLT, decide_true, reduceCtorEq, Nat.reduceAdd, Nat.reduceBEq, Nat.reduceMul, Nat.reduceLeDiff, Int.reduceToNat] <;> rfl))) (by (first | assumption | omega | exact True.intro | (simp only [go_sem, reduceIte, Nat.reduceEqDiff, Nat.reduceLT, decide_true, reduceCtorEq, Nat.reduceAdd, Nat.reduceBEq, Nat.reduceMul, Nat.reduceLeDiff, Int.reduceToNat] <;> rfl))) ?_
  simp only [callK]
  simp only [go_sem, reduceIte, Nat.reduceEqDiff, Nat.reduceLT, decide_true, reduceCtorEq, Nat.reduceAdd, Nat.reduceBEq, Nat.reduceMul, Nat.reduceLeDiff, Int.reduceToNat]
  repeat refine ⟨by first | assumption | omega | exact True.intro | exact rfl | exact List.mem_cons_self | exact bytes_cell (by omega) | exact fun _ => bytes_cell (by omega) | (simp +contextual only [go_sem]; done) | fail, ?_⟩
  refine h2 _ _ ?_
  clear h2
  refine AWp_seq fun K3 h3 => ?_
  refine AWp_seq fun K4 h4 => ?_
  refine AWp_region tab_ok [] ?_
  simp only [go_sem, reduceIte, Nat.reduceEqDiff, Nat.reduceLT, decide_true, reduceCtorEq, Nat.reduceAdd, Nat.reduceBEq, Nat.reduceMul, Nat.reduceLeDiff, Int.reduceToNat]
  repeat refine ⟨by first | assumption | omega | exact True.intro | exact rfl | exact List.mem_cons_self | exact bytes_cell (by omega) | exact fun _ => bytes_cell (by omega) | (simp +contextual only [go_sem]; done) | fail, ?_⟩
  refine h4 _ _ ?_
  clear h4
  refine AWp_if fun kk hkk => ?_
  simp only [go_sem, reduceIte, Nat.reduceEqDiff, Nat.reduceLT, decide_true, reduceCtorEq, Nat.reduceAdd, Nat.reduceBEq, Nat.reduceMul, Nat.reduceLeDiff, Int.reduceToNat]
  repeat refine ⟨by first | assumption | omega | exact True.intro | exact rfl | exact List.mem_cons_self | exact bytes_cell (by omega) | exact fun _ => bytes_cell (by omega) | (simp +contextual only [go_sem]; done) | fail, ?_⟩
  refine hkk _ (fun hb0 => ?_) (fun hb0 => ?_) <;> clear hkk kk
  · try simp only [bne_iff_ne, ne_eq, bne_eq_false_iff_eq, beq_iff_eq, beq_eq_false_iff_ne, decide_eq_true_eq, decide_eq_false_iff_not, Bool.not_eq_true', Bool.not_eq_false', Bool.and_eq_true, Bool.and_eq_false_iff, Bool.or_eq_true, Bool.or_eq_false_iff, Int.natCast_inj, not_true_eq_false, not_false_eq_true] at hb0
    refine AWp_seq fun K5 h5 => ?_
    refine AWp_region tab_ok [] ?_
    simp only [go_sem, reduceIte, Nat.reduceEqDiff, Nat.reduceLT, decide_true, reduceCtorEq, Nat.reduceAdd, Nat.reduceBEq, Nat.reduceMul, Nat.reduceLeDiff, Int.reduceToNat]
    repeat refine ⟨by first | assumption | omega | exact True.intro | exact rfl | exact List.mem_cons_self | exact bytes_cell (by omega) | exact fun _ => bytes_cell (by omega) | (simp +contextual only [go_sem]; done) | fail, ?_⟩
    refine h5 _ _ ?_
    clear h5
    refine AWp_ret ?_
    refine retQ_ret ?_
    simp only [go_sem, reduceIte, Nat.reduceEqDiff, Nat.reduceLT, decide_true, reduceCtorEq, Nat.reduceAdd, Nat.reduceBEq, Nat.reduceMul, Nat.reduceLeDiff, Int.reduceToNat]
    repeat refine ⟨by first | assumption | omega | exact True.intro | exact rfl | exact List.mem_cons_self | exact bytes_cell (by omega) | exact fun _ => bytes_cell (by omega) | (simp +contextual only [go_sem]; done) | fail, ?_⟩
    rw [if_pos hb0] at hK
    exact hK
  · try simp only [bne_iff_ne, ne_eq, bne_eq_false_iff_eq, beq_iff_eq, beq_eq_false_iff_ne, decide_eq_true_eq, decide_eq_false_iff_not, Bool.not_eq_true', Bool.not_eq_false', Bool.and_eq_true, Bool.and_eq_false_iff, Bool.or_eq_true, Bool.or_eq_false_iff, Int.natCast_inj, not_true_eq_false, not_false_eq_true] at hb0
    refine AWp_skip ?_
    refine h3 _ _ ?_
    refine AWp_seq fun K6 h6 => ?_
    refine AWp_region tab_ok [] ?_
    simp only [go_sem, reduceIte, Nat.reduceEqDiff, Nat.reduceLT, decide_true, reduceCtorEq, Nat.reduceAdd, Nat.reduceBEq, Nat.reduceMul, Nat.reduceLeDiff, Int.reduceToNat]
    repeat refine ⟨by first | assumption | omega | exact True.intro | exact rfl | exact List.mem_cons_self | exact bytes_cell (by omega) | exact fun _ => bytes_cell (by omega) | (simp +contextual only [go_sem]; done) | fail, ?_⟩
    refine h6 _ _ ?_
    clear h6
    refine AWp_ret ?_
    refine retQ_ret ?_
    simp only [go_sem, reduceIte, Nat.reduceEqDiff, Nat.reduceLT, decide_true, reduceCtorEq, Nat.reduceAdd, Nat.reduceBEq, Nat.reduceMul, Nat.reduceLeDiff, Int.reduceToNat]
    repeat refine ⟨by first | assumption | omega | exact True.intro | exact rfl | exact List.mem_cons_self | exact bytes_cell (by omega) | exact fun _ => bytes_cell (by omega) | (simp +contextual only [go_sem]; done) | fail, ?_⟩
    rw [if_neg (by simpa using hb0)] at hK
    exact hK

end Go.Ab
