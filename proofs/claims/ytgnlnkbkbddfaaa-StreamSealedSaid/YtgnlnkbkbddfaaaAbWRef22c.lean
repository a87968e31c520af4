/- Ab.WRef22c: the reference's bytes of a stream, and what it reads of them. -/
import Derived.Test.YtgnlnkbkbddfaaaAbWRef22b
namespace Go.Ab
set_option maxHeartbeats 1000000
set_option linter.unusedSimpArgs false

theorem bytes22_spec (H : Hp) (K : AV → Hp → Prop) (frame : Int) (l : List Bt) (h_0 : l.length ≤ 65536) (h_1 : ∀ b ∈ l, b.ids.length ≤ 64) (hK : K (.lst 1 (bytes (bytesL frame l))) H) :
    ACalls Go.Proofs.Try.prog 73 [.sc (.int .i64 frame), .lst 0 (bts l)] H K := by
  refine ACalls_fn tab_ok Go.Proofs.Try.func73 73 [.tmp 4] rfl rfl rfl rfl fun d => ?_
  refine AWp_seq fun K1 h1 => ?_
  refine AWp_region tab_ok [] ?_
  simp only [go_sem, reduceIte, Nat.reduceEqDiff, Nat.reduceLT, decide_true, reduceCtorEq, Nat.reduceAdd, Nat.reduceBEq, Nat.reduceMul, Nat.reduceLeDiff, Int.reduceToNat]
  repeat refine ⟨by first | assumption | omega | exact True.intro | exact rfl | exact ints_cells _ | exact bts_cells _ | exact bts_cell (by omega) | exact ints_cell (by omega) | exact Or.inr rfl | (simp only [List.length_append, List.length_cons, List.length_nil, List.length_take] at *; omega) | exact List.mem_cons_self | exact bytes_cell (by omega) | exact fun _ => bytes_cell (by omega) | (simp +contextual only [go_sem]; done) | fail, ?_⟩
  refine h1 _ _ ?_
  clear h1
  refine AWp_seq fun K2 h2 => ?_
  refine AWp_region tab_ok [] ?_
  simp only [go_sem, reduceIte, Nat.reduceEqDiff, Nat.reduceLT, decide_true, reduceCtorEq, Nat.reduceAdd, Nat.reduceBEq, Nat.reduceMul, Nat.reduceLeDiff, Int.reduceToNat]
  repeat refine ⟨by first | assumption | omega | exact True.intro | exact rfl | exact ints_cells _ | exact bts_cells _ | exact bts_cell (by omega) | exact ints_cell (by omega) | exact Or.inr rfl | (simp only [List.length_append, List.length_cons, List.length_nil, List.length_take] at *; omega) | exact List.mem_cons_self | exact bytes_cell (by omega) | exact fun _ => bytes_cell (by omega) | (simp +contextual only [go_sem]; done) | fail, ?_⟩
  refine h2 _ _ ?_
  clear h2
  refine AWp_seq fun K3 h3 => ?_
  refine AWp_region tab_ok [] ?_
  simp only [go_sem, reduceIte, Nat.reduceEqDiff, Nat.reduceLT, decide_true, reduceCtorEq, Nat.reduceAdd, Nat.reduceBEq, Nat.reduceMul, Nat.reduceLeDiff, Int.reduceToNat]
  repeat refine ⟨by first | assumption | omega | exact True.intro | exact rfl | exact ints_cells _ | exact bts_cells _ | exact bts_cell (by omega) | exact ints_cell (by omega) | exact Or.inr rfl | (simp only [List.length_append, List.length_cons, List.length_nil, List.length_take] at *; omega) | exact List.mem_cons_self | exact bytes_cell (by omega) | exact fun _ => bytes_cell (by omega) | (simp +contextual only [go_sem]; done) | fail, ?_⟩
  refine fun B0 hB0 => ?_
  repeat (first | replace hB0 := ite_none hB0 | replace hB0 := hset_none hB0)
  try simp only [go_sem, reduceIte, Nat.reduceEqDiff, Nat.reduceLT, decide_true, reduceCtorEq, Nat.reduceAdd, Nat.reduceBEq, Nat.reduceMul, Nat.reduceLeDiff, Int.reduceToNat]
  repeat refine ⟨by first | assumption | omega | exact True.intro | exact rfl | exact ints_cells _ | exact bts_cells _ | exact bts_cell (by omega) | exact ints_cell (by omega) | exact Or.inr rfl | (simp only [List.length_append, List.length_cons, List.length_nil, List.length_take] at *; omega) | exact List.mem_cons_self | exact bytes_cell (by omega) | exact fun _ => bytes_cell (by omega) | (simp +contextual only [go_sem]; done) | fail, ?_⟩
  refine h3 _ _ ?_
  clear h3
  refine AWp_seq fun K4 h4 => ?_
  refine AWp_seq fun K5 h5 => ?_
  refine AWp_top [.sc (.int .i64 btZero.a0), .sc (.int .i64 btZero.a1), .sc (.bool btZero.clear), .sc (.int .i64 btZero.a3), .sc (.int .i64 btZero.a4), .sc (.int .i64 btZero.a5), .lst 0 (ints btZero.ids)] ⟨.inl rfl, .inl rfl, .inl rfl, .inl rfl, .inl rfl, .inl rfl, .inr (.inr (.inl ⟨rfl, .inl rfl⟩)), trivial⟩ ?_
  refine AWp_region tab_ok [] ?_
  simp only [go_sem, reduceIte, Nat.reduceEqDiff, Nat.reduceLT, decide_true, reduceCtorEq, Nat.reduceAdd, Nat.reduceBEq, Nat.reduceMul, Nat.reduceLeDiff, Int.reduceToNat]
  repeat refine ⟨by first | assumption | omega | exact True.intro | exact rfl | exact ints_cells _ | exact bts_cells _ | exact bts_cell (by omega) | exact ints_cell (by omega) | exact Or.inr rfl | (simp only [List.length_append, List.length_cons, List.length_nil, List.length_take] at *; omega) | exact List.mem_cons_self | exact bytes_cell (by omega) | exact fun _ => bytes_cell (by omega) | (simp +contextual only [go_sem]; done) | fail, ?_⟩
  refine h5 _ _ ?_
  clear h5
  refine AWp_block ?_
  refine AWp_loop_ind (ι := (Nat) × (Bt) × (List Int)) (fun (s : (Nat) × (Bt) × (List Int)) => match s with | (i, was, v) => [(7, .sc (.int .i64 i)), (5, .lst 2 (ints v)), (1, .lst 0 (bts l)), (0, .sc (.int .i64 frame)), (6, .sc (.pointer (some ⟨B0, 0, none⟩)))]) (fun (s : (Nat) × (Bt) × (List Int)) => match s with | (i, was, v) => (hsets H [(B0, (.cells [.sc (.int .i64 was.a0), .sc (.int .i64 was.a1), .sc (.bool was.clear), .sc (.int .i64 was.a3), .sc (.int .i64 was.a4), .sc (.int .i64 was.a5), .lst 0 (ints was.ids)]))])) (fun (s : (Nat) × (Bt) × (List Int)) => match s with | (i, was, v) => (i ≤ l.length) ∧ (numTo btZero [1, frame, (l.length : Int)] (l.take i) = (was, v)) ∧ (v.length ≤ 3 + 71 * i)) (fun (s : (Nat) × (Bt) × (List Int)) => match s with | (i, was, v) => l.length - i) (0, btZero, [1, frame, (l.length : Int)]) ?_ ?_ ?_ ?_
  · exact ⟨by omega, rfl, by simp⟩
  · (try dsimp only); exact (hweakL (by repeat (first | exact Fr_refl _ _ | refine Fr_new (by assumption) ?_ | refine Fr_old (by simp only [List.map_cons, List.mem_cons, true_or, or_true]) ?_)) (by simp only [go_sem, reduceIte, Nat.reduceEqDiff, Nat.reduceLT, decide_true, reduceCtorEq, Nat.reduceAdd, Nat.reduceBEq, Nat.reduceMul, Nat.reduceLeDiff, Int.reduceToNat]; first | done | exact True.intro | (repeat' apply And.intro) <;> first | rfl | exact True.intro))
  · simp only [go_sem, reduceIte, Nat.reduceEqDiff, Nat.reduceLT, decide_true, reduceCtorEq, Nat.reduceAdd, Nat.reduceBEq, Nat.reduceMul, Nat.reduceLeDiff, Int.reduceToNat]; first | done | exact True.intro | (repeat' apply And.intro) <;> first | rfl | exact True.intro
  rintro ⟨i, was, v⟩ ⟨hi0_0, hi0_1, hi0_2⟩ L0 hL0
  dsimp only at *
  refine AWp_seq fun K6 h6 => ?_
  refine AWp_seq fun K7 h7 => ?_
  refine AWp_region tab_ok [] ?_
  simp only [go_sem, reduceIte, Nat.reduceEqDiff, Nat.reduceLT, decide_true, reduceCtorEq, Nat.reduceAdd, Nat.reduceBEq, Nat.reduceMul, Nat.reduceLeDiff, Int.reduceToNat]
  repeat refine ⟨by first | assumption | omega | exact True.intro | exact rfl | exact ints_cells _ | exact bts_cells _ | exact bts_cell (by omega) | exact ints_cell (by omega) | exact Or.inr rfl | (simp only [List.length_append, List.length_cons, List.length_nil, List.length_take] at *; omega) | exact List.mem_cons_self | exact bytes_cell (by omega) | exact fun _ => bytes_cell (by omega) | (simp +contextual only [go_sem]; done) | fail, ?_⟩
  refine h7 _ _ ?_
  clear h7
  refine AWp_if fun kk hkk => ?_
  simp only [go_sem, reduceIte, Nat.reduceEqDiff, Nat.reduceLT, decide_true, reduceCtorEq, Nat.reduceAdd, Nat.reduceBEq, Nat.reduceMul, Nat.reduceLeDiff, Int.reduceToNat]
  repeat refine ⟨by first | assumption | omega | exact True.intro | exact rfl | exact ints_cells _ | exact bts_cells _ | exact bts_cell (by omega) | exact ints_cell (by omega) | exact Or.inr rfl | (simp only [List.length_append, List.length_cons, List.length_nil, List.length_take] at *; omega) | exact List.mem_cons_self | exact bytes_cell (by omega) | exact fun _ => bytes_cell (by omega) | (simp +contextual only [go_sem]; done) | fail, ?_⟩
  refine hkk _ (fun hb0 => ?_) (fun hb0 => ?_) <;> clear hkk kk
  · simp only [bne_iff_ne, ne_eq, bne_eq_false_iff_eq, beq_iff_eq, beq_eq_false_iff_ne, decide_eq_true_eq, decide_eq_false_iff_not, Bool.not_eq_true', Bool.not_eq_false', Bool.and_eq_true, Bool.and_eq_false_iff, Bool.or_eq_true, Bool.or_eq_false_iff, Int.natCast_inj, not_true_eq_false, not_false_eq_true] at hb0
    have hil : i < l.length := by omega
    have hids := h_1 l[i] (List.getElem_mem hil)
    have hch := chgV_len was l[i]
    refine AWp_skip ?_
    refine h6 _ _ ?_
    refine AWp_seq fun K8 h8 => ?_
    refine AWp_block ?_
    refine AWp_seq fun K9 h9 => ?_
    refine AWp_open tab_ok (by kernel_rfl) [] [(0, [B0])] [] [] rfl [] (by kernel_rfl) (by kernel_rfl) ?_ ?_
    · simp only [go_sem, reduceIte, Nat.reduceEqDiff, Nat.reduceLT, decide_true, reduceCtorEq, Nat.reduceAdd, Nat.reduceBEq, Nat.reduceMul, Nat.reduceLeDiff, Int.reduceToNat, List.mem_singleton, forall_eq]
    simp only [go_sem, reduceIte, Nat.reduceEqDiff, Nat.reduceLT, decide_true, reduceCtorEq, Nat.reduceAdd, Nat.reduceBEq, Nat.reduceMul, Nat.reduceLeDiff, Int.reduceToNat]
    try simp (disch := omega) only [bts_get, ints_get]
    try simp only [go_sem, reduceIte, Nat.reduceEqDiff, Nat.reduceLT, decide_true, reduceCtorEq, Nat.reduceAdd, Nat.reduceBEq, Nat.reduceMul, Nat.reduceLeDiff, Int.reduceToNat]
    repeat refine ⟨by first | assumption | omega | exact True.intro | exact rfl | exact ints_cells _ | exact bts_cells _ | exact bts_cell (by omega) | exact ints_cell (by omega) | exact Or.inr rfl | (simp only [List.length_append, List.length_cons, List.length_nil, List.length_take] at *; omega) | exact List.mem_cons_self | exact bytes_cell (by omega) | exact fun _ => bytes_cell (by omega) | (simp +contextual only [go_sem]; done) | fail, ?_⟩
    refine ⟨.lst 1 (ints ((btChange was l[i] : Int) :: (chgV (steps was l[i])).2)), [], fun H2 K2 hK2 => ?_, ?_⟩
    · refine change_spec _ _ was l[i] hK2
    try simp only [go_sem, reduceIte, Nat.reduceEqDiff, Nat.reduceLT, decide_true, reduceCtorEq, Nat.reduceAdd, Nat.reduceBEq, Nat.reduceMul, Nat.reduceLeDiff, Int.reduceToNat]
    repeat refine ⟨by first | assumption | omega | exact True.intro | exact rfl | exact ints_cells _ | exact bts_cells _ | exact bts_cell (by omega) | exact ints_cell (by omega) | exact Or.inr rfl | (simp only [List.length_append, List.length_cons, List.length_nil, List.length_take] at *; omega) | exact List.mem_cons_self | exact bytes_cell (by omega) | exact fun _ => bytes_cell (by omega) | (simp +contextual only [go_sem]; done) | fail, ?_⟩
    refine h9 _ _ ?_
    clear h9
    refine AWp_seq fun K10 h10 => ?_
    refine AWp_region tab_ok [0] ?_
    simp only [go_sem, reduceIte, Nat.reduceEqDiff, Nat.reduceLT, decide_true, reduceCtorEq, Nat.reduceAdd, Nat.reduceBEq, Nat.reduceMul, Nat.reduceLeDiff, Int.reduceToNat]
    repeat refine ⟨by first | assumption | omega | exact True.intro | exact rfl | exact ints_cells _ | exact bts_cells _ | exact bts_cell (by omega) | exact ints_cell (by omega) | exact Or.inr rfl | (simp only [List.length_append, List.length_cons, List.length_nil, List.length_take] at *; omega) | exact List.mem_cons_self | exact bytes_cell (by omega) | exact fun _ => bytes_cell (by omega) | (simp +contextual only [go_sem]; done) | fail, ?_⟩
    refine h10 _ _ ?_
    clear h10
    refine AWp_seq fun K11 h11 => ?_
    refine AWp_region tab_ok [0] ?_
    simp only [go_sem, reduceIte, Nat.reduceEqDiff, Nat.reduceLT, decide_true, reduceCtorEq, Nat.reduceAdd, Nat.reduceBEq, Nat.reduceMul, Nat.reduceLeDiff, Int.reduceToNat]
    try simp (disch := omega) only [bts_get, ints_get]
    try simp only [go_sem, reduceIte, Nat.reduceEqDiff, Nat.reduceLT, decide_true, reduceCtorEq, Nat.reduceAdd, Nat.reduceBEq, Nat.reduceMul, Nat.reduceLeDiff, Int.reduceToNat]
    repeat refine ⟨by first | assumption | omega | exact True.intro | exact rfl | exact ints_cells _ | exact bts_cells _ | exact bts_cell (by omega) | exact ints_cell (by omega) | exact Or.inr rfl | (simp only [List.length_append, List.length_cons, List.length_nil, List.length_take] at *; omega) | exact List.mem_cons_self | exact bytes_cell (by omega) | exact fun _ => bytes_cell (by omega) | (simp +contextual only [go_sem]; done) | fail, ?_⟩
    refine h11 _ _ ?_
    clear h11
    refine AWp_seq fun K12 h12 => ?_
    refine AWp_seq fun K13 h13 => ?_
    refine AWp_region tab_ok [] ?_
    simp only [go_sem, reduceIte, Nat.reduceEqDiff, Nat.reduceLT, decide_true, reduceCtorEq, Nat.reduceAdd, Nat.reduceBEq, Nat.reduceMul, Nat.reduceLeDiff, Int.reduceToNat]
    repeat refine ⟨by first | assumption | omega | exact True.intro | exact rfl | exact ints_cells _ | exact bts_cells _ | exact bts_cell (by omega) | exact ints_cell (by omega) | exact Or.inr rfl | (simp only [List.length_append, List.length_cons, List.length_nil, List.length_take] at *; omega) | exact List.mem_cons_self | exact bytes_cell (by omega) | exact fun _ => bytes_cell (by omega) | (simp +contextual only [go_sem]; done) | fail, ?_⟩
    refine h13 _ _ ?_
    clear h13
    refine AWp_block ?_
    refine AWp_loop_ind (ι := (Nat)) (fun (j : Nat) => [(9, .sc (.int .i64 j)), (7, .sc (.int .i64 i)), (1, .lst 0 (bts l)), (0, .sc (.int .i64 frame)), (6, .sc (.pointer (some ⟨B0, 0, none⟩))), (5, .lst 2 (ints ((v ++ ((btChange was l[i] : Int) :: (chgV (steps was l[i])).2) ++ [(l[i].ids.length : Int)]) ++ l[i].ids.take j)))]) (fun (j : Nat) => (hsets H [(B0, (.cells [.sc (.int .i64 was.a0), .sc (.int .i64 was.a1), .sc (.bool was.clear), .sc (.int .i64 was.a3), .sc (.int .i64 was.a4), .sc (.int .i64 was.a5), .lst 0 (ints was.ids)]))])) (fun (j : Nat) => (j ≤ l[i].ids.length)) (fun (j : Nat) => l[i].ids.length - j) 0 ?_ ?_ ?_ ?_
    · first | omega | exact True.intro | simp
    · (try dsimp only); exact (hweakL (by repeat (first | exact Fr_refl _ _ | refine Fr_new (by assumption) ?_ | refine Fr_old (by simp only [List.map_cons, List.mem_cons, true_or, or_true]) ?_)) (by simp only [go_sem, reduceIte, Nat.reduceEqDiff, Nat.reduceLT, decide_true, reduceCtorEq, Nat.reduceAdd, Nat.reduceBEq, Nat.reduceMul, Nat.reduceLeDiff, Int.reduceToNat]; first | done | exact True.intro | (repeat' apply And.intro) <;> first | rfl | exact True.intro))
    · simp only [go_sem, reduceIte, Nat.reduceEqDiff, Nat.reduceLT, decide_true, reduceCtorEq, Nat.reduceAdd, Nat.reduceBEq, Nat.reduceMul, Nat.reduceLeDiff, Int.reduceToNat]; first | done | exact True.intro | (repeat' apply And.intro) <;> first | rfl | exact True.intro
    rintro j hi1_0 L1 hL1
    skip
    refine AWp_seq fun K14 h14 => ?_
    refine AWp_seq fun K15 h15 => ?_
    refine AWp_region tab_ok [] ?_
    simp only [go_sem, reduceIte, Nat.reduceEqDiff, Nat.reduceLT, decide_true, reduceCtorEq, Nat.reduceAdd, Nat.reduceBEq, Nat.reduceMul, Nat.reduceLeDiff, Int.reduceToNat]
    try simp (disch := omega) only [bts_get, ints_get]
    try simp only [go_sem, reduceIte, Nat.reduceEqDiff, Nat.reduceLT, decide_true, reduceCtorEq, Nat.reduceAdd, Nat.reduceBEq, Nat.reduceMul, Nat.reduceLeDiff, Int.reduceToNat]
    repeat refine ⟨by first | assumption | omega | exact True.intro | exact rfl | exact ints_cells _ | exact bts_cells _ | exact bts_cell (by omega) | exact ints_cell (by omega) | exact Or.inr rfl | (simp only [List.length_append, List.length_cons, List.length_nil, List.length_take] at *; omega) | exact List.mem_cons_self | exact bytes_cell (by omega) | exact fun _ => bytes_cell (by omega) | (simp +contextual only [go_sem]; done) | fail, ?_⟩
    refine h15 _ _ ?_
    clear h15
    refine AWp_if fun kk hkk => ?_
    simp only [go_sem, reduceIte, Nat.reduceEqDiff, Nat.reduceLT, decide_true, reduceCtorEq, Nat.reduceAdd, Nat.reduceBEq, Nat.reduceMul, Nat.reduceLeDiff, Int.reduceToNat]
    repeat refine ⟨by first | assumption | omega | exact True.intro | exact rfl | exact ints_cells _ | exact bts_cells _ | exact bts_cell (by omega) | exact ints_cell (by omega) | exact Or.inr rfl | (simp only [List.length_append, List.length_cons, List.length_nil, List.length_take] at *; omega) | exact List.mem_cons_self | exact bytes_cell (by omega) | exact fun _ => bytes_cell (by omega) | (simp +contextual only [go_sem]; done) | fail, ?_⟩
    refine hkk _ (fun hb1 => ?_) (fun hb1 => ?_) <;> clear hkk kk
    · try simp only [bne_iff_ne, ne_eq, bne_eq_false_iff_eq, beq_iff_eq, beq_eq_false_iff_ne, decide_eq_true_eq, decide_eq_false_iff_not, Bool.not_eq_true', Bool.not_eq_false', Bool.and_eq_true, Bool.and_eq_false_iff, Bool.or_eq_true, Bool.or_eq_false_iff, Int.natCast_inj, not_true_eq_false, not_false_eq_true] at hb1
      refine AWp_skip ?_
      refine h14 _ _ ?_
      refine AWp_seq fun K16 h16 => ?_
      refine AWp_block ?_
      refine AWp_region tab_ok [0] ?_
      simp only [go_sem, reduceIte, Nat.reduceEqDiff, Nat.reduceLT, decide_true, reduceCtorEq, Nat.reduceAdd, Nat.reduceBEq, Nat.reduceMul, Nat.reduceLeDiff, Int.reduceToNat]
      try simp (disch := omega) only [bts_get, ints_get]
      try simp only [go_sem, reduceIte, Nat.reduceEqDiff, Nat.reduceLT, decide_true, reduceCtorEq, Nat.reduceAdd, Nat.reduceBEq, Nat.reduceMul, Nat.reduceLeDiff, Int.reduceToNat]
      simp (disch := omega) only [ints_get]
      try simp only [go_sem, reduceIte, Nat.reduceEqDiff, Nat.reduceLT, decide_true, reduceCtorEq, Nat.reduceAdd, Nat.reduceBEq, Nat.reduceMul, Nat.reduceLeDiff, Int.reduceToNat]
      repeat refine ⟨by first | assumption | omega | exact True.intro | exact rfl | exact ints_cells _ | exact bts_cells _ | exact bts_cell (by omega) | exact ints_cell (by omega) | exact Or.inr rfl | (simp only [List.length_append, List.length_cons, List.length_nil, List.length_take] at *; omega) | exact List.mem_cons_self | exact bytes_cell (by omega) | exact fun _ => bytes_cell (by omega) | (simp +contextual only [go_sem]; done) | fail, ?_⟩
      refine h16 _ _ ?_
      refine AWp_region tab_ok [] ?_
      simp only [go_sem, reduceIte, Nat.reduceEqDiff, Nat.reduceLT, decide_true, reduceCtorEq, Nat.reduceAdd, Nat.reduceBEq, Nat.reduceMul, Nat.reduceLeDiff, Int.reduceToNat]
      try simp (disch := omega) only [wrap64]
      repeat refine ⟨by first | assumption | omega | exact True.intro | exact rfl | exact ints_cells _ | exact bts_cells _ | exact bts_cell (by omega) | exact ints_cell (by omega) | exact Or.inr rfl | (simp only [List.length_append, List.length_cons, List.length_nil, List.length_take] at *; omega) | exact List.mem_cons_self | exact bytes_cell (by omega) | exact fun _ => bytes_cell (by omega) | (simp +contextual only [go_sem]; done) | fail, ?_⟩
      refine hL1 (j + 1) _ _ ?_ ?_ (by (try dsimp only); exact hweakL (by repeat (first | exact Fr_refl _ _ | refine Fr_new (by assumption) ?_ | refine Fr_old (by simp only [List.map_cons, List.mem_cons, true_or, or_true]) ?_)) (by simp only [go_sem, reduceIte, Nat.reduceEqDiff, Nat.reduceLT, decide_true, reduceCtorEq, Nat.reduceAdd, Nat.reduceBEq, Nat.reduceMul, Nat.reduceLeDiff, Int.reduceToNat]; first | done | exact True.intro | (repeat' apply And.intro) <;> first | rfl | exact True.intro)) ?_
      · first | omega | exact True.intro | (refine ⟨?_, ?_⟩ <;> first | omega | simp)
      · omega
      · simp only [go_sem, reduceIte, Nat.reduceEqDiff, Nat.reduceLT, decide_true, reduceCtorEq, Nat.reduceAdd, Nat.reduceBEq, Nat.reduceMul, Nat.reduceLeDiff, Int.reduceToNat]; rw [List.take_add_one, List.getElem?_eq_getElem (by omega)]; simp only [Option.toList_some, ← List.append_assoc]; first | done | exact True.intro | (repeat' apply And.intro) <;> first | rfl | exact True.intro
    · simp only [bne_iff_ne, ne_eq, bne_eq_false_iff_eq, beq_iff_eq, beq_eq_false_iff_ne, decide_eq_true_eq, decide_eq_false_iff_not, Bool.not_eq_true', Bool.not_eq_false', Bool.and_eq_true, Bool.and_eq_false_iff, Bool.or_eq_true, Bool.or_eq_false_iff, Int.natCast_inj, not_true_eq_false, not_false_eq_true] at hb1
      obtain rfl : j = l[i].ids.length := by omega
      rw [List.take_length]
      refine AWp_exit ?_
      refine h12 _ _ ?_
      refine AWp_region tab_ok [] ?_
      simp only [go_sem, reduceIte, Nat.reduceEqDiff, Nat.reduceLT, decide_true, reduceCtorEq, Nat.reduceAdd, Nat.reduceBEq, Nat.reduceMul, Nat.reduceLeDiff, Int.reduceToNat]
      try simp (disch := omega) only [bts_get, ints_get]
      try simp only [go_sem, reduceIte, Nat.reduceEqDiff, Nat.reduceLT, decide_true, reduceCtorEq, Nat.reduceAdd, Nat.reduceBEq, Nat.reduceMul, Nat.reduceLeDiff, Int.reduceToNat]
      repeat refine ⟨by first | assumption | omega | exact True.intro | exact rfl | exact ints_cells _ | exact bts_cells _ | exact bts_cell (by omega) | exact ints_cell (by omega) | exact Or.inr rfl | (simp only [List.length_append, List.length_cons, List.length_nil, List.length_take] at *; omega) | exact List.mem_cons_self | exact bytes_cell (by omega) | exact fun _ => bytes_cell (by omega) | (simp +contextual only [go_sem]; done) | fail, ?_⟩
      refine h8 _ _ ?_
      refine AWp_region tab_ok [] ?_
      simp only [go_sem, reduceIte, Nat.reduceEqDiff, Nat.reduceLT, decide_true, reduceCtorEq, Nat.reduceAdd, Nat.reduceBEq, Nat.reduceMul, Nat.reduceLeDiff, Int.reduceToNat]
      try simp (disch := omega) only [wrap64]
      repeat refine ⟨by first | assumption | omega | exact True.intro | exact rfl | exact ints_cells _ | exact bts_cells _ | exact bts_cell (by omega) | exact ints_cell (by omega) | exact Or.inr rfl | (simp only [List.length_append, List.length_cons, List.length_nil, List.length_take] at *; omega) | exact List.mem_cons_self | exact bytes_cell (by omega) | exact fun _ => bytes_cell (by omega) | (simp +contextual only [go_sem]; done) | fail, ?_⟩
      refine hL0 ((i + 1), l[i], (v ++ btNums was l[i])) _ _ ?_ ?_ (by (try dsimp only); exact hweakL (by repeat (first | exact Fr_refl _ _ | refine Fr_new (by assumption) ?_ | refine Fr_old (by simp only [List.map_cons, List.mem_cons, true_or, or_true]) ?_)) (by simp only [go_sem, reduceIte, Nat.reduceEqDiff, Nat.reduceLT, decide_true, reduceCtorEq, Nat.reduceAdd, Nat.reduceBEq, Nat.reduceMul, Nat.reduceLeDiff, Int.reduceToNat]; first | done | exact True.intro | (repeat' apply And.intro) <;> first | rfl | exact True.intro)) ?_
      · dsimp only; exact ⟨by omega, by rw [numTo_succ _ _ _ (by omega), hi0_1], by have := btNums_len was l[i]; rw [List.length_append]; omega⟩
      · dsimp only; omega
      · simp only [go_sem, reduceIte, Nat.reduceEqDiff, Nat.reduceLT, decide_true, reduceCtorEq, Nat.reduceAdd, Nat.reduceBEq, Nat.reduceMul, Nat.reduceLeDiff, Int.reduceToNat]; rw [show v ++ btNums was l[i] = (v ++ ((btChange was l[i] : Int) :: (chgV (steps was l[i])).2) ++ [(l[i].ids.length : Int)]) ++ l[i].ids from by simp [btNums]]; first | done | exact True.intro | (repeat' apply And.intro) <;> first | rfl | exact True.intro
  · simp only [bne_iff_ne, ne_eq, bne_eq_false_iff_eq, beq_iff_eq, beq_eq_false_iff_ne, decide_eq_true_eq, decide_eq_false_iff_not, Bool.not_eq_true', Bool.not_eq_false', Bool.and_eq_true, Bool.and_eq_false_iff, Bool.or_eq_true, Bool.or_eq_false_iff, Int.natCast_inj, not_true_eq_false, not_false_eq_true] at hb0
    obtain rfl : i = l.length := by omega
    rw [List.take_length] at hi0_1
    have hv : v = numsAll frame l := by have := numTo_all l btZero [1, frame, (l.length : Int)]; rw [hi0_1] at this; exact this
    refine AWp_exit ?_
    refine h4 _ _ ?_
    refine AWp_seq fun K17 h17 => ?_
    refine AWp_region tab_ok [] ?_
    simp only [go_sem, reduceIte, Nat.reduceEqDiff, Nat.reduceLT, decide_true, reduceCtorEq, Nat.reduceAdd, Nat.reduceBEq, Nat.reduceMul, Nat.reduceLeDiff, Int.reduceToNat]
    repeat refine ⟨by first | assumption | omega | exact True.intro | exact rfl | exact ints_cells _ | exact bts_cells _ | exact bts_cell (by omega) | exact ints_cell (by omega) | exact Or.inr rfl | (simp only [List.length_append, List.length_cons, List.length_nil, List.length_take] at *; omega) | exact List.mem_cons_self | exact bytes_cell (by omega) | exact fun _ => bytes_cell (by omega) | (simp +contextual only [go_sem]; done) | fail, ?_⟩
    rw [hv]
    refine refPut_spec _ _ (numsAll frame l) (by rw [← hv]; omega) ?_
    simp only [callK]
    simp only [go_sem, reduceIte, Nat.reduceEqDiff, Nat.reduceLT, decide_true, reduceCtorEq, Nat.reduceAdd, Nat.reduceBEq, Nat.reduceMul, Nat.reduceLeDiff, Int.reduceToNat]
    repeat refine ⟨by first | assumption | omega | exact True.intro | exact rfl | exact ints_cells _ | exact bts_cells _ | exact bts_cell (by omega) | exact ints_cell (by omega) | exact Or.inr rfl | (simp only [List.length_append, List.length_cons, List.length_nil, List.length_take] at *; omega) | exact List.mem_cons_self | exact bytes_cell (by omega) | exact fun _ => bytes_cell (by omega) | (simp +contextual only [go_sem]; done) | fail, ?_⟩
    refine h17 _ _ ?_
    clear h17
    refine AWp_seq fun K18 h18 => ?_
    refine AWp_region tab_ok [] ?_
    simp only [go_sem, reduceIte, Nat.reduceEqDiff, Nat.reduceLT, decide_true, reduceCtorEq, Nat.reduceAdd, Nat.reduceBEq, Nat.reduceMul, Nat.reduceLeDiff, Int.reduceToNat]
    repeat refine ⟨by first | assumption | omega | exact True.intro | exact rfl | exact ints_cells _ | exact bts_cells _ | exact bts_cell (by omega) | exact ints_cell (by omega) | exact Or.inr rfl | (simp only [List.length_append, List.length_cons, List.length_nil, List.length_take] at *; omega) | exact List.mem_cons_self | exact bytes_cell (by omega) | exact fun _ => bytes_cell (by omega) | (simp +contextual only [go_sem]; done) | fail, ?_⟩
    refine refSeal_spec _ _ (refPut (numsAll frame l)).1 (by have := refPut_len (numsAll frame l); rw [← hv] at this ⊢; omega) ?_
    simp only [callK]
    simp only [go_sem, reduceIte, Nat.reduceEqDiff, Nat.reduceLT, decide_true, reduceCtorEq, Nat.reduceAdd, Nat.reduceBEq, Nat.reduceMul, Nat.reduceLeDiff, Int.reduceToNat]
    repeat refine ⟨by first | assumption | omega | exact True.intro | exact rfl | exact ints_cells _ | exact bts_cells _ | exact bts_cell (by omega) | exact ints_cell (by omega) | exact Or.inr rfl | (simp only [List.length_append, List.length_cons, List.length_nil, List.length_take] at *; omega) | exact List.mem_cons_self | exact bytes_cell (by omega) | exact fun _ => bytes_cell (by omega) | (simp +contextual only [go_sem]; done) | fail, ?_⟩
    refine h18 _ _ ?_
    clear h18
    refine AWp_fzE (l := [.tmp 4]) ?_
    refine AWp_ret ?_
    refine retQ_mk H (by first | exact fun _ _ h => h | assumption | exact Fr_weak (by repeat (first | exact Fr_refl _ _ | refine Fr_new (by assumption) ?_ | refine Fr_old (by simp only [List.map_cons, List.mem_cons, true_or, or_true]) ?_))) (.inr rfl) ?_
    simp only [go_sem, reduceIte, Nat.reduceEqDiff, Nat.reduceLT, decide_true, reduceCtorEq, Nat.reduceAdd, Nat.reduceBEq, Nat.reduceMul, Nat.reduceLeDiff, Int.reduceToNat]
    repeat refine ⟨by first | assumption | omega | exact True.intro | exact rfl | exact ints_cells _ | exact bts_cells _ | exact bts_cell (by omega) | exact ints_cell (by omega) | exact Or.inr rfl | (simp only [List.length_append, List.length_cons, List.length_nil, List.length_take] at *; omega) | exact List.mem_cons_self | exact bytes_cell (by omega) | exact fun _ => bytes_cell (by omega) | (simp +contextual only [go_sem]; done) | fail, ?_⟩
    exact hK

end Go.Ab
