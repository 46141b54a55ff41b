/- maps.Keys: its iterator. -/
import Derived.Test.YtbpobdlahighoaaSxY1
import Derived.Test.YtbpobdlahighoaaSxV
namespace Go.Proofs.Ytbpobdlahighoaa.Sx
open Go
set_option linter.unusedVariables false
set_option linter.unusedSimpArgs false
set_option maxRecDepth 100000

def kInt : Value → Int
  | .int _ x => x
  | _ => 0
theorem perm_out {l : List MapEntry} {e : MapEntry} (hb : (l.map (·.born)).Nodup) (he : e ∈ l) : l.Perm (e :: l.filter fun y => !(y.born == e.born)) := by
  induction l with
  | nil => cases he
  | cons y l ih =>
    simp only [List.map_cons, List.nodup_cons] at hb
    rcases List.mem_cons.1 he with rfl | he
    · have : (e :: l).filter (fun y => !(y.born == e.born)) = l := by
        rw [List.filter_cons_of_neg (by simp)]
        refine List.filter_eq_self.2 (fun y hy => ?_)
        have : y.born ≠ e.born := fun h => hb.1 (List.mem_map.2 ⟨y, hy, h⟩)
        simp [this]
      rw [this]
    · have hne : y.born ≠ e.born := fun h => hb.1 (List.mem_map.2 ⟨e, he, h.symm⟩)
      rw [List.filter_cons_of_pos (by simp [hne])]
      exact ((ih hb.2 he).cons y).trans (List.Perm.swap ..)
theorem leftOf_push {es : Array MapEntry} {seen : Array Nat} {e : MapEntry} (hb : (es.toList.map (·.born)).Nodup) (he : e ∈ (leftOf es seen).toList) : (leftOf es seen).toList.Perm (e :: (leftOf es (seen.push e.born)).toList) := by
  have h1 : ((leftOf es seen).toList.map (·.born)).Nodup := by
    have : (leftOf es seen).toList.Sublist es.toList := by unfold leftOf; rw [Array.toList_filter]; exact List.filter_sublist
    exact (this.map _).nodup hb
  have h2 : (leftOf es (seen.push e.born)).toList = (leftOf es seen).toList.filter fun y => !(y.born == e.born) := by
    unfold leftOf
    rw [Array.toList_filter, Array.toList_filter, List.filter_filter]
    refine List.filter_congr (fun y _ => ?_)
    have : (seen.push e.born).contains y.born = (seen.contains y.born || (y.born == e.born)) := by
      rw [Array.contains_push]
    rw [this]; cases seen.contains y.born <;> simp
  rw [h2]
  exact perm_out h1 he
set_option maxHeartbeats 1000000 in
theorem keys_seq {S : Value → Prop} {H0 : Hp} {p : Value} {kv : List (Value × Value)} {keys : List Int} (hc : RDen H0 (.rop [.rom S kv]) p) (hk : kv.map (·.1) = keys.map fun x => .int .u16 x) :
    SeqP Pr 76 #[p] (fun x : Int => #[.int .u16 x]) H0 (fun pre x => ∃ r, (pre ++ x :: r).Perm keys) (fun xs => xs.Perm keys) (fun _ => True) := by
  intro l J Jx W hHW hJ hJx hY h0
  refine callsIn_wide.1 (callsIn_of_wp (F := Fence.wide) (n := 0) (fn := Try.f76) (by kernel_rfl) rfl trivial ?_)
  let C : Cx := ⟨Pr, 14, [], 0, [], [], [], [], [], fun _ _ => True, false⟩
  let yv : Value := .func (.yield l) #[] #[]
  obtain ⟨hI0, hs0⟩ := IS.start (J := J) (n := 14) (args := [.v yv, .rop [.rom S kv]]) (vs := [yv, p]) (W := W) (.cons (.r (.v _)) (.cons (.r hc) .nil)) hHW h0 (Nat.le_of_ble_eq_true rfl)
  have hund : Pr.underlying 75 = some (.map 38 4) := by kernel_rfl
  show Code.wpIn (Fr none) 0 Pr _ _ { tmps := [yv, p].toArray ++ Array.replicate (14 - [yv, p].toArray.size) undef, defers := [] } _
  generalize ([yv, p].toArray ++ Array.replicate (14 - [yv, p].toArray.size) undef) = tm0 at hs0
  refine wpIn_seq (wpIn_region ?_)
  show wpOpsIn (Fr none) 0 Pr _ _ [0, 1] _ _
  refine opsI_cons rfl rfl (op_eng (C := C) (K := fun s => s = St.put ⟨[(0, .v yv), (1, .rop [.rom S kv])], [], 0, []⟩ 4 (.rom S kv)) (fun c h => by cases h) rfl hs0 (by simp -implicitDefEqProofs only [go_sem, C]) ?_)
  rintro st1 a1 w1 ν1 H1 hs1 rfl
  obtain ⟨b, es, ck, eb, hb, hes, _, hst⟩ := (hs1.env 4).rom_inv
  subst hes
  have hkey : ∀ e ∈ es.toList, e.key = .int .u16 (kInt e.key) := fun e he => by
    have : e.key ∈ (es.toList.map fun e => (e.key, e.val)).map (·.1) := List.mem_map.2 ⟨(e.key, e.val), List.mem_map.2 ⟨e, he, rfl⟩, rfl⟩
    rw [hk] at this
    obtain ⟨x, _, hx⟩ := List.mem_map.1 this
    rw [← hx]; rfl
  have hkeys : (es.toList.map fun e => kInt e.key) = keys := by
    have := congrArg (List.map kInt) hk
    simp only [List.map_map] at this
    have e2 : (kInt ∘ fun x : Int => Value.int .u16 x) = id := rfl
    rw [e2, List.map_id] at this
    rw [← this]; rfl
  obtain ⟨T1, B1, hw1, hn1, hH1, hF1, hT1, hI1, hs1'⟩ := IS.rebase hJ hI0 hs1
  have hbw : hp w1 b = some (.map es ck) := hs1.sub b _ hb
  have hrun := run_range_map (P := Pr) w1 75 _ _ b es ck hund hbw
  obtain ⟨r, hr⟩ : ∃ r, r = w1.heap.size := ⟨_, rfl⟩
  have hal : ∀ k q, hp w1 k = some q → hp (w1.alloc (.mapIter (some b) ck #[] ck)) k = some q := fun k q hq => by
    rw [hp_alloc, if_neg (fun e => by have := hp_lt hq; omega)]; exact hq
  have hJ1 := hI1.J
  rw [hw1] at hJ1
  obtain ⟨B2, hw2, hn2, hH2, hF2, hI2, hs2⟩ := hI1.jump (J' := J) (pre' := []) (T' := T1 ++ [r]) (W' := w1.alloc (.mapIter (some b) ck #[] ck)) hs1' hw1 hH1 (fun b hb => List.mem_append_left _ hb)
    (hJ _ _ _ _ _ hJ1 ⟨rfl, rfl, rfl, by simp, Nat.le_refl _, fun k q _ hq => hal k q hq, fun k hk => List.mem_append_left _ hk, fun k hk => by
      rcases List.mem_append.1 hk with h | h
      · exact .inl h
      · simp only [List.mem_singleton] at h; subst h; exact .inr ⟨by omega, by simp [hr]⟩⟩) (fun k q _ _ hq => hal k q hq) (fun k q hq => hal k q (hs1.sub k q hq))
  refine opsI_cons rfl rfl (op_raw (v := .pointer (some ⟨w1.heap.size, 0, none⟩)) (W' := w1.alloc (.mapIter (some b) ck #[] ck)) (fun c h => by cases h) (by
    unfold execOp
    have e4 : a1.eval (.tmp 4) = .map (some b) := eb
    simp only [e4, Sem.run_bind, hrun, Result.andThen_ok, Sem.run_pure]) ?_)
  rw [← hr]
  have hs3 := (hs2.put (d := 5) (s := .v (.pointer (some ⟨r, 0, none⟩))) (by decide) (.r (.v _))).weaken (st' := ⟨[(0, .v yv), (5, .v (.pointer (some ⟨r, 0, none⟩)))], [], 0, []⟩) ⟨⟨rfl, rfl, trivial⟩, trivial, rfl, fun _ h => by cases h⟩
  show Code.wpIn (Fr none) 0 Pr _ _ _ _
  refine wpIn_block ?_
  have hHr : H1 r = none := by
    cases e : H1 r with
    | none => rfl
    | some q => have := hp_lt (hs1.sub r q e); omega
  refine wpIn_loop_ix (ι := List Int × Array Nat) (fun i a w => ∃ T B ν H, B.n = 0 ∧ IS J H0 i.1 T B ∧ SatN B ν H 14 ⟨[(0, .v yv), (5, .v (.pointer (some ⟨r, 0, none⟩)))], [], 0, []⟩ a w ∧ B.H b = some (.map es ck) ∧ B.H r = none ∧ r ∈ T ∧
      B.F r = some (.mapIter (some b) ck i.2 ck) ∧ (i.1 ++ (leftOf es i.2).toList.map (fun e => kInt e.key)).Perm keys) (fun i => (leftOf es i.2).size) ?_ ([], #[]) _ _ ⟨_, B2, _, _, hn2.trans hn1, hI2, hs3, by rw [hH2]; exact hb, by rw [hH2]; exact hHr, by simp, by rw [hF2 r (.inr (by omega)), hp_alloc, if_pos hr], by
        have : (leftOf es #[]) = es := by unfold leftOf; simp
        rw [List.nil_append, this, hkeys]⟩
  clear hs3 hs2 hI2 hF2 hH2 hn2 hw2 hJ1 hal hrun hbw hs1' hI1 hT1 hF1 hH1 hn1 hw1 eb hb hs1 hs0 hI0 hHr
  rintro ⟨xs, seen⟩ a w ⟨T, B, ν, H, hn, hI, hs, hBb, hBr, hrT, hFr, hperm⟩
  simp only at hI hFr hperm ⊢
  obtain ⟨T1, B1, hw1, hn1, hH1, hF1, hT1, hI1, hs1⟩ := IS.rebase hJ hI hs
  have hbw : hp w b = some (.map es ck) := hs.sub b _ (hs.subH b _ hBb)
  have hrw : hp w r = some (.mapIter (some b) ck seen ck) := hs.subF r _ hFr
  have hHr : H r = none := hs.newH r _ hFr hBr
  have hHb : H b = some (.map es ck) := hs.subH b _ hBb
  refine wpIn_seq (wpIn_region ?_)
  show wpOpsIn (Fr none) 0 Pr _ _ [0, 1] _ _
  have e5 : a.eval (.tmp 5) = .pointer (some ⟨r, 0, none⟩) := (hs.env 5).v_eq
  rcases run_next_at (P := Pr) w 0 r b ck ck seen es ck hrw hbw hst.1 (Nat.le_refl _) with ⟨h0', hrun⟩ | ⟨e, he, w1', hal, hrun⟩
  · refine opsI_cons rfl rfl (op_raw (v := .tuple #[.bool false]) (W' := w) (fun c h => by cases h) (by
      unfold execOp
      simp only [e5, Sem.run_bind, hrun, Result.andThen_ok, Sem.run_pure]) ?_)
    have hs2 := hs.put (d := 6) (s := .tup [.v (.bool false)]) (by decide) (.tup (.cons (.r (.v _)) .nil))
    refine opsI_cons rfl rfl (op_eng (C := C) (K := fun s => s = St.put (St.put ⟨[(0, .v yv), (5, .v (.pointer (some ⟨r, 0, none⟩)))], [], 0, []⟩ 6 (.tup [.v (.bool false)])) 7 (.v (.bool false))) (fun c h => by cases h) hn hs2 (by simp -implicitDefEqProofs only [go_sem, C]) ?_)
    rintro st3 a3 w3 ν3 H3 hs3 rfl
    show Code.wpIn (Fr none) 0 Pr _ _ _ _
    refine wpIn_seq (wpIn_cond_false (hs3.env 7).v_eq (wpIn_exit ?_))
    refine ⟨by rw [hs3.defers, hI.ds]; rfl, .tuple #[], results_none rfl, ⟨_, rfl⟩, .inl ⟨xs, _, ?_, hJ _ _ _ _ _ hI.J (hI.steps hs3)⟩⟩
    have : (leftOf es seen).toList = [] := List.eq_nil_of_length_eq_zero (by simpa using h0')
    rw [this] at hperm
    simpa using hperm
  · obtain ⟨W2, hW2⟩ : ∃ W2 : World, W2 = { w1' with heap := w1'.heap.setIfInBounds r (.mapIter (some b) ck (seen.push e.born) ck) } := ⟨_, rfl⟩
    replace hrun : (Instr.next (.pointer (some ⟨r, 0, none⟩)) false 0).run Pr w = .ok (.tuple #[.bool true, e.key, e.val]) W2 := by rw [hW2]; exact hrun
    have hw1h : w1'.heap = w.heap := by rcases hal with rfl | rfl <;> rfl
    have hset := MapKept.heap_set (w := w1') (r := r) (o := .mapIter (some b) ck seen ck) (o' := .mapIter (some b) ck (seen.push e.born) ck) (by rw [hw1h]; exact hrw)
    have hp2 : ∀ k, hp W2 k = if k = r then some (.mapIter (some b) ck (seen.push e.born) ck) else hp w k := fun k => by
      rw [hW2]
      by_cases ek : k = r
      · subst ek; rw [if_pos rfl]; exact hset.1
      · rw [if_neg ek]
        have := hset.2 k ek
        rw [hw1h] at this
        show (w1'.heap.setIfInBounds r _)[k]? = _
        rw [hw1h]; exact this
    have hst2 : Steps' T1 T1 w W2 := by
      refine ⟨?_, ?_, ?_, ?_, ?_, fun k q hk hq => ?_, fun _ h => h, fun _ h => .inl h⟩
      · rw [hW2]; rcases hal with rfl | rfl <;> rfl
      · rw [hW2]; rcases hal with rfl | rfl <;> rfl
      · rw [hW2]; rcases hal with rfl | rfl <;> rfl
      · rw [hW2]; simp [hw1h]
      · rw [hW2]
        rcases hal with rfl | rfl
        · exact Nat.le_refl _
        · exact Nat.le_succ _
      · rw [hp2, if_neg (fun e => hk (by rw [e]; exact hT1 r hrT))]; exact hq
    have hJ1 := hI1.J
    rw [hw1] at hJ1
    have hF1r := hF1 r _ hFr
    obtain ⟨B2, hw2, hn2, hH2, hF2, hI2, hs2⟩ := hI1.jump (J' := J) (pre' := xs) (T' := T1) (W' := W2) hs1 hw1 hH1 (fun _ h => h) (hJ _ _ _ _ _ hJ1 hst2)
      (fun k q _ hk hq => by rw [hp2, if_neg (fun e => by subst e; rw [hF1r] at hk; cases hk)]; exact hq)
      (fun k q hq => by rw [hp2, if_neg (fun e => by subst e; rw [hHr] at hq; cases hq)]; exact hs1.sub k q hq)
    have hB2r : B2.F r = some (.mapIter (some b) ck (seen.push e.born) ck) := by rw [hF2 r (.inl (by rw [hF1r]; simp)), hp2, if_pos rfl]
    have hn2' : B2.n = 0 := hn2.trans (hn1.trans hn)
    refine opsI_cons rfl rfl (op_raw (v := .tuple #[.bool true, e.key, e.val]) (W' := W2) (fun c h => by cases h) (by
      unfold execOp
      simp only [e5, Sem.run_bind, hrun, Result.andThen_ok, Sem.run_pure]) ?_)
    have hs3 := hs2.put (d := 6) (s := .tup [.v (.bool true), .v e.key, .v e.val]) (by decide) (.tup (.cons (.r (.v _)) (.cons (.r (.v _)) (.cons (.r (.v _)) .nil))))
    refine opsI_cons rfl rfl (op_eng (C := C) (K := fun s => s = St.put (St.put ⟨[(0, .v yv), (5, .v (.pointer (some ⟨r, 0, none⟩)))], [], 0, []⟩ 6 (.tup [.v (.bool true), .v e.key, .v e.val])) 7 (.v (.bool true))) (fun c h => by cases h) hn2' hs3 (by simp -implicitDefEqProofs only [go_sem, C]) ?_)
    rintro st4 a4 w4 ν4 H4 hs4 rfl
    show Code.wpIn (Fr none) 0 Pr _ _ _ _
    refine wpIn_seq (wpIn_cond_true (hs4.env 7).v_eq (wpIn_skip ?_))
    show Code.wpIn (Fr none) 0 Pr _ _ _ _
    refine wpIn_block (wpIn_seq (wpIn_region ?_))
    show wpOpsIn (Fr none) 0 Pr _ _ [0, 1, 2] _ _
    have hrw4 := hs4.subF r _ hB2r
    have hbw4 := hs4.sub b _ (hs4.subH b _ (by rw [hH2]; exact hHb))
    obtain ⟨hem, _⟩ := mem_left he
    have hent := run_entry_at (P := Pr) w4 r b ck seen es ck e hrw4 hbw4 hem hst.2.1
    have e5' : a4.eval (.tmp 5) = .pointer (some ⟨r, 0, none⟩) := (hs4.env 5).v_eq
    refine opsI_cons rfl rfl (op_raw (v := .tuple #[e.key, e.val]) (W' := w4) (fun c h => by cases h) (by
      unfold execOp
      simp only [e5', Sem.run_bind, hent, Result.andThen_ok, Sem.run_pure]) ?_)
    have hs5 := (hs4.put (d := 8) (s := .tup [.v e.key, .v e.val]) (by decide) (.tup (.cons (.r (.v _)) (.cons (.r (.v _)) .nil)))).weaken (st' := ⟨[(0, .v yv), (5, .v (.pointer (some ⟨r, 0, none⟩))), (8, .tup [.v e.key, .v e.val])], [], 0, []⟩) ⟨⟨rfl, rfl, rfl, trivial⟩, trivial, rfl, fun _ h => by cases h⟩
    refine opsI_cons rfl rfl (op_eng (C := C) (K := fun s => s = St.put ⟨[(0, .v yv), (5, .v (.pointer (some ⟨r, 0, none⟩))), (8, .tup [.v e.key, .v e.val])], [], 0, []⟩ 9 (.v e.key)) (fun c h => by cases h) hn2' hs5 (by simp -implicitDefEqProofs only [go_sem, C]) ?_)
    rintro st6 a6 w6 ν6 H6 hs6 rfl
    refine opsI_cons rfl rfl (op_eng (C := C) (K := fun s => s = St.put (St.put ⟨[(0, .v yv), (5, .v (.pointer (some ⟨r, 0, none⟩))), (8, .tup [.v e.key, .v e.val])], [], 0, []⟩ 9 (.v e.key)) 3 (.v e.key)) (fun c h => by cases h) hn2' hs6 (by simp -implicitDefEqProofs only [go_sem, C]) ?_)
    rintro st7 a7 w7 ν7 H7 hs7 rfl
    show Code.wpIn (Fr none) 0 Pr _ _ _ _
    refine wpIn_seq (wpIn_region ?_)
    show wpOpsIn (Fr none) 0 Pr _ _ [0, 1, 2, 3] _ _
    have hs8 := hs7.weaken (st' := ⟨[(0, .v yv), (5, .v (.pointer (some ⟨r, 0, none⟩))), (3, .v e.key)], [], 0, []⟩) ⟨⟨rfl, rfl, rfl, trivial⟩, trivial, rfl, fun _ h => by cases h⟩
    refine opsI_cons rfl rfl (op_eng (C := C) (K := fun s => s = St.put ⟨[(0, .v yv), (5, .v (.pointer (some ⟨r, 0, none⟩))), (3, .v e.key)], [], 0, []⟩ 10 (.v yv)) (fun c h => by cases h) hn2' hs8 (by simp -implicitDefEqProofs only [go_sem, C]) ?_)
    rintro st9 a9 w9 ν9 H9 hs9 rfl
    refine opsI_cons rfl rfl (op_eng (C := C) (K := fun s => s = St.put (St.put ⟨[(0, .v yv), (5, .v (.pointer (some ⟨r, 0, none⟩))), (3, .v e.key)], [], 0, []⟩ 10 (.v yv)) 11 (.v e.key)) (fun c h => by cases h) hn2' hs9 (by simp -implicitDefEqProofs only [go_sem, C]) ?_)
    rintro st10 a10 w10 ν10 H10 hs10 rfl
    have hpush := leftOf_push hst.2.1 he
    have hx : ∃ r, (xs ++ kInt e.key :: r).Perm keys := ⟨(leftOf es (seen.push e.born)).toList.map (fun e => kInt e.key), (List.Perm.append_left xs (by have := hpush.map (fun e : MapEntry => kInt e.key); simpa using this.symm)).trans hperm⟩
    have hy := hI2.yield hJ hY hs10 hx
    have hef : a10.eval (.tmp 10) = yv := (hs10.env 10).v_eq
    have he11 : a10.eval (.tmp 11) = .int .u16 (kInt e.key) := (hs10.env 11).v_eq.trans (hkey e hem)
    have hsz : a10.tmps.size = 14 := hs10.size
    have hds : a10.defers = [] := by rw [hs10.defers, hI2.ds]; rfl
    refine opsI_cons rfl rfl (op_yield rfl rfl hef (by simp [he11]) hy ?_)
    rintro e' w' (⟨rfl, T', B', hn', hH', hFb, hTT, hI', hs'⟩ | ⟨rfl, T', hJx'⟩)
    · refine ⟨_, rfl, ?_⟩
      have hs11 := (hs'.put (d := 12) (s := .v (.bool true)) (by decide) (.r (.v _))).weaken (st' := ⟨[(0, .v yv), (5, .v (.pointer (some ⟨r, 0, none⟩))), (12, .v (.bool true))], [], 0, []⟩) ⟨⟨rfl, rfl, rfl, trivial⟩, trivial, rfl, fun _ h => by cases h⟩
      refine opsI_cons rfl rfl (op_eng (C := C) (K := fun s => s = St.put ⟨[(0, .v yv), (5, .v (.pointer (some ⟨r, 0, none⟩))), (12, .v (.bool true))], [], 0, []⟩ 13 (.v (.bool false))) (fun c h => by cases h) (hn'.trans hn2') hs11 (by simp -implicitDefEqProofs only [go_sem, C, Bool.not_true]) ?_)
      rintro st12 a12 w12 ν12 H12 hs12 rfl
      show Code.wpIn (Fr none) 0 Pr _ _ _ _
      refine wpIn_cond_false (hs12.env 13).v_eq (wpIn_skip ?_)
      refine ⟨(xs ++ [kInt e.key], seen.push e.born), ⟨T', B', ν12, H12, hn'.trans hn2', hI', hs12.weaken ⟨⟨rfl, rfl, trivial⟩, trivial, rfl, fun _ h => by cases h⟩, ?_, ?_, hTT r (hT1 r hrT), hFb r _ hB2r (hT1 r hrT), ?_⟩, ?_⟩
      · rw [hH']; exact hs10.subH b _ (by rw [hH2]; exact hHb)
      · rw [hH']; exact hs10.newH r _ hB2r (by rw [hH2]; exact hHr)
      · rw [List.append_assoc]
        exact (List.Perm.append_left xs (by have := hpush.map (fun e : MapEntry => kInt e.key); simpa using this.symm)).trans hperm
      · have := hpush.length_eq
        simp only [Array.length_toList, List.length_cons] at this
        show (leftOf es (seen.push e.born)).size < (leftOf es seen).size
        omega
    · refine ⟨_, rfl, ?_⟩
      refine opsI_cons rfl rfl (op_not rfl (put_getD (by rw [hsz]; decide)) ?_)
      show Code.wpIn (Fr none) 0 Pr _ _ _ _
      refine wpIn_cond_true (put_getD (by simp [Act.put, hsz])) (wpIn_ret ?_)
      exact ⟨by simp [Act.put, hds], .tuple #[], results_none rfl, ⟨_, rfl⟩, .inr ⟨_, T', trivial, hJx'⟩⟩
/-- maps.Keys's iterator: the keys, each once. -/
theorem keys_iter {S : Value → Prop} {kv : List (Value × Value)} {keys : List Int} (hk : kv.map (·.1) = keys.map fun x => .int .u16 x) :
    IterOk Pr 76 [.rop [.rom S kv]] eI16 (fun pre x => ∃ r, (pre ++ x :: r).Perm keys) (fun xs => xs.Perm keys) (fun _ => True) := by
  refine ⟨callable_of (fn := Try.f76) (by kernel_rfl) (by kernel_rfl) (by kernel_rfl), fun w H vs hH hd => ?_⟩
  cases hd with
  | cons h r =>
    cases r
    exact ⟨Int, id, fun x => [.int .u16 x], _, _, _, fun x => .cons (.v _) .nil, fun pre x h => by simpa using h, fun xs h => by simpa using h, fun _ _ => trivial, keys_seq h hk⟩
end Go.Proofs.Ytbpobdlahighoaa.Sx
