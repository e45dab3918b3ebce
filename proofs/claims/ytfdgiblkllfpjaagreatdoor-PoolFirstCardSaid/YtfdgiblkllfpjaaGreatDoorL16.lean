/- scan: the range over a log's frames. -/
import Derived.Test.YtfdgiblkllfpjaaGreatDoorL15
set_option linter.unusedVariables false
set_option linter.unusedSimpArgs false
namespace Go.Proofs.YtfdgiblkllfpjaaGreatDoor
open Go.ChangeShapes Go.WideShapes Go.ChangeAt Go.RowKit

/-- The bytes of begins, one behind the other; what is found of them. -/
def logB (t : Nat → Nat) : Nat → List Nat → List UInt8
  | _, [] => []
  | lsn, x :: xs => frameB t lsn (beginB x) ++ logB t (lsn + 34) xs
def itemsB : Nat → List Nat → List (Nat × Nat)
  | _, [] => []
  | lsn, x :: xs => (lsn, x) :: itemsB (lsn + 34) xs
theorem logB_len (t : Nat → Nat) : ∀ (lsn : Nat) (xs : List Nat), (logB t lsn xs).length = 34 * xs.length
  | _, [] => rfl
  | lsn, x :: xs => by unfold logB; rw [List.length_append, frameB_len, beginB_len, logB_len t _ xs]; simp only [List.length_cons]; omega
theorem logB_cons (t : Nat → Nat) (lsn x : Nat) (xs : List Nat) : logB t lsn (x :: xs) = frameB t lsn (beginB x) ++ logB t (lsn + 34) xs := rfl
theorem itemsB_cons (lsn x : Nat) (xs : List Nat) : itemsB lsn (x :: xs) = (lsn, x) :: itemsB (lsn + 34) xs := rfl
theorem logB_app (t : Nat → Nat) : ∀ (lsn : Nat) (xs ys : List Nat), logB t lsn (xs ++ ys) = logB t lsn xs ++ logB t (lsn + 34 * xs.length) ys
  | lsn, [], ys => by simp [logB]
  | lsn, x :: xs, ys => by rw [List.cons_append, logB_cons, logB_cons, logB_app t _ xs ys, List.append_assoc, show lsn + 34 + 34 * xs.length = lsn + 34 * (x :: xs).length by simp only [List.length_cons]; omega]
theorem itemsB_app : ∀ (lsn : Nat) (xs ys : List Nat), itemsB lsn (xs ++ ys) = itemsB lsn xs ++ itemsB (lsn + 34 * xs.length) ys
  | lsn, [], ys => by simp [itemsB]
  | lsn, x :: xs, ys => by rw [List.cons_append, itemsB_cons, itemsB_cons, itemsB_app _ xs ys, List.cons_append, show lsn + 34 + 34 * xs.length = lsn + 34 * (x :: xs).length by simp only [List.length_cons]; omega]
theorem itemsB_len : ∀ (lsn : Nat) (xs : List Nat), (itemsB lsn xs).length = xs.length
  | _, [] => rfl
  | lsn, x :: xs => by unfold itemsB; simp only [List.length_cons]; rw [itemsB_len _ xs]
def encB (i : Nat × Nat) : Array Value := #[.agg (foundC (i.1 : Nat) (i.2 : Nat))]
/-- What a round may write: the caller's slice and sum, and what the slice lies in. -/
def Tk (ob nb : Nat) (W : World) : List Nat := ob :: nb :: (match W.cell? ⟨ob, 0, none⟩ with | some v => blk v | none => [])
def Kp (ob nb : Nat) (W W' : World) : Prop := W.heap.size ≤ W'.heap.size ∧ (∀ b o, W.heap[b]? = some o → o.isCells = true → b ∉ Tk ob nb W → W'.heap[b]? = some o) ∧ (∀ z ∈ Tk ob nb W', z ∈ Tk ob nb W ∨ W.heap.size ≤ z) ∧ ((∀ z ∈ Tk ob nb W, z < W.heap.size) → ∀ z ∈ Tk ob nb W', z < W'.heap.size)
section
variable {ob nb : Nat} {A B C W W' : World}
theorem Kp.trans (h : Kp ob nb A B) (k : Kp ob nb B C) : Kp ob nb A C := by
  obtain ⟨h1, h2, h3, h4⟩ := h
  obtain ⟨k1, k2, k3, k4⟩ := k
  refine ⟨Nat.le_trans h1 k1, fun b o hb ho hn => k2 b o (h2 b o hb ho hn) ho (fun hz => ?_), fun z hz => ?_, fun hv => k4 (h4 hv)⟩
  · rcases h3 b hz with e | e
    · exact hn e
    · have := (Array.getElem?_eq_some_iff.1 hb).1; omega
  · rcases k3 z hz with e | e
    · exact h3 z e
    · exact .inr (by omega)
theorem Tk.off (ho : Off [] W W') (hob : ob < W.heap.size) : Tk ob nb W' = Tk ob nb W := by
  unfold Tk
  rw [World.cell?_of_block (a := ⟨ob, 0, none⟩) (ho.old ob hob (by simp))]
theorem Kp.off (ho : Off [] W W') (hob : ob < W.heap.size) : Kp ob nb W W' := by
  have hT := Tk.off (nb := nb) ho hob
  refine ⟨ho.size, fun b o hb _ _ => ?_, fun z hz => .inl (by rw [hT] at hz; exact hz), fun hv z hz => ?_⟩
  · rw [ho.old b (Array.getElem?_eq_some_iff.1 hb).1 (by simp)]; exact hb
  · rw [hT] at hz; exact Nat.lt_of_lt_of_le (hv z hz) ho.size
theorem IsC.kp {b : Nat} {cs : Array Value} {T : TypeId} (h : IsC W b cs T) (k : Kp ob nb W W') (hn : b ∉ Tk ob nb W) : IsC W' b cs T := k.2.1 b _ h rfl hn
theorem IsB.kp {v : Value} {l : List UInt8} (h : IsB W v l) (k : Kp ob nb W W') (hn : ∀ z ∈ blk v, z ∉ Tk ob nb W) : IsB W' v l := by
  refine ⟨h.1, ?_⟩
  rcases h.2 with e | ⟨g, off, cap, cur, rfl, hc, r⟩
  · exact .inl e
  · exact .inr ⟨g, off, cap, cur, rfl, hc.kp k (hn g (by simp [blk])), r⟩
theorem Tbl.kp {t : Nat → Nat} (h : Tbl t W) (k : Kp ob nb W W') (hn : 0 ∉ Tk ob nb W) : Tbl t W' := by
  refine ⟨Nat.lt_of_lt_of_le h.1 k.1, fun i hi => ⟨(h.2 i hi).1, ?_⟩⟩
  have q := (h.2 i hi).2
  have hb : W'.heap[0]? = W.heap[0]? := by
    unfold World.cell? at q
    cases e : W.heap[0]? with
    | none => simp [e] at q
    | some o =>
      cases o with
      | cells c T z => exact k.2.1 0 _ e rfl hn
      | _ => simp [e] at q
  rw [World.cell?_of_block (a := ⟨0, i, none⟩) hb]; exact q
end
set_option maxRecDepth 100000 in
set_option maxHeartbeats 4000000 in
theorem frames169_in {t : Nat → Nat} (n : Nat) (hn : 1 ≤ n) (l bb lb ob nb base : Nat) (v : Value) (ids : List Nat) (J Jx : List (Nat × Nat) → World → Prop) (W : World) (hJ : AbidesFrom W.heap.size J)
    (hY : ∀ pre x W1, J pre W1 → pre.length < (itemsB (base + 1) ids).length → YieldAt Fence.wide (n - 1) Tryz.prog l (encB x) W1 fun e W' => (e = .returned (.bool true) ∧ J (pre ++ [x]) W' ∧ Kp ob nb W1 W') ∨ (e = .returned (.bool false) ∧ Jx (pre ++ [x]) W'))
    (ht : Tbl t W) (hb : IsC W bb #[.int .i64 (base : Nat)] 3) (hl : IsC W lb #[v] 22) (h : IsB W v (logB t (base + 1) ids)) (hids : ∀ x ∈ ids, 1 ≤ x ∧ x ≤ 64) (hlen : ids.length ≤ 2000) (hbase : base ≤ 1152921504606715904)
    (hT : ∀ z ∈ Tk ob nb W, z < W.heap.size) (hTn : 0 ∉ Tk ob nb W ∧ bb ∉ Tk ob nb W ∧ lb ∉ Tk ob nb W ∧ ∀ z ∈ blk v, z ∉ Tk ob nb W) (h0 : J [] W) :
    CallsIn Fence.wide n Tryz.prog 169 #[.func (.yield l) #[] #[], .pointer (some ⟨bb, 0, none⟩), .pointer (some ⟨lb, 0, none⟩)] W fun e W' => (∃ v, e = .returned v) ∧ ((∃ ys, ys = itemsB (base + 1) ids ∧ J ys W') ∨ (∃ pre, pre <+: itemsB (base + 1) ids ∧ Jx pre W')) := by
  have HJ := Lib.hid hJ
  have HY := Lib.hid hY
  have HALL := Lib.hid (And.intro ht (And.intro hb (And.intro hl (And.intro h (And.intro hT hTn)))))
  have HID := Lib.hid (And.intro hids (And.intro hlen hbase))
  have k0 := hb.cell 0
  simp only [List.getElem?_toArray, List.getElem?_cons_zero] at k0
  have b1 : ¬ ((base : Int) < 0) := by omega
  have b2 : ¬ (1152921504606846976 < (base : Int)) := by omega
  have H0 := Lib.hid h0
  obtain ⟨P, hP⟩ : ∃ P : Ending → World → Prop, P = fun e W' => (∃ v, e = .returned v) ∧ ((∃ ys, ys = itemsB (base + 1) ids ∧ J ys W') ∨ (∃ pre, pre <+: itemsB (base + 1) ids ∧ Jx pre W')) := ⟨_, rfl⟩
  rw [← hP]
  have HP := Lib.hid hP
  clear hJ hY ht hb hl h hids hlen hbase hT hTn h0 hP
  refine callsIn_of_wp Tryz.func169 rfl trivial ?_ rfl
  simp only [Tryz.ntmps169, List.size_toArray, List.length_cons, List.length_nil, Nat.reduceAdd, Nat.reduceSub, Array.replicate_succ, Array.replicate_zero, List.push_toArray, List.append_toArray, List.nil_append, List.cons_append]
  gi_wp2
  clear k0 b1 b2
  gi_loopw [4, 5, 6] (fun p _ _ wr => ∃ pre rest : List Nat, ids = pre ++ rest ∧ p = .int .i64 ((34 * pre.length : Nat) : Int) ∧ J (itemsB (base + 1) pre) wr ∧ Kp ob nb W wr) (fun p _ _ _ => 34 * ids.length - (intOf p).toNat)
  case atStart => exact ⟨[], ids, rfl, rfl, H0.out, Kp.off (Off.refl _ _) (HALL.out.2.2.2.2.1 ob (by simp [Tk]))⟩
  case round =>
    obtain ⟨pre, rest, hx, rfl, hJs, hK⟩ := hrel
    have HK := Lib.hid (And.intro hx (And.intro hJs hK))
    have hbr := HALL.out.2.1.kp hK HALL.out.2.2.2.2.2.2.1
    have hlr := HALL.out.2.2.1.kp hK HALL.out.2.2.2.2.2.2.2.1
    have HBR : Hid (Tbl t wr ∧ IsB wr v (logB t (base + 1) ids)) := Lib.hid ⟨HALL.out.1.kp hK HALL.out.2.2.2.2.2.1, HALL.out.2.2.2.1.kp hK HALL.out.2.2.2.2.2.2.2.2⟩
    have c0 := hbr.cell 0
    have c1 := hlr.cell 0
    simp only [List.getElem?_toArray, List.getElem?_cons_zero] at c0 c1
    clear hbr hlr hJs hK
    cases rest with
    | nil =>
      rw [List.append_nil] at hx
      subst hx
      have hnx := next170_end v (logB t (base + 1) ids) base wr HBR.out.2 (by rw [logB_len]; have := HID.out.2.1; have := HID.out.2.2; omega)
      rw [logB_len] at hnx
      unfold found0 at hnx
      have HN := Lib.hid hnx
      clear hnx
      refine wpIn_wide.2 ?_
      go_wp2_with fail
      refine HN.out.mono ?_
      rintro e w1 ⟨rfl, ho1⟩
      have HO1 := Lib.hid ho1
      clear ho1 c0 c1
      go_wp2_with fail
      refine bodyPost_ret (results_none rfl _ _ _) rfl ?_
      rw [HP.out]
      refine ⟨⟨_, rfl⟩, .inl ⟨_, rfl, HJ.out _ wr _ none HK.out.2.1 ?_ (fun r e => by cases e)⟩⟩
      exact Off.grown0 (HO1.out.trans ((Off.refl [] w1).alloc _) (by simp))
    | cons x rest =>
      obtain ⟨hx1, hx2⟩ := HID.out.1 x (by rw [hx]; simp)
      have hlg : logB t (base + 1) ids = logB t (base + 1) pre ++ (frameB t (base + (logB t (base + 1) pre).length + 1) (beginB x) ++ logB t (base + 1 + 34 * pre.length + 34) rest) := by
        rw [hx, logB_app, logB_len, logB_cons]
        rw [show base + 34 * pre.length + 1 = base + 1 + 34 * pre.length by omega]
      have hbr := HBR.out.2
      rw [hlg] at hbr
      have hil : pre.length + rest.length + 1 = ids.length := by rw [hx]; simp only [List.length_append, List.length_cons]; omega
      have hnx := next170_frame v (logB t (base + 1) pre) (logB t (base + 1 + 34 * pre.length + 34) rest) base x wr HBR.out.1 hbr hx1 hx2 HID.out.2.2 (by rw [logB_len, logB_len]; have := HID.out.2.1; omega)
      rw [logB_len, show base + 34 * pre.length + 1 = base + 1 + 34 * pre.length by omega] at hnx
      have HIL := Lib.hid hil
      obtain ⟨lsn, hlsn⟩ : ∃ lsn, lsn = base + 1 + 34 * pre.length := ⟨_, rfl⟩
      rw [← hlsn] at hnx
      have hit : itemsB (base + 1) ids = itemsB (base + 1) pre ++ (lsn, x) :: itemsB (lsn + 34) rest := by
        rw [hx, itemsB_app, ← hlsn, itemsB_cons]
      have hitp : itemsB (base + 1) (pre ++ [x]) = itemsB (base + 1) pre ++ [(lsn, x)] := by
        rw [itemsB_app, ← hlsn]; rfl
      have HIT := Lib.hid (And.intro hit hitp)
      unfold foundC at hnx
      have HN := Lib.hid hnx
      clear hnx hbr hlg hil hlsn hit hitp hx1 hx2
      gi_wp2_with fail
      refine ⟨trivial, ?_⟩
      gi_at_call 170
      refine (callsIn_wide.2 HN.out).mono ?_
      rintro e w1 ⟨rfl, ho1⟩
      have HO1 := Lib.hid ho1
      clear ho1 c0 c1 HN
      have hJ5 : J (itemsB (base + 1) pre) (w1.alloc (.cells (foundC (lsn : Nat) (x : Nat)) 122)) := HJ.out _ wr _ none HK.out.2.1 (Off.grown0 (HO1.out.alloc _)) (fun r e => by cases e)
      obtain ⟨fn, tmps, assign, body, hy, hR⟩ := HY.out (itemsB (base + 1) pre) (lsn, x) _ hJ5 (by rw [itemsB_len, itemsB_len]; have := HIL.out; omega)
      have HR := Lib.hid hR
      have HWV : Hid (Kp ob nb W (w1.alloc (.cells (foundC (lsn : Nat) (x : Nat)) 122)) ∧ IsC (w1.alloc (.cells (foundC (lsn : Nat) (x : Nat)) 122)) w1.heap.size (foundC (lsn : Nat) (x : Nat)) 122 ∧ w1.heap.size ∉ Tk ob nb (w1.alloc (.cells (foundC (lsn : Nat) (x : Nat)) 122))) := Lib.hid (by
        have hob : ob < wr.heap.size := Nat.lt_of_lt_of_le (HALL.out.2.2.2.2.1 ob (by simp [Tk])) HK.out.2.2.1
        have hof : Off [] wr (w1.alloc (.cells (foundC (lsn : Nat) (x : Nat)) 122)) := HO1.out.alloc _
        refine ⟨HK.out.2.2.trans (Kp.off hof hob), IsC.new _ _ _, fun hz => ?_⟩
        rw [Tk.off hof hob] at hz
        have := HK.out.2.2.2.2.2 HALL.out.2.2.2.2.1 _ hz
        have := HO1.out.size
        omega)
      clear hJ5 hR
      unfold encB foundC at hy
      gi_wp2_with fail
      refine HR.out.mono ?_
      rintro e W6 (⟨rfl, hJ6, hk6⟩ | ⟨rfl, hJx6⟩)
      · have ht5 := HWV.out.2.1.kp hk6 HWV.out.2.2
        have c1 := ht5.cell 1
        simp only [foundC, List.getElem?_toArray, List.getElem?_cons_zero, List.getElem?_cons_succ] at c1
        have H6 := Lib.hid (And.intro hJ6 (HWV.out.1.trans hk6))
        clear hJ6 hk6 ht5 hy
        have hb0 : (0 : Int) ≤ 34 * (pre.length : Int) := by omega
        have hb1 : 34 * (pre.length : Int) ≤ 68000 := by have := HIL.out; have := HID.out.2.1; omega
        gi_wp2_with fail
        go_roundw
        case rel => exact ⟨pre ++ [x], rest, by rw [hx]; simp, by simp only [List.length_append, List.length_cons, List.length_nil]; go_num, by rw [HIT.out.2]; exact H6.out.1, H6.out.2⟩
        case measure => have := HIL.out; simp [intOf]; omega
      · have HJX := Lib.hid hJx6
        clear hJx6 hy
        gi_wp2_with fail
        refine bodyPost_ret (results_none rfl _ _ _) rfl ?_
        rw [HP.out]
        exact ⟨⟨_, rfl⟩, .inr ⟨_, ⟨itemsB (lsn + 34) rest, by rw [HIT.out.1]; simp⟩, HJX.out⟩⟩
end Go.Proofs.YtfdgiblkllfpjaaGreatDoor

/- scan: All of a log of begins. -/
set_option linter.unusedVariables false
set_option linter.unusedSimpArgs false
namespace Go.Proofs.YtfdgiblkllfpjaaGreatDoor
open Go.ChangeShapes Go.WideShapes Go.ChangeAt Go.RowKit

theorem wpIn_app {F : Fence} {fn : Nat} {P : Program} {w : World} {e : TypeId} {sz : Nat} {v : Value} {n : Nat} {xs : List Value} {ops : Array Oper} {rest : List Oper} {o : Oper} {a : Act} {Q : Exit → Act → World → Prop} (hgd : o.guard = none) (s x : Operand) (t tx : TypeId)
    (ho : o.op = .call { callee := .builtin .append, args := #[s, x], argTypes := #[t, tx] })
    {z : Value} {bytes : Nat} (hs : a.eval s = v) (h : Own w e sz v n xs) (ht : P.underlying t = some (.slice e)) (hinfo : (P.info? e).map (fun i => (i.zero, i.size, i.bytes)) = some (some z, sz, bytes))
    (hzs : z.cells.size = sz) (hp : 0 < bytes) {u : Value} {m : Nat} {news : List Value} (hx : a.eval x = u) (hsrc : Src P sz tx u m news w) (hb : (n + m) * bytes ≤ 140737488355328)
    (hK : ∀ ao cap w', Own w' e sz (.slice ao (n + m) cap) (n + m) (xs ++ news) → Off (blk v) w w' → (blk (.slice ao (n + m) cap) = blk v ∨ blk (.slice ao (n + m) cap) = [w.heap.size]) → wpListIn F fn P ops Q rest (a.put o.dst (.slice ao (n + m) cap)) w') : wpListIn F fn P ops Q (o :: rest) a w := by
  obtain ⟨i, hi, hz, hsz, hby⟩ := info_parts hinfo
  have h63 : n + m ≤ maxLen := by
    have h1 : (n + m) * 1 ≤ (n + m) * bytes := Nat.mul_le_mul_left _ hp
    simp only [maxLen]; omega
  refine wpListIn_plain hgd fun K hK' => ?_
  obtain ⟨v', w', hr, h1, h2, h3⟩ := run_append_vec (P := P) h (ty := o.type) ht hi hz hsz hby hzs hsrc h63 hb
  obtain ⟨ao, cap, rfl, _⟩ := Own.val h1
  unfold Oper.wpIn
  refine ⟨?_, ?_⟩
  · simp [Oper.about, ho, resolve, Target.leads, Sem.run_pure]
  · rw [Oper.semAt_plain F _ _ (by rw [ho]; intro c hc'; cases hc')]
    simp [execOp, ho, resolve, invoke, builtin, hs, hx, hr, Result.andThen]
    exact hK' _ _ (hK ao cap w' h1 h2 h3)
theorem iinfo122 : (Tryz.prog.info? 122).map (fun i => (i.zero, i.size, i.bytes)) = some (some (.agg found0), 13, 168) := by kernel_rfl
theorem IsC.grown {W W' : World} {b : Nat} {cs : Array Value} {T : TypeId} {row : Option Nat} (h : IsC W b cs T) (hg : W.grownBy W' row) (hr : ∀ r, row = some r → ∃ o : Obj, W.heap[r]? = some o ∧ o.isCells = false) : IsC W' b cs T := by
  unfold IsC at *
  rw [hg.block b (Array.getElem?_eq_some_iff.1 h).1 (fun e => ?_)]; exact h
  obtain ⟨o, h1, h2⟩ := hr b e.symm
  rw [h] at h1; cases h1; cases h2
def founds (l : List (Nat × Nat)) : List Value := l.flatMap (fun i => (foundC (i.1 : Nat) (i.2 : Nat)).toList)
def AllI (w : World) (ob nb : Nat) (pre : List (Nat × Nat)) (W : World) : Prop :=
  ∃ ao cap, IsC W ob #[.slice ao pre.length cap] 118 ∧ IsC W nb #[.int .i64 ((34 * pre.length : Nat) : Int)] 3 ∧ Own W 122 13 (.slice ao pre.length cap) pre.length (founds pre) ∧ (∀ z ∈ blk (.slice ao pre.length cap), nb < z) ∧ Off [] w W
def AllA (ob nb : Nat) (fr : Nat × Nat → Nat → Act) (x : Nat × Nat) (a : Act) (W : World) : Prop :=
  ∃ fb ao n cap, a = fr x fb ∧ IsC W fb (foundC (x.1 : Nat) (x.2 : Nat)) 122 ∧ IsC W ob #[.slice ao n cap] 118 ∧ fb ∉ blk (.slice ao n cap) ∧ nb < fb
theorem AllI.own {w : World} {ob nb B : Nat} (hB : w.heap.size ≤ B) : OwnFrom B (AllI w ob nb) := by
  rintro pre W W' row ⟨ao, cap, h1, h2, h3, h4, h5⟩ hg hr
  have hr' : ∀ r, row = some r → ∃ o : Obj, W.heap[r]? = some o ∧ o.isCells = false := fun r e => (hr r e).2
  refine ⟨ao, cap, h1.grown hg hr', h2.grown hg hr', ⟨h3.1, ?_⟩, h4, hg.os.trans h5.os, hg.tape.trans h5.tape, hg.output.trans h5.output, Nat.le_trans h5.size hg.size, fun k hk hn => ?_⟩
  · rcases h3.2 with e | ⟨g, off, cap', cur, e, hc, r⟩
    · exact .inl e
    · exact .inr ⟨g, off, cap', cur, e, hc.grown hg hr', r⟩
  · rw [hg.block k (Nat.lt_of_lt_of_le hk h5.size) (fun e => ?_)]; exact h5.old k hk hn
    have := (hr k e.symm).1
    omega
theorem AllA.own {ob nb B : Nat} {fr : Nat × Nat → Nat → Act} {x : Nat × Nat} {a : Act} : OwnFrom B (fun (_ : Unit) W => AllA ob nb fr x a W) := by
  rintro _ W W' row ⟨fb, ao, n, cap, h1, h2, h3, h4, h5⟩ hg hr
  have hr' : ∀ r, row = some r → ∃ o : Obj, W.heap[r]? = some o ∧ o.isCells = false := fun r e => (hr r e).2
  exact ⟨fb, ao, n, cap, h1, h2.grown hg hr', h3.grown hg hr', h4, h5⟩
theorem Tk.is {ob nb : Nat} {W : World} {v : Value} (h : IsC W ob #[v] 118) : Tk ob nb W = ob :: nb :: blk v := by
  unfold Tk
  rw [h.cell]; rfl
/-- What is written lies in cells that a round may write. -/
theorem Kp.write {ob nb : Nat} {W W' : World} {v v' : Value} (h : IsC W ob #[v] 118) (h' : IsC W' ob #[v'] 118) (ho : Off (ob :: nb :: blk v) W W') (hb : ∀ z ∈ blk v', z ∈ blk v ∨ W.heap.size ≤ z) (hlt : ∀ z ∈ blk v', z < W'.heap.size) : Kp ob nb W W' := by
  have hs := ho.size
  refine ⟨hs, fun b o hb' _ hn => ?_, fun z hz => ?_, fun hv z hz => ?_⟩
  · rw [ho.old b (Array.getElem?_eq_some_iff.1 hb').1 (by rw [← Tk.is h]; exact hn)]; exact hb'
  · rw [Tk.is h'] at hz; rw [Tk.is h]
    simp only [List.mem_cons] at hz ⊢
    rcases hz with e | e | e
    · exact .inl (.inl e)
    · exact .inl (.inr (.inl e))
    · rcases hb z e with q | q
      · exact .inl (.inr (.inr q))
      · exact .inr q
  · rw [Tk.is h'] at hz
    simp only [List.mem_cons] at hz
    rcases hz with e | e | e
    · have := hv z (by rw [Tk.is h]; simp [e]); omega
    · have := hv z (by rw [Tk.is h]; simp [e]); omega
    · exact hlt z e
theorem KeepsFrom.offs {B : Nat} {S : List Nat} {W W' : World} (ho : Off S W W') (hc : ∀ z ∈ S, ∀ o, W.heap[z]? = some o → o.isCells = true) : KeepsFrom B W W' := by
  refine ⟨ho.size, fun k o _ hk hn => ?_⟩
  rw [ho.old k (Array.getElem?_eq_some_iff.1 hk).1 (fun hz => ?_)]; exact hk
  rw [hc k hz o hk] at hn; cases hn
/-- What a round comes to. -/
theorem all_end {w W W2 : World} {B ob nb : Nat} {pre : List (Nat × Nat)} {x : Nat × Nat} {ao ao3 : Option Addr} {cap cap3 : Nat} (hob : w.heap.size = ob) (hnb : nb = ob + 1) (h1 : IsC W ob #[.slice ao pre.length cap] 118) (h2 : IsC W nb #[.int .i64 ((34 * pre.length : Nat) : Int)] 3) (h3 : Own W 122 13 (.slice ao pre.length cap) pre.length (founds pre)) (h4 : ∀ z ∈ blk (.slice ao pre.length cap), nb < z) (h5 : Off [] w W)
    (o1 : Own W2 122 13 (.slice ao3 (pre.length + 1) cap3) (pre.length + 1) (founds pre ++ (foundC (x.1 : Nat) (x.2 : Nat)).toList)) (o2 : Off (blk (.slice ao pre.length cap)) W W2) (o3 : blk (.slice ao3 (pre.length + 1) cap3) = blk (.slice ao pre.length cap) ∨ ∀ z ∈ blk (.slice ao3 (pre.length + 1) cap3), W.heap.size ≤ z) :
    KeepsFrom B W ((W2.setCell ⟨ob, 0, none⟩ (.slice ao3 (pre.length + 1) cap3)).setCell ⟨nb, 0, none⟩ (.int .i64 ((34 * (pre.length + 1) : Nat) : Int))) ∧
      Kp ob nb W ((W2.setCell ⟨ob, 0, none⟩ (.slice ao3 (pre.length + 1) cap3)).setCell ⟨nb, 0, none⟩ (.int .i64 ((34 * (pre.length + 1) : Nat) : Int))) ∧
      AllI w ob nb (pre ++ [x]) ((W2.setCell ⟨ob, 0, none⟩ (.slice ao3 (pre.length + 1) cap3)).setCell ⟨nb, 0, none⟩ (.int .i64 ((34 * (pre.length + 1) : Nat) : Int))) := by
  have hbl := h1.lt
  have hnl := h2.lt
  have hn4 : ob ∉ blk (.slice ao pre.length cap) ∧ nb ∉ blk (.slice ao pre.length cap) := ⟨fun hz => by have := h4 _ hz; omega, fun hz => by have := h4 _ hz; omega⟩
  have hz3 : ∀ z ∈ blk (.slice ao3 (pre.length + 1) cap3), nb < z := fun z hz => by
    rcases o3 with e | e
    · rw [e] at hz; exact h4 z hz
    · have := e z hz; omega
  have hs2 := o2.size
  have a1 := h1.off o2 hn4.1
  have a2 := h2.off o2 hn4.2
  have b1 : Off [ob] W2 (W2.setCell ⟨ob, 0, none⟩ (.slice ao3 (pre.length + 1) cap3)) := (Off.refl [ob] W2).setCell (.inl (by simp)) _
  have c1 : IsC (W2.setCell ⟨ob, 0, none⟩ (.slice ao3 (pre.length + 1) cap3)) ob #[.slice ao3 (pre.length + 1) cap3] 118 := a1.set 0 _
  have c2 := a2.off b1 (by simp; omega)
  have c3 := Own.off o1 b1 (fun z hz hz' => by simp at hz'; subst hz'; have := hz3 _ hz; omega)
  generalize W2.setCell ⟨ob, 0, none⟩ (.slice ao3 (pre.length + 1) cap3) = W3 at *
  have b2 : Off [nb] W3 (W3.setCell ⟨nb, 0, none⟩ (.int .i64 ((34 * (pre.length + 1) : Nat) : Int))) := (Off.refl [nb] W3).setCell (.inl (by simp)) _
  have d1 := c1.off b2 (by simp; omega)
  have d2 : IsC (W3.setCell ⟨nb, 0, none⟩ (.int .i64 ((34 * (pre.length + 1) : Nat) : Int))) nb #[.int .i64 ((34 * (pre.length + 1) : Nat) : Int)] 3 := c2.set 0 _
  have d3 := Own.off c3 b2 (fun z hz hz' => by simp at hz'; subst hz'; have := hz3 _ hz; omega)
  generalize W3.setCell ⟨nb, 0, none⟩ (.int .i64 ((34 * (pre.length + 1) : Nat) : Int)) = W4 at *
  have hall : Off (ob :: nb :: blk (.slice ao pre.length cap)) W W4 := ((o2.mono (fun z hz => .inl (by simp [hz]))).trans b1 (fun z hz => .inl (by simp at hz; simp [hz]))).trans b2 (fun z hz => .inl (by simp at hz; simp [hz]))
  refine ⟨KeepsFrom.offs hall (fun z hz o hzo => ?_), Kp.write h1 d1 hall (fun z hz => ?_) (Own.lt d3), ?_⟩
  · simp only [List.mem_cons] at hz
    rcases hz with e | e | e
    · subst e; unfold IsC at h1; rw [h1] at hzo; cases hzo; rfl
    · subst e; unfold IsC at h2; rw [h2] at hzo; cases hzo; rfl
    · rcases h3.2 with ⟨q, _⟩ | ⟨g, off, cap', cur, q, hc, _⟩
      · rw [q] at e; simp [blk] at e
      · rw [q] at e; simp [blk] at e; subst e
        unfold IsC at hc; rw [hc] at hzo; cases hzo; rfl
  · rcases o3 with e | e
    · exact .inl (by rw [e] at hz; exact hz)
    · exact .inr (e z hz)
  · have hl : (pre ++ [x]).length = pre.length + 1 := by simp
    have hf : founds (pre ++ [x]) = founds pre ++ (foundC (x.1 : Nat) (x.2 : Nat)).toList := by unfold founds; simp
    refine ⟨ao3, cap3, by rw [hl]; exact d1, by rw [hl]; exact d2, by rw [hl, hf]; exact d3, by rw [hl]; exact hz3, h5.trans hall (fun z hz => .inr ?_)⟩
    simp only [List.mem_cons] at hz
    rcases hz with e | e | e
    · omega
    · omega
    · have := h4 z e; omega
theorem stops169_in {t : Nat → Nat} (n : Nat) (hn : 1 ≤ n) (bb lb ob nb base : Nat) (v : Value) (ids : List Nat) (w : World) (ht : Tbl t w) (hb : IsC w bb #[.int .i64 (base : Nat)] 3) (hl : IsC w lb #[v] 22) (h : IsB w v (logB t (base + 1) ids)) (hids : ∀ x ∈ ids, 1 ≤ x ∧ x ≤ 64) (hlen : ids.length ≤ 2000) (hbase : base ≤ 1152921504606715904)
    (hT : ∀ z ∈ Tk ob nb w, z < w.heap.size) (hTn : 0 ∉ Tk ob nb w ∧ bb ∉ Tk ob nb w ∧ lb ∉ Tk ob nb w ∧ ∀ z ∈ blk v, z ∉ Tk ob nb w) :
    SeqStopsK Fence.wide n Tryz.prog 169 #[.pointer (some ⟨bb, 0, none⟩), .pointer (some ⟨lb, 0, none⟩)] encB (Kp ob nb) (fun ys => ys = itemsB (base + 1) ids) (fun pre => pre <+: itemsB (base + 1) ids) (itemsB (base + 1) ids).length w := by
  intro l J Jx W hW hJ hJx hY h0
  have ho : Off [] w W := Below.offN hW
  have hTk := Tk.off (ob := ob) (nb := nb) ho (hT ob (by simp [Tk]))
  exact frames169_in n hn l bb lb ob nb base v ids J Jx W hJ hY (ht.off ho (by simp)) (hb.off ho (by simp)) (hl.off ho (by simp)) (h.off ho (by simp)) hids hlen hbase (by rw [hTk]; exact fun z hz => Nat.lt_of_lt_of_le (hT z hz) ho.size) (by rw [hTk]; exact hTn) h0
end Go.Proofs.YtfdgiblkllfpjaaGreatDoor

/- scan: All of a log of begins: the walk. -/
set_option linter.unusedVariables false
set_option linter.unusedSimpArgs false
namespace Go.Proofs.YtfdgiblkllfpjaaGreatDoor
open Go.ChangeShapes Go.WideShapes Go.ChangeAt Go.RowKit

theorem Own.grown {W W' : World} {e : TypeId} {sz n : Nat} {v : Value} {xs : List Value} {row : Option Nat} (h : Own W e sz v n xs) (hg : W.grownBy W' row) (hr : ∀ r, row = some r → ∃ o : Obj, W.heap[r]? = some o ∧ o.isCells = false) : Own W' e sz v n xs := by
  refine ⟨h.1, ?_⟩
  rcases h.2 with q | ⟨g, off, cap', cur, q, hc, r⟩
  · exact .inl q
  · exact .inr ⟨g, off, cap', cur, q, hc.grown hg hr, r⟩
def AllPost (w : World) (its : List (Nat × Nat)) (e : Ending) (w' : World) : Prop :=
  ∃ ao cap, e = .returned (.tuple #[.slice ao its.length cap, .int .i64 ((34 * its.length : Nat) : Int)]) ∧ Own w' 122 13 (.slice ao its.length cap) its.length (founds its) ∧ Off [] w w' ∧ ∀ z ∈ blk (.slice ao its.length cap), w.heap.size ≤ z
attribute [local go_sem] Oper.semAt_some
set_option maxRecDepth 100000 in
set_option maxHeartbeats 8000000 in
theorem all52 {t : Nat → Nat} (v : Value) (base : Nat) (ids : List Nat) (w : World) (ht : Tbl t w) (h : IsB w v (logB t (base + 1) ids)) (hids : ∀ x ∈ ids, 1 ≤ x ∧ x ≤ 64) (hlen : ids.length ≤ 2000) (hbase : base ≤ 1152921504606715904) :
    Calls Tryz.prog 52 #[v, .int .i64 (base : Nat)] w (AllPost w (itemsB (base + 1) ids)) := by
  obtain ⟨ao, cap, rfl⟩ := h.val
  obtain ⟨n, hn⟩ : ∃ n, n = (logB t (base + 1) ids).length := ⟨_, rfl⟩
  rw [← hn] at h ⊢
  clear hn
  refine (callsIn_wide (n := 5)).1 ?_
  have h1 : 1 ≤ 5 := by omega
  have HF : Hid (∀ W, Calls Tryz.prog 112 #[.slice ao n cap, .int .i64 (base : Nat)] W fun e w' => e = .returned (.func (.func 169) #[] #[.pointer (some ⟨W.heap.size + 1, 0, none⟩), .pointer (some ⟨W.heap.size, 0, none⟩)]) ∧ w' = (W.alloc (.cells #[.slice ao n cap] 22)).alloc (.cells #[.int .i64 (base : Nat)] 3)) := Lib.hid (fun W => frames112 _ _ _ base W)
  refine callsIn_of_wp_marks Tryz.func52 rfl trivial ?_ rfl
  simp only [Tryz.ntmps52, List.size_toArray, List.length_cons, List.length_nil, Nat.reduceAdd, Nat.reduceSub, Array.replicate_succ, Array.replicate_zero, List.push_toArray, List.append_toArray, List.nil_append, List.cons_append]
  gi_wp2_with (refine ⟨trivial, ?_⟩; gi_at_call 112; refine (callsIn_wide.2 (HF.out _)).mono ?_; rintro e w' ⟨rfl, rfl⟩)
  obtain ⟨W0, hW0⟩ : ∃ W0, W0 = (((w.alloc (.cells #[.slice none 0 0] 118)).alloc (.cells #[.int .i64 0] 3)).alloc (.cells #[.slice ao n cap] 22)).alloc (.cells #[.int .i64 (base : Nat)] 3) := ⟨_, rfl⟩
  rw [← hW0]
  have hsz : W0.heap.size = w.heap.size + 4 := by rw [hW0]; simp
  have ho : Off [] w W0 := by rw [hW0]; exact ((((Off.refl [] w).alloc _).alloc _).alloc _).alloc _
  have i0 : IsC W0 w.heap.size #[.slice none 0 0] 118 := by rw [hW0]; exact (((IsC.new w _ 118).alloc _).alloc _).alloc _
  have i1 : IsC W0 (w.heap.size + 1) #[.int .i64 0] 3 := by rw [hW0]; exact ((IsC.newAt _ (by simp)).alloc _).alloc _
  have i2 : IsC W0 (w.heap.size + 1 + 1) #[.slice ao n cap] 22 := by rw [hW0]; exact (IsC.newAt _ (by simp)).alloc _
  have i3 : IsC W0 (w.heap.size + 1 + 1 + 1) #[.int .i64 (base : Nat)] 3 := by rw [hW0]; exact IsC.newAt _ (by simp)
  have hTk : Tk w.heap.size (w.heap.size + 1) W0 = [w.heap.size, w.heap.size + 1] := by rw [Tk.is i0]; rfl
  have hhl := h.lt
  have hb0 := ht.1
  clear hW0
  refine wpIn_rangeFunc_ownH rfl h1 (gf := 169) (lb := #[.pointer (some ⟨w.heap.size + 1 + 1 + 1, 0, none⟩), .pointer (some ⟨w.heap.size + 1 + 1, 0, none⟩)]) rfl trivial (enters_of Tryz.func169 (by kernel_rfl) rfl)
    (stops169_in 4 (by omega) (w.heap.size + 1 + 1 + 1) (w.heap.size + 1 + 1) w.heap.size (w.heap.size + 1) base (.slice ao n cap) ids W0 (ht.off ho (by simp)) i3 i2 (h.off ho (by simp)) hids hlen hbase (by rw [hTk, hsz]; intro z hz; simp at hz; omega)
      (by rw [hTk]; simp only [List.mem_cons, List.not_mem_nil, or_false, not_or]; exact ⟨by omega, by omega, by omega, fun z hz => by have := hhl z hz; omega⟩))
    (fun h k => h.trans k) ?kb (Below.refl _ _) (fun x => rfl)
    (AllI w w.heap.size (w.heap.size + 1)) (fun _ _ _ => False) (AllI.own (by omega)) (fun _ _ _ _ _ hs _ _ => hs)
    ⟨none, 0, i0, i1, Own.nil _ _ _, by simp [blk], ho⟩
    (AllA w.heap.size (w.heap.size + 1) (fun x fb => { tmps := #[.slice ao n cap, .int .i64 (base : Nat), undef, undef, .slice none 0 0, .int .i64 0, .pointer (some ⟨w.heap.size, 0, none⟩), .pointer (some ⟨w.heap.size + 1, 0, none⟩), .pointer (some ⟨fb, 0, none⟩), .slice ao n cap, .int .i64 (base : Nat), .func (.func 169) #[] #[.pointer (some ⟨w.heap.size + 1 + 1 + 1, 0, none⟩), .pointer (some ⟨w.heap.size + 1 + 1, 0, none⟩)], .agg (foundC (x.1 : Nat) (x.2 : Nat)), undef, undef, undef, undef, undef, undef, undef, undef, undef, undef], defers := [] })) (fun x a' => AllA.own) ?assign ?body ?done ?stop
  case stop =>
    rintro D c pre W _ _ hh _
    exact hh.elim
  case kb =>
    intro W l o o' hl hlo hc hw
    have hne : ∀ b o1, W.heap[b]? = some o1 → o1.isCells = true → b ≠ l := fun b o1 h1 h2 e => by subst e; rw [hlo] at h1; cases h1; rw [hc] at h2; cases h2
    have hcell : (W.putObj l o').cell? ⟨w.heap.size, 0, none⟩ = W.cell? ⟨w.heap.size, 0, none⟩ := World.cell?_of_block (a := ⟨w.heap.size, 0, none⟩) (World.putObj_heap_other (by show w.heap.size ≠ l; omega))
    have hTT : Tk w.heap.size (w.heap.size + 1) (W.putObj l o') = Tk w.heap.size (w.heap.size + 1) W := by unfold Tk; rw [hcell]
    have hps : (W.putObj l o').heap.size = W.heap.size := by simp [World.putObj]
    exact ⟨by omega, fun b o1 h1 h2 _ => by rw [World.putObj_heap_other (hne b o1 h1 h2)]; exact h1, fun z hz => .inl (by rw [hTT] at hz; exact hz), fun hv z hz => by rw [hTT] at hz; rw [hps]; exact hv z hz⟩
  case assign =>
    rintro l pre x W K ⟨ao1, cap1, g1, g2, g3, g4, g5⟩ hK
    have HG := Lib.hid (And.intro g1 (And.intro g2 (And.intro g3 (And.intro g4 g5))))
    have HK := Lib.hid hK
    clear g1 g2 g3 g4 g5 hK
    have HFI : Hid (∀ a', a' = (fun x fb => { tmps := #[.slice ao n cap, .int .i64 (base : Nat), undef, undef, .slice none 0 0, .int .i64 0, .pointer (some ⟨w.heap.size, 0, none⟩), .pointer (some ⟨w.heap.size + 1, 0, none⟩), .pointer (some ⟨fb, 0, none⟩), .slice ao n cap, .int .i64 (base : Nat), .func (.func 169) #[] #[.pointer (some ⟨w.heap.size + 1 + 1 + 1, 0, none⟩), .pointer (some ⟨w.heap.size + 1 + 1, 0, none⟩)], .agg (foundC (x.1 : Nat) (x.2 : Nat)), undef, undef, undef, undef, undef, undef, undef, undef, undef, undef], defers := [] }) x W.heap.size → K a' (W.alloc (.cells (foundC (x.1 : Nat) (x.2 : Nat)) 122))) := Lib.hid (fun a' ha => by
      obtain ⟨g1, g2, g3, g4, g5⟩ := HG.out
      refine HK.out a' _ ((KeepsOthers.alloc W _).from _) (Kp.off ((Off.refl [] W).alloc _) g1.lt) ⟨ao1, cap1, g1.alloc _, g2.alloc _, Own.off g3 ((Off.refl [] W).alloc _) (by simp), g4, g5.alloc _⟩ ?_
      exact ⟨W.heap.size, ao1, pre.length, cap1, ha, IsC.new _ _ _, g1.alloc _, fun hz => by have := Own.lt g3 _ hz; omega, g2.lt⟩)
    clear HK HG
    obtain ⟨x1, x2⟩ := x
    unfold encB
    unfold foundC at HFI ⊢
    simp only [List.zip, Array.zip, Array.foldl] 
    gi_wp2
    exact HFI.out _ rfl
  case body =>
    rintro l pre x a' W hl hr ⟨ao1, cap1, g1, g2, g3, g4, g5⟩ ⟨fb, ao2, n2, cap2, rfl, f1, f2, f3, f4⟩ hpre
    obtain ⟨e1, e2, e3⟩ : ao2 = ao1 ∧ n2 = pre.length ∧ cap2 = cap1 := by
      unfold IsC at f2 g1
      rw [g1] at f2
      simp at f2
      exact ⟨f2.1.symm, f2.2.1.symm, f2.2.2.symm⟩
    subst e1; subst e2; subst e3
    obtain ⟨x1, x2⟩ := x
    rw [itemsB_len] at hpre
    have HPL : Hid (pre.length < 2000) := Lib.hid (by omega)
    have HG := Lib.hid (And.intro g1 (And.intro g2 (And.intro g3 (And.intro g4 g5))))
    have HFB := Lib.hid (And.intro f3 f4)
    have c0 := g1.cell 0
    have d0 := g2.cell 0
    have q0 := f1.cell 0
    have q1 := f1.cell 1
    have q2 := f1.cell 2
    have q3 := f1.cell 3
    have q4 := f1.cell 4
    have q5 := f1.cell 5
    have q6 := f1.cell 6
    have q7 := f1.cell 7
    have q8 := f1.cell 8
    have q9 := f1.cell 9
    have q10 := f1.cell 10
    have q11 := f1.cell 11
    have q12 := f1.cell 12
    simp only [foundC, List.getElem?_toArray, List.getElem?_cons_zero, List.getElem?_cons_succ] at c0 d0 q0 q1 q2 q3 q4 q5 q6 q7 q8 q9 q10 q11 q12
    have HOWN : Hid (Own (W.alloc (.cells #[.int .i64 (x1 : Nat), .int .i64 34, .int .i64 1, .int .i64 0, .int .i64 0, .int .i64 (x2 : Nat), .int .i64 0, .int .i64 0, .slice none 0 0, .slice none 0 0, .int .i64 0, .slice none 0 0, .slice none 0 0] 122)) 122 13 (.slice ao2 pre.length cap2) pre.length (founds pre)) := Lib.hid (Own.off g3 ((Off.refl [] W).alloc _) (by simp))
    have HSRC := Lib.hid (src_new (P := Tryz.prog) W (t := 118) (e := 122) (e' := 122) (sz := 13) #[.int .i64 (x1 : Nat), .int .i64 34, .int .i64 1, .int .i64 0, .int .i64 0, .int .i64 (x2 : Nat), .int .i64 0, .int .i64 0, .slice none 0 0, .slice none 0 0, .int .i64 0, .slice none 0 0, .slice none 0 0] 1 Tryz.underlying118 (by decide) rfl (by simp [Value.oneCell']))
    have HBD : Hid ((pre.length + 1) * 168 ≤ 140737488355328) := Lib.hid (by have := HPL.out; omega)
    have HEND : Hid (∀ ao3 cap3 W2, Own W2 122 13 (.slice ao3 (pre.length + 1) cap3) (pre.length + 1) (founds pre ++ (foundC (x1 : Nat) (x2 : Nat)).toList) → Off (blk (.slice ao2 pre.length cap2)) (W.alloc (.cells #[.int .i64 (x1 : Nat), .int .i64 34, .int .i64 1, .int .i64 0, .int .i64 0, .int .i64 (x2 : Nat), .int .i64 0, .int .i64 0, .slice none 0 0, .slice none 0 0, .int .i64 0, .slice none 0 0, .slice none 0 0] 122)) W2 → (blk (.slice ao3 (pre.length + 1) cap3) = blk (.slice ao2 pre.length cap2) ∨ blk (.slice ao3 (pre.length + 1) cap3) = [(W.alloc (.cells #[.int .i64 (x1 : Nat), .int .i64 34, .int .i64 1, .int .i64 0, .int .i64 0, .int .i64 (x2 : Nat), .int .i64 0, .int .i64 0, .slice none 0 0, .slice none 0 0, .int .i64 0, .slice none 0 0, .slice none 0 0] 122)).heap.size]) →
        W2.cell? ⟨w.heap.size, 0, none⟩ = some (.slice ao2 pre.length cap2) ∧ W2.cell? ⟨w.heap.size + 1, 0, none⟩ = some (.int .i64 ((34 * pre.length : Nat) : Int)) ∧ W2.cell? ⟨fb, 1, none⟩ = some (.int .i64 34) ∧ (∀ o, W2.frozen? ⟨w.heap.size, o, none⟩ = false) ∧ (∀ o, W2.frozen? ⟨w.heap.size + 1, o, none⟩ = false) ∧ fb ≠ w.heap.size ∧
          ownPostG W0.heap.size (Kp w.heap.size (w.heap.size + 1)) (AllI w w.heap.size (w.heap.size + 1)) (fun _ _ _ => False) (pre ++ [(x1, x2)]) W .normal { tmps := #[], defers := [] } ((W2.setCell ⟨w.heap.size, 0, none⟩ (.slice ao3 (pre.length + 1) cap3)).setCell ⟨w.heap.size + 1, 0, none⟩ (.int .i64 ((34 * (pre.length + 1) : Nat) : Int)))) := Lib.hid (fun ao3 cap3 W2 r1 r2 r3 => by
      obtain ⟨g1, g2, g3, g4, g5⟩ := HG.out
      have r2' : Off (blk (.slice ao2 pre.length cap2)) W W2 := (((Off.refl [] W).alloc (.cells #[.int .i64 (x1 : Nat), .int .i64 34, .int .i64 1, .int .i64 0, .int .i64 0, .int .i64 (x2 : Nat), .int .i64 0, .int .i64 0, .slice none 0 0, .slice none 0 0, .int .i64 0, .slice none 0 0, .slice none 0 0] 122)).mono (by simp)).trans r2 (fun z hz => .inl hz)
      have hn1 : w.heap.size ∉ blk (.slice ao2 pre.length cap2) := fun hz => by have := g4 _ hz; omega
      have hn2 : w.heap.size + 1 ∉ blk (.slice ao2 pre.length cap2) := fun hz => by have := g4 _ hz; omega
      have y1 := g1.off r2' hn1
      have y2 := g2.off r2' hn2
      have y3 := f1.off r2' HFB.out.1
      refine ⟨by rw [y1.cell]; rfl, by rw [y2.cell]; rfl, by rw [y3.cell]; rfl, fun o => y1.unfrozen o, fun o => y2.unfrozen o, by have := HFB.out.2; omega, ?_⟩
      exact all_end (x := (x1, x2)) rfl rfl g1 g2 g3 g4 g5 r1 r2' (r3.imp_right fun q z hz => by rw [q] at hz; simp at hz; omega))
    have hb0' : (0 : Int) ≤ (pre.length : Int) := by omega
    have hb1' : (pre.length : Int) ≤ 2000 := by have := HPL.out; omega
    clear g1 g2 g3 g4 g5 f1 f2 f3 f4 hl hr hpre ht h hids hlen hbase i0 i1 i2 i3 hTk hhl hb0 ho hsz
    unfold foundC
    gi_wp2_with (gi_at_builtin; refine wpIn_app rfl _ _ 118 118 rfl rfl HOWN.out Tryz.underlying118 iinfo122 rfl (by decide) rfl HSRC.out HBD.out ?_)
    intro ao3 cap3 W2 r1 r2 r3
    obtain ⟨z1, z2, z3, z4, z5, z6, z7⟩ := HEND.out ao3 cap3 W2 r1 r2 (by simpa using r3)
    have HE := Lib.hid z7
    clear r1 r2 r3 z7 HEND HOWN HSRC
    gi_wp2_with fail
    exact HE.out
  case done =>
    rintro D ys W hD rfl ⟨ao1, cap1, g1, g2, g3, g4, g5⟩ hK
    have HG := Lib.hid (And.intro g3 (And.intro g4 g5))
    have c0 := g1.cell 0
    have d0 := g2.cell 0
    simp only [List.getElem?_toArray, List.getElem?_cons_zero] at c0 d0
    have HD : Hid (w.heap.size ≤ D ∧ W.heap[D]? = some (.deferred (some []))) := Lib.hid ⟨by omega, hK⟩
    clear g1 g2 g3 g4 g5 ht h hids hlen hbase i0 i1 i2 i3 hTk hhl hb0 ho hsz hD
    gi_wp2
    gi_region
    all_goals (try gi_wp2)
    refine ⟨by simp, .inl ⟨_, _, rfl, run_takeDeferred (show W.drew.heap[D]? = some (.deferred (some [])) from hK), ?_⟩⟩
    refine ⟨_, results_tmp2 rfl _ _ _, ao1, cap1, rfl, ?_, ?_, fun z hz => by have := HG.out.2.1 z hz; omega⟩
    · exact Own.grown (W := W.drew) HG.out.1 (grownBy_putObj' _ D _) (fun r e => by cases e; exact ⟨_, HD.out.2, rfl⟩)
    · have hg := grownBy_putObj' W.drew D (.deferred none)
      refine ⟨hg.os.trans HG.out.2.2.os, hg.tape.trans HG.out.2.2.tape, hg.output.trans HG.out.2.2.output, Nat.le_trans HG.out.2.2.size hg.size, fun k hk hn => ?_⟩
      rw [hg.block k (Nat.lt_of_lt_of_le hk HG.out.2.2.size) (fun e => by cases e; have := HD.out.1; omega)]
      exact HG.out.2.2.old k hk hn
end Go.Proofs.YtfdgiblkllfpjaaGreatDoor

/- wal: Open over a log of begins. -/
set_option linter.unusedVariables false
set_option linter.unusedSimpArgs false
namespace Go.Proofs.YtfdgiblkllfpjaaGreatDoor
open Go.ChangeShapes Go.WideShapes Go.ChangeAt Go.RowKit

def openLog (base : Nat) (its : List (Nat × Nat)) (n : Nat) : LogM := ⟨base, its.map (fun i => (i.1, beginB i.2)), n, n, [], false⟩
def OpenBPost (d : Nat) (fp : List Nat) (m : DiskM) (base : Nat) (ids : List Nat) (w : World) (e : Ending) (w' : World) : Prop :=
  ∃ g fl, e = .returned (.tuple #[.pointer (some ⟨g, 0, none⟩), .int .i64 0]) ∧ LogR w' g d (openLog base (itemsB (base + 1) ids) (34 * ids.length)) fl ∧ DiskKeep d fp m.act w w' ∧ ∀ z ∈ fl, w.heap.size ≤ z
theorem LogS.bytesAt {w : World} {g d base n : Nat} {its : List (Nat × Nat)} {fp : List Nat} (h : LogS 0 w g d (openLog base its 0) fp) (hn : n ≤ 65536) :
    LogS 0 ((w.setCell ⟨g, 6, none⟩ (.int .i64 (n : Nat))).setCell ⟨g, 7, none⟩ (.int .i64 (n : Nat))) g d (openLog base its n) fp ∧ Off [g] w ((w.setCell ⟨g, 6, none⟩ (.int .i64 (n : Nat))).setCell ⟨g, 7, none⟩ (.int .i64 (n : Nat))) := by
  obtain ⟨sema, av, tv, mb, es, clk, ml, fa, h1, h2, h3, h4, h5, rfl, h6, h7, h8, h9, h10⟩ := h
  have ho : Off [g] w ((w.setCell ⟨g, 6, none⟩ (.int .i64 (n : Nat))).setCell ⟨g, 7, none⟩ (.int .i64 (n : Nat))) := ((Off.refl [g] w).setCell (.inl (by simp)) _).setCell (.inl (by simp)) _
  obtain ⟨n1, n2⟩ := List.nodup_cons.1 h6
  refine ⟨⟨sema, av, tv, mb, es, clk, ml, fa, (h1.set 6 _).set 7 _, h2.off ho (fun z hz hz' => by simp at hz'; subst hz'; exact n1 (by simp [hz])), h3.off ho (fun z hz hz' => by simp at hz'; subst hz'; exact n1 (by simp [hz])), h4.off ho (by simp; exact fun e => n1 (by simp [e])), h5, rfl, h6, h7, hn, Nat.le_refl _, by simp [openLog]⟩, ho⟩
theorem newLogS {w : World} {d base : Nat} (hb : base ≤ 1152921504606715904) : LogS 0 ((w.alloc (.map #[] 0)).alloc (.cells (logC 0 (newLog base) d 0 (.slice none 0 0) (.slice none 0 0) w.heap.size) 117)) (w.heap.size + 1) d (openLog base [] 0) [w.heap.size + 1, w.heap.size] := by
  refine ⟨0, .slice none 0 0, .slice none 0 0, w.heap.size, #[], 0, [], [], IsC.newAt _ (by simp), ⟨[], rfl, by exact Own.nil _ _ _, by simp [openLog], by simp [blk]⟩, IsB.nil _, ?_, Ent.nil, by simp [blk], by simp, hb, by simp [openLog], by simp [openLog], by simp [openLog]⟩
  have hm : IsM (w.alloc (.map #[] 0)) w.heap.size #[] 0 := heap_alloc_new w _
  exact IsM.alloc _ hm
theorem founds_len : ∀ l : List (Nat × Nat), (founds l).length = l.length * 13
  | [] => rfl
  | i :: l => by
    have : founds (i :: l) = (foundC (i.1 : Nat) (i.2 : Nat)).toList ++ founds l := rfl
    rw [this, List.length_append, founds_len l]
    simp only [foundC, List.length_cons, List.length_nil]; omega
theorem founds_at : ∀ (l : List (Nat × Nat)) (k : Nat) (i : Nat × Nat), l[k]? = some i → ∀ j, j < 13 → (founds l)[k * 13 + j]? = (foundC (i.1 : Nat) (i.2 : Nat))[j]?
  | [], k, i, h, _, _ => by simp at h
  | a :: l, 0, i, h, j, hj => by
    simp at h; subst h
    have : founds (a :: l) = (foundC (a.1 : Nat) (a.2 : Nat)).toList ++ founds l := rfl
    rw [this, Nat.zero_mul, Nat.zero_add, List.getElem?_append_left (by simp only [foundC, List.length_cons, List.length_nil]; omega), Array.getElem?_toList]
  | a :: l, k + 1, i, h, j, hj => by
    have : founds (a :: l) = (foundC (a.1 : Nat) (a.2 : Nat)).toList ++ founds l := rfl
    have hl : (foundC (a.1 : Nat) (a.2 : Nat)).toList.length = 13 := rfl
    rw [this, List.getElem?_append_right (by rw [hl]; omega), hl, show (k + 1) * 13 + j - 13 = k * 13 + j by omega]
    exact founds_at l k i (by simpa using h) j hj
theorem itemsB_mem : ∀ (lsn : Nat) (ids : List Nat) (i : Nat × Nat), i ∈ itemsB lsn ids → i.2 ∈ ids
  | _, [], i, h => by simp [itemsB] at h
  | lsn, x :: xs, i, h => by
    rw [itemsB_cons] at h
    rcases List.mem_cons.1 h with e | e
    · simp [e]
    · exact List.mem_cons_of_mem _ (itemsB_mem _ xs i e)
/-- Open's loop. -/
def OpenIn (w3 : World) (g d base : Nat) (its : List (Nat × Nat)) (mb k : Nat) (wr : World) : Prop :=
  ∃ fl, LogS 0 wr g d (openLog base (its.take k) 0) fl ∧ Off [g, mb] w3 wr ∧ ∀ z ∈ fl, z = g ∨ z = mb ∨ w3.heap.size ≤ z
end Go.Proofs.YtfdgiblkllfpjaaGreatDoor

/- wal: Open over a log of begins: the walk. -/
set_option linter.unusedVariables false
set_option linter.unusedSimpArgs false
namespace Go.Proofs.YtfdgiblkllfpjaaGreatDoor
open Go.ChangeShapes Go.WideShapes Go.ChangeAt Go.RowKit

set_option maxRecDepth 100000 in
set_option maxHeartbeats 8000000 in
theorem open11_begins {t : Nat → Nat} {w : World} {d : Nat} {m : DiskM} {fp : List Nat} (ht : Tbl t w) (h : DiskR w d m fp) (h0 : 0 ∉ fp) (ha : m.acts < 4611686018427387904) (hs : m.stops = false) (base : Nat) (hb : base ≤ 1152921504606715904) (ids : List Nat) (hl : m.log = logB t (base + 1) ids) (hids : ∀ x ∈ ids, 1 ≤ x ∧ x ≤ 64) (hlen : 34 * ids.length ≤ 65536) (hlg : m.log.length ≤ m.shp.log) :
    Calls Tryz.prog 11 #[.pointer (some ⟨d, 0, none⟩), .int .i64 (base : Nat)] w (OpenBPost d fp m base ids w) := by
  have HM : Hid (∀ W, Calls Tryz.prog 49 #[.int .i64 (base : Nat)] W fun e w' => e = .returned (.bool true) ∧ W = w') := Lib.hid (fun W => may49 base hb W)
  have HSH := Lib.hid (shape51 h)
  obtain ⟨⟨_, _, _, _, _, hlog⟩, _⟩ := h.ok
  have HR : Hid (∀ W, Off [] w W → Calls Tryz.prog 50 #[.pointer (some ⟨d, 0, none⟩), .int .i64 0, .int .i64 (m.shp.log : Nat)] W (ReadPost d fp m m.log W)) := Lib.hid (fun W ho => readLog50 (h.off ho (by simp)) ha _ (by omega) hlg)
  unfold ReadPost at HR
  rw [hs] at HR
  have HLB : Hid (∀ W v, Off fp w W → IsB W v m.log → Calls Tryz.prog 52 #[v, .int .i64 (base : Nat)] W (AllPost W (itemsB (base + 1) ids))) := Lib.hid (fun W v ho hb' => all52 v base ids W (ht.off ho h0) (by rw [← hl]; exact hb') hids (by omega) hb)
  have HBASE := Lib.hid hb
  have HID : Hid (∀ i ∈ itemsB (base + 1) ids, 1 ≤ i.2 ∧ i.2 ≤ 64) := Lib.hid (fun i hi => hids _ (itemsB_mem _ _ _ hi))
  obtain ⟨its, hits⟩ : ∃ its, its = itemsB (base + 1) ids := ⟨_, rfl⟩
  have hil : its.length = ids.length := by rw [hits, itemsB_len]
  obtain ⟨N, hN⟩ : ∃ N, N = its.length := ⟨_, rfl⟩
  have HN : Hid (N = its.length ∧ N = ids.length ∧ 34 * N ≤ 65536 ∧ its = itemsB (base + 1) ids) := Lib.hid ⟨hN, by omega, by omega, hits⟩
  have hN2 : N ≤ 2000 := by omega
  rw [← hits] at HLB HID
  unfold AllPost at HLB
  rw [← hN] at HLB
  obtain ⟨n34, hn34⟩ : ∃ n34, n34 = 34 * N := ⟨_, rfl⟩
  rw [← hn34] at HLB
  have HN34 := Lib.hid hn34
  obtain ⟨P, hP⟩ : ∃ P, P = OpenBPost d fp m base ids w := ⟨_, rfl⟩
  rw [← hP]
  have HP := Lib.hid hP
  have hmm := @run_makeMap Tryz.prog
  have hf2 := field28_2
  clear hP h ha hs hb hl hlg hlog ht h0 hids hlen hits hil hN hn34
  generalize (m.shp.pages : Int) = sp at *
  generalize (m.shp.slots : Int) = ss at *
  generalize (m.shp.log : Int) = sl at *
  go_enter Tryz.func11, Tryz.ntmps11
  go_wp2_with fail
  refine (HM.out _).mono ?_
  rintro e w1 ⟨rfl, rfl⟩
  go_wp2_with fail
  refine HSH.out.mono ?_
  rintro e w1 ⟨rfl, ho1⟩
  have HO1 := Lib.hid ho1
  have HR1 := Lib.hid (HR.out w1 ho1)
  clear ho1 HSH HM HR
  go_wp2_with fail
  refine HR1.out.mono ?_
  rintro e w2 ⟨hk, ⟨hh, _⟩ | ⟨_, ao, cap, rfl, hb2, _⟩⟩
  · cases hh
  have HK := Lib.hid hk
  have HB := Lib.hid hb2
  clear hk hb2 HR1
  generalize m.log.length = ln at *
  have HNL : Hid (LogS 0 ((w2.alloc (.map #[] 0)).alloc (.cells (logC 0 (newLog base) d 0 (.slice none 0 0) (.slice none 0 0) w2.heap.size) 117)) (w2.heap.size + 1) d (openLog base [] 0) [w2.heap.size + 1, w2.heap.size]) := Lib.hid (newLogS HBASE.out)
  have HKO : Hid (DiskKeep d fp m.act w w2) := Lib.hid ⟨HK.out.1, (HO1.out.mono (by simp)).trans HK.out.2 (fun z hz => .inl hz)⟩
  have HAL : Hid (Calls Tryz.prog 52 #[.slice ao ln cap, .int .i64 (base : Nat)] ((w2.alloc (.map #[] 0)).alloc (.cells (logC 0 (newLog base) d 0 (.slice none 0 0) (.slice none 0 0) w2.heap.size) 117)) _) := Lib.hid (HLB.out _ _ ((HKO.out.2.alloc _).alloc _) (IsB.off (S := []) HB.out (((Off.refl [] w2).alloc _).alloc _) (by simp)))
  unfold logC newLog at HAL HNL
  go_wp2_with fail
  refine HAL.out.mono ?_
  rintro e w3 ⟨fo, fc, rfl, hown, ho3, hfr⟩
  obtain ⟨mb, hmb⟩ : ∃ mb, mb = w2.heap.size := ⟨_, rfl⟩
  have hs2 := ho3.size
  simp only [World.size_alloc] at hs2 hfr
  have HW3 : Hid (LogS 0 w3 (mb + 1) d (openLog base [] 0) [mb + 1, mb] ∧ Off [] w2 w3 ∧ mb + 1 < w3.heap.size ∧ w2.heap.size ≤ mb) := Lib.hid ⟨by rw [hmb]; exact HNL.out.off ho3 (by simp), (((Off.refl [] w2).alloc _).alloc _).trans ho3 (by simp), by omega, by omega⟩
  have HOW : Hid (Own w3 122 13 (.slice fo N fc) N (founds its) ∧ ∀ z ∈ blk (.slice fo N fc), mb + 1 < z) := Lib.hid ⟨hown, fun z hz => by have := hfr z hz; omega⟩
  have HMB : Hid (∀ z, mb ≤ z → w.heap.size ≤ z) := Lib.hid (fun z hz => by have := HKO.out.2.size; omega)
  rw [← hmb]
  clear hown ho3 hfr hs2 HAL HNL HLB HB hmb
  obtain ⟨g, hg⟩ : ∃ g, g = mb + 1 := ⟨_, rfl⟩
  rw [← hg] at HW3 HOW ⊢
  have HG := Lib.hid hg
  clear hg
  go_wp2_with fail
  go_loopw [42, 12, 13, 14] (fun i _ _ _ wr => ∃ k : Nat, k ≤ N ∧ i = .int .i64 (k : Int) ∧ OpenIn w3 g d base its mb k wr) (fun i _ _ _ _ => N - (intOf i).toNat)
  case atStart => exact ⟨0, by omega, rfl, [g, mb], HW3.out.1, Off.refl _ _, fun z hz => by simp at hz; rcases hz with e | e; exact .inl e; exact .inr (.inl e)⟩
  case round =>
    obtain ⟨k, hk, rfl, fl, hL, hoL, hfl⟩ := hrel
    have HI := Lib.hid (And.intro hL (And.intro hoL hfl))
    by_cases hkn : k < N
    · have hkn' : (k : Int) < (N : Int) := by omega
      have hk0 : (0 : Int) ≤ (k : Int) := by omega
      obtain ⟨⟨lsn, x⟩, hit⟩ : ∃ i, its[k]? = some i := ⟨_, List.getElem?_eq_getElem (by have := HN.out.1; omega)⟩
      obtain ⟨hx1, hx2⟩ := HID.out _ (List.mem_of_getElem? hit)
      obtain ⟨qb, qo, rfl, hcell⟩ : ∃ qb qo, fo = some ⟨qb, qo, none⟩ ∧ ∀ j, j < 13 → wr.cell? ⟨qb, qo + k * 13 + j, none⟩ = (foundC (lsn : Nat) (x : Nat))[j]? := by
        rcases HOW.out.1.2 with ⟨e, he⟩ | ⟨qb, qo, c', cur, e, hc, _⟩
        · omega
        · injection e with e1 _ e3
          subst e1; subst e3
          refine ⟨qb, qo, rfl, fun j hj => ?_⟩
          have hb' := HOW.out.2 qb (by simp [blk])
          rw [World.cell?_of_block (a := ⟨qb, qo + k * 13 + j, none⟩) (hoL.old qb hc.lt (by simp; have := HG.out; omega)), Nat.add_assoc, Own.cellAt HOW.out.1 (k * 13 + j) (by omega)]
          exact founds_at its k _ hit j hj
      have q0 := hcell 0 (by omega)
      have q1 := hcell 1 (by omega)
      have q2 := hcell 2 (by omega)
      have q3 := hcell 3 (by omega)
      have q4 := hcell 4 (by omega)
      have q5 := hcell 5 (by omega)
      have q6 := hcell 6 (by omega)
      have q7 := hcell 7 (by omega)
      have q8 := hcell 8 (by omega)
      have q9 := hcell 9 (by omega)
      have q10 := hcell 10 (by omega)
      have q11 := hcell 11 (by omega)
      have q12 := hcell 12 (by omega)
      simp only [Nat.add_zero, foundC, List.getElem?_toArray, List.getElem?_cons_zero, List.getElem?_cons_succ] at q0 q1 q2 q3 q4 q5 q6 q7 q8 q9 q10 q11 q12
      have HBY : Hid (∀ W, Calls Tryz.prog 53 #[beginV (x : Nat)] W (StampPost W (beginB x))) := Lib.hid (fun W => bytes53_begin x hx1 hx2 W)
      have HIT := Lib.hid hit
      unfold beginV at HBY
      clear hcell hL hoL hfl hit hx1 hx2
      go_upto_region 11 with fail
      refine gen_world (Φ := fun V => IsC V wr.heap.size (foundC (lsn : Nat) (x : Nat)) 122 ∧ Off [] wr V) ⟨IsC.new _ _ _, (Off.refl [] wr).alloc _⟩ ?_
      rintro V ⟨v1, v2⟩
      have p0 := v1.cell 0
      have p1 := v1.cell 1
      have p2 := v1.cell 2
      have p3 := v1.cell 3
      have p4 := v1.cell 4
      have p5 := v1.cell 5
      have p6 := v1.cell 6
      have p7 := v1.cell 7
      have p8 := v1.cell 8
      have p9 := v1.cell 9
      have p10 := v1.cell 10
      have p11 := v1.cell 11
      have p12 := v1.cell 12
      simp only [foundC, List.getElem?_toArray, List.getElem?_cons_zero, List.getElem?_cons_succ] at p0 p1 p2 p3 p4 p5 p6 p7 p8 p9 p10 p11 p12
      have HV := Lib.hid (And.intro v1 v2)
      clear v1 v2 q0 q1 q2 q3 q4 q5 q6 q7 q8 q9 q10 q11 q12
      go_wp2_with fail
      refine (HBY.out _).mono ?_
      rintro e W4 ⟨bo, bc, rfl, y1, y2, y3⟩
      rw [beginB_len] at y1 y3 ⊢
      have hc4 := HV.out.1.off y2 (by simp)
      have r0 := hc4.cell 0
      simp only [foundC, List.getElem?_toArray, List.getElem?_cons_zero] at r0
      have hw4 : Off [] wr W4 := HV.out.2.trans y2 (by simp)
      have HTK : Hid (Calls Tryz.prog 54 #[.pointer (some ⟨g, 0, none⟩), .int .i64 (lsn : Nat), .slice bo 18 bc] W4 (TakePost 0 g d (openLog base (its.take k) 0) fl lsn (beginB x) (.slice bo 18 bc) W4)) := Lib.hid (take54 (HI.out.1.off hw4 (by simp)) lsn _ (beginB x) y1 (fun z hz hz' => by
        have := y3 z hz
        have := HI.out.1.lt z hz'
        have := HV.out.2.size
        omega) (by simp [openLog]; have := HN.out; omega))
      have HY3 : Hid ((∀ z ∈ blk (.slice bo 18 bc), w3.heap.size ≤ z) ∧ Off [] wr W4 ∧ w3.heap.size ≤ W4.heap.size) := Lib.hid ⟨fun z hz => by have := y3 z hz; have := HV.out.2.size; have := HI.out.2.1.size; omega, hw4, by have := hw4.size; have := HI.out.2.1.size; omega⟩
      clear y1 y2 y3 hc4 hw4 HBY p0 p1 p2 p3 p4 p5 p6 p7 p8 p9 p10 p11 p12
      go_wp2_with fail
      refine HTK.out.mono ?_
      rintro e W5 ⟨rfl, fl5, z1, z2, z3⟩
      have HNX : Hid (OpenIn w3 g d base its mb (k + 1) W5) := Lib.hid (by
        have e : (openLog base (its.take k) 0).plus lsn (beginB x) = openLog base (its.take (k + 1)) 0 := by
          have hk1 : k < its.length := (List.getElem?_eq_some_iff.1 HIT.out).1
          have hk2 := (List.getElem?_eq_some_iff.1 HIT.out).2
          unfold LogM.plus openLog
          rw [List.take_succ_eq_append_getElem hk1, hk2, List.map_append]; rfl
        rw [e] at z1
        refine ⟨fl5, z1, (HI.out.2.1.trans HY3.out.2.1 (by simp)).trans z2 (fun z hz => ?_), fun z hz => ?_⟩
        · rcases HI.out.2.2 z hz with q | q | q
          · exact .inl (by simp [q])
          · exact .inl (by simp [q])
          · exact .inr q
        · rcases z3 z hz with q | q | q
          · exact HI.out.2.2 z q
          · exact .inr (.inr (HY3.out.1 z q))
          · exact .inr (.inr (by have := HY3.out.2.2; omega)))
      clear z1 z2 z3 HTK r0
      go_wp2_with fail
      go_roundw
      case rel => exact ⟨k + 1, by omega, by go_num, HNX.out⟩
      case measure => simp [intOf]; omega
    · have hkn' : ¬ ((k : Int) < (N : Int)) := by omega
      obtain rfl : k = N := by omega
      have hL2 := hL
      rw [show its.take k = its from List.take_of_length_le (by have := HN.out.1; omega)] at hL2
      obtain ⟨hba, hbo⟩ := hL2.bytesAt (n := n34) (by have := HN.out.2.2.1; have := HN34.out; omega)
      obtain ⟨sema, av, tv, mbx, es, clk, ml, fa, hh, _⟩ := hL
      have c6 := hh.cell 6
      have c7 := hh.cell 7
      have hf : ∀ o, wr.frozen? ⟨g, o, none⟩ = false := fun o => hh.unfrozen o
      simp only [logC, openLog, List.getElem?_toArray, List.getElem?_cons_zero, List.getElem?_cons_succ] at c6 c7
      have HF : Hid (P (.returned (.tuple #[.pointer (some ⟨g, 0, none⟩), .int .i64 0])) ((wr.setCell ⟨g, 6, none⟩ (.int .i64 (n34 : Nat))).setCell ⟨g, 7, none⟩ (.int .i64 (n34 : Nat)))) := Lib.hid (by
        rw [HP.out]
        have e34 : 34 * ids.length = n34 := by have := HN.out; have := HN34.out; omega
        refine ⟨g, fl, rfl, ?_, HKO.out.behind ((HW3.out.2.1.trans hoL (fun z hz => .inr ?_)).trans hbo (fun z hz => .inr ?_)), fun z hz => ?_⟩
        · rw [e34, ← HN.out.2.2.2]; exact hba
        · have := HW3.out.2.2.2; have := HG.out; simp at hz; omega
        · have := HW3.out.2.2.2; have := HG.out; simp at hz; omega
        · refine HMB.out z ?_
          rcases hfl z hz with q | q | q
          · have := HG.out; omega
          · omega
          · have := HW3.out.2.2.1; have := HG.out; omega)
      clear hL2 hba hbo hh hoL hfl HI
      go_wp2_with fail
      first | exact HF.out | (go_ret2; exact HF.out)
end Go.Proofs.YtfdgiblkllfpjaaGreatDoor
