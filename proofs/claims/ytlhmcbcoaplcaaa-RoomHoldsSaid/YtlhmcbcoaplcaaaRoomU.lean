/- Update, Undone and Drop of the program's Room. -/
import Derived.Test.YtlhmcbcoaplcaaaRoomB
set_option linter.unusedVariables false
set_option linter.unusedSimpArgs false
namespace Go.Proofs.Ytlhmcbcoaplcaaa
open Go.ChangeShapes Go.WideShapes Go.ChangeAt Go.RowKit
open Go.ChangeMaps (setBlock)

def kpTx (k : Kp) : Int × List Int := (k.birth, k.ups)

theorem split_kp {ks : List Kp} {b : Int} {u : List Int} (h : mget (ks.map kpTx) b = some u) :
    ∃ A k B, ks = A ++ k :: B ∧ k.birth = b ∧ k.ups = u ∧ mget (ks.map kpPair) b = some (.pointer (some ⟨k.kb, 0, none⟩)) ∧
      (∀ u', mput (ks.map kpTx) b u' = (A ++ { k with ups := u' } :: B).map kpTx) ∧ mdel (ks.map kpTx) b = (A ++ B).map kpTx ∧ mdel (ks.map kpPair) b = (A ++ B).map kpPair := by
  induction ks with
  | nil => simp [mget] at h
  | cons k ks ih =>
    by_cases hb : k.birth = b
    · refine ⟨[], k, ks, rfl, hb, ?_, ?_, ?_, ?_, ?_⟩
      · simpa [mget, kpTx, hb] using h
      · simp [mget, kpPair, hb]
      · intro u'; simp [mput, kpTx, hb]
      · simp [mdel, kpTx, hb]
      · simp [mdel, kpPair, hb]
    · have h' : mget (ks.map kpTx) b = some u := by simpa [mget, kpTx, hb] using h
      obtain ⟨A, k', B, e1, e2, e3, e4, e5, e6, e7⟩ := ih h'
      refine ⟨k :: A, k', B, by simp [e1], e2, e3, ?_, ?_, ?_, ?_⟩
      · simp only [List.map_cons, mget, kpPair, if_neg hb]; exact e4
      · intro u'; simp only [List.map_cons, mput, kpTx, if_neg hb, List.cons_append]; congr 1; exact e5 u'
      · simp only [List.map_cons, mdel, kpTx, if_neg hb, List.cons_append]; congr 1
      · simp only [List.map_cons, mdel, kpPair, if_neg hb, List.cons_append]; congr 1

theorem tot_mput {L : Txns} {b : Int} {u : List Int} (h : mget L b = some u) (u' : List Int) : tot (mput L b u') = tot L - ksum u + ksum u' := by
  obtain ⟨A, B, e1, e2, _, _⟩ := mput_split (v := u') h
  rw [e2, e1, tot_append, tot_append]; simp only [tot]; omega
theorem tot_mdel {L : Txns} {b : Int} {u : List Int} (h : mget L b = some u) : tot (mdel L b) = tot L - ksum u := by
  obtain ⟨A, B, e1, _, e3, _⟩ := mput_split (v := u) h
  rw [e3, e1, tot_append, tot_append]; simp only [tot]; omega

theorem kp_apart {rb m : Nat} {A B : List Kp} {k : Kp} (h : (rb :: m :: kpFoot (A ++ k :: B)).Nodup) :
    (rb ≠ m ∧ rb ≠ k.kb ∧ rb ≠ k.um ∧ m ≠ k.kb ∧ m ≠ k.um ∧ k.kb ≠ k.um) ∧ ∀ x ∈ A ++ B, x.kb ≠ rb ∧ x.kb ≠ m ∧ x.kb ≠ k.kb ∧ x.kb ≠ k.um ∧ x.um ≠ rb ∧ x.um ≠ m ∧ x.um ≠ k.kb ∧ x.um ≠ k.um := by
  have e : kpFoot (A ++ k :: B) = kpFoot A ++ (k.kb :: k.um :: kpFoot B) := by simp [kpFoot]
  rw [e] at h
  simp only [List.nodup_cons, List.mem_cons, List.mem_append, not_or, List.nodup_append] at h
  obtain ⟨⟨h1, h2, h3, h4, h5⟩, ⟨h6, h7, h8, h9⟩, hA, ⟨⟨h10, h11⟩, h12, hB⟩, hdis⟩ := h
  refine ⟨⟨h1, h3, h4, h7, h8, h10⟩, ?_⟩
  intro x hx
  rcases List.mem_append.1 hx with hx | hx
  · have f1 : x.kb ∈ kpFoot A := mem_kpFoot.2 ⟨x, hx, .inl rfl⟩
    have f2 : x.um ∈ kpFoot A := mem_kpFoot.2 ⟨x, hx, .inr rfl⟩
    have d1 := hdis x.kb f1
    have d2 := hdis x.um f2
    exact ⟨fun q => h2 (q ▸ f1), fun q => h6 (q ▸ f1), d1 _ (.inl rfl), d1 _ (.inr (.inl rfl)), fun q => h2 (q ▸ f2), fun q => h6 (q ▸ f2), d2 _ (.inl rfl), d2 _ (.inr (.inl rfl))⟩
  · have f1 : x.kb ∈ kpFoot B := mem_kpFoot.2 ⟨x, hx, .inl rfl⟩
    have f2 : x.um ∈ kpFoot B := mem_kpFoot.2 ⟨x, hx, .inr rfl⟩
    exact ⟨fun q => h5 (q ▸ f1), fun q => h9 (q ▸ f1), fun q => h11 (q ▸ f1), fun q => h12 (q ▸ f1), fun q => h5 (q ▸ f2), fun q => h9 (q ▸ f2), fun q => h11 (q ▸ f2), fun q => h12 (q ▸ f2)⟩

/-- One transaction's updates change: the state behind it. -/
theorem change_post {w w2 : World} {rb m : Nat} {area b : Int} {es : Array MapEntry} {clk : Nat} {L : Txns} {A B : List Kp} {k : Kp} {u' : List Int}
    (h : RoomAt w rb m area L es clk (A ++ k :: B)) (hput : mput L b u' = (A ++ { k with ups := u' } :: B).map kpTx)
    (hg : good u') (hget : mget L b = some k.ups)
    (hr : IsC w2 rb #[.int .i64 area, .int .i64 (tot L - ksum k.ups + ksum u'), .map (some m)] 88)
    (hk : IsC w2 k.kb #[.int .i64 (ksum u'), .map (some k.um)] 93)
    {ues : Array MapEntry} {uclk : Nat} {ul : List (Int × Value)} (hu : IsM w2 k.um ues uclk) (hue : Ent ues ul) (huc : ∀ n : Int, (mget ul n).getD (.int .i64 0) = .int .i64 ((u'.count n : Nat) : Int))
    (hoff : Off [rb, k.kb, k.um] w w2) :
    RoomStep rb (rb :: m :: kpFoot (A ++ k :: B)) area (0, mput L b u') w (.returned (.int .i64 0)) w2 := by
  obtain ⟨a1, a2, a3, a4, a5, a6, a7, a8⟩ := h
  obtain ⟨⟨d1, d2, d3, d4, d5, d6⟩, d7⟩ := kp_apart a1
  have efoot : kpFoot (A ++ { k with ups := u' } :: B) = kpFoot (A ++ k :: B) := by simp [kpFoot]
  have ekeys : (mput L b u').map (·.1) = L.map (·.1) := by rw [hput, ← a5]; simp only [List.map_append, List.map_cons, List.map_map]; rfl
  refine ⟨rfl, _, ⟨m, es, clk, A ++ { k with ups := u' } :: B, rfl, ⟨?_, ?_, ?_, ?_, ?_, ?_, ?_, ?_⟩⟩, ?_, ?_⟩
  · rw [efoot]; exact a1
  · rw [tot_mput hget]; exact hr
  · exact a3.off hoff (by simp; omega)
  · simpa [kpPair] using a4
  · rw [hput]; rfl
  · rw [ekeys]; exact a6
  · intro x hx
    have hx' : x = { k with ups := u' } ∨ x ∈ A ++ B := by
      simp only [List.mem_append, List.mem_cons] at hx ⊢
      rcases hx with h | h | h
      · exact .inr (.inl h)
      · exact .inl h
      · exact .inr (.inr h)
    rcases hx' with rfl | hx'
    · exact ⟨hk, ues, uclk, ul, hu, hue, huc⟩
    · obtain ⟨q1, q2, q3, q4, q5, q6, q7, q8⟩ := d7 x hx'
      refine (a7 x ?_).off hoff (by simp; omega) (by simp; omega)
      simp only [List.mem_append, List.mem_cons] at hx' ⊢
      rcases hx' with h | h
      · exact .inl h
      · exact .inr (.inr h)
  · intro p hp
    rw [hput] at hp
    obtain ⟨x, hx, rfl⟩ := List.mem_map.1 hp
    simp only [List.mem_append, List.mem_cons] at hx
    rcases hx with h | rfl | h
    · exact a8 _ (a5 ▸ List.mem_map.2 ⟨x, by simp [h], rfl⟩)
    · exact hg
    · exact a8 _ (a5 ▸ List.mem_map.2 ⟨x, by simp [h], rfl⟩)
  · refine hoff.mono ?_
    intro x hx
    left
    simp only [List.mem_cons, List.not_mem_nil, or_false] at hx
    simp only [List.mem_cons]
    rcases hx with rfl | rfl | rfl
    · exact .inl rfl
    · exact .inr (.inr (mem_kpFoot.2 ⟨k, by simp, .inl rfl⟩))
    · exact .inr (.inr (mem_kpFoot.2 ⟨k, by simp, .inr rfl⟩))
  · rw [efoot]; exact fun x hx => .inl hx

theorem count_le (u : List Int) (n : Int) (h : good u) : ((u.count n : Nat) : Int) ≤ ksum u := by
  induction u with
  | nil => simp [ksum]
  | cons a u ih =>
    have h1 := h a (by simp)
    have h2 := ih (fun x hx => h x (by simp [hx]))
    rw [List.count_cons]
    simp only [ksum]
    split <;> omega
theorem ksum_le_tot {L : Txns} {p : Int × List Int} (h : ∀ p ∈ L, good p.2) (hp : p ∈ L) : ksum p.2 ≤ tot L := by
  induction L with
  | nil => simp at hp
  | cons q L ih =>
    have h1 := ksum_pos q.2 (h q (by simp))
    have h2 := tot_nonneg L (fun x hx => h x (by simp [hx]))
    simp only [tot]
    rcases List.mem_cons.1 hp with rfl | hp
    · omega
    · have := ih (fun x hx => h x (by simp [hx])) hp
      omega
theorem frameV3 (n : Int) (h1 : 1 ≤ n) (h2 : n ≤ 65535) : frameV 3 n 0 = 46 + n := by
  unfold frameV; rw [if_neg (by omega)]; simp

theorem RoomP.of_list {ks : List Kp} {L : Txns} (h : ks.map (fun k => (k.birth, k.ups)) = L) : ks.map kpTx = L := h

set_option maxRecDepth 100000 in
set_option maxHeartbeats 1000000 in
theorem update_any (rb : Nat) (fp : List Nat) (area b n : Int) (L : Txns) (w : World) (h : RoomP w rb fp area L) (hbig : tot L ≤ big) :
    Calls Try.prog 27 #[.pointer (some ⟨rb, 0, none⟩), .int .i64 b, .int .i64 n] w (RoomStep rb fp area (rUpdate L b n) w) := by
  obtain ⟨m, es, clk, ks, rfl, hat⟩ := h
  have hp : RoomP w rb (rb :: m :: kpFoot ks) area L := ⟨m, es, clk, ks, rfl, hat⟩
  have hat' := hat
  obtain ⟨a1, a2, a3, a4, a5, a6, a7, a8⟩ := hat
  have c := a2.reads
  have hlk := fun W => run_lookup_map (P := Try.prog) (W := W) (clk := clk) Try.underlying86 Try.underlying3 zero90 a4 m b false
  rcases mget_kp a5 b with ⟨e1, e2⟩ | ⟨k0, hk0, _, e1, _⟩
  · have hL : rUpdate L b n = (160, L) := by simp [rUpdate, e1]
    rw [hL]
    simp only [e2, Option.getD_none] at hlk
    have hp' := Lib.hid (RoomStep.same (n := 160) hp)
    clear hL e1 e2 a1 a5 a6 a7 a8 hp hat'
    go_enter Try.func27, Try.ntmps27
    go_wp2
    go_ret
    exact hp'.out
  · obtain ⟨A, k, B, rfl, hkb, hku, e4, e5, _, _⟩ := split_kp (show mget (ks.map kpTx) b = some k0.ups by rw [RoomP.of_list a5]; exact e1)
    have a5' : (A ++ k :: B).map kpTx = L := a5
    rw [a5'] at e5
    simp only [e4, Option.getD_some] at hlk
    have hk := a7 k (by simp)
    obtain ⟨hkc, ues, uclk, ul, hum, hue, huc⟩ := hk
    have ck := hkc.reads
    have hlu : ∀ W, IsM W k.um ues uclk → (Instr.lookup 91 (.map (some k.um)) (.int .i64 n) false).run Try.prog W = .ok (.int .i64 ((k.ups.count n : Nat) : Int)) W := fun W h => by
      have := run_lookup_map (P := Try.prog) Try.underlying91 Try.underlying3 zero3 hue k.um n false W h
      simpa [huc n] using this
    by_cases hn : n < 1 ∨ 65535 < n
    · have hL : rUpdate L b n = (30, L) := by simp only [rUpdate, e1, if_pos hn]
      rw [hL]
      have hp' := Lib.hid (RoomStep.same (n := 30) hp)
      clear hL e1 a1 a5 a5' a6 a7 a8 hp hat' e5 hkb hku hum hue huc hlu
      rcases hn with hn | hn
      all_goals
        go_enter Try.func27, Try.ntmps27
        go_wp2
        go_ret
        exact hp'.out
    · have hgood : good k.ups := a8 (k.birth, k.ups) (a5 ▸ List.mem_map.2 ⟨k, by simp, rfl⟩)
      have hget : mget L b = some k.ups := by rw [hku]; exact e1
      have hL : rUpdate L b n = (0, mput L b (k.ups ++ [n])) := by simp only [rUpdate, e1, if_neg hn, hku]
      rw [hL]
      obtain ⟨f, hf1, hup⟩ := run_update_any (P := Try.prog) (clk := uclk) Try.underlying91 Try.underlying3 hue k.um n
      obtain ⟨⟨d1, d2, d3, d4, d5, d6⟩, _⟩ := kp_apart a1
      have hn1 : ¬ n < 1 := by omega
      have hn2 : ¬ 65535 < n := by omega
      have hfr := frameV3 n (by omega) (by omega)
      have hcnt := count_le k.ups n hgood
      have hkt : ksum k.ups ≤ tot L := ksum_le_tot (p := (k.birth, k.ups)) a8 (a5 ▸ List.mem_map.2 ⟨k, by simp, rfl⟩)
      have hk0' := ksum_pos k.ups hgood
      have hbi := big_imax
      have hbig' : tot L ≤ big := hbig
      have X2 := fun o => a2.setBlock (k := k.um) o d3
      have X3 := fun o => hkc.setBlock (k := k.um) o d6
      have HX := Lib.hid (And.intro d2 (And.intro X2 X3))
      have HP := Lib.hid (fun (w2 : World) (v : Value) (hv : v = .int .i64 (wrap64 (((k.ups.count n : Nat) : Int) + 1)))
        (hr : IsC w2 rb #[.int .i64 area, .int .i64 (wrap64 (tot L + frameV 3 n 0)), .map (some m)] 88)
        (hkk : IsC w2 k.kb #[.int .i64 (wrap64 (ksum k.ups + frameV 3 n 0)), .map (some k.um)] 93)
        (hof : Off [rb, k.kb] (setBlock w k.um (.map (f v).1 (f v).2)) w2) =>
        change_post (u' := k.ups ++ [n]) hat' (e5 _) (by intro x hx; rcases List.mem_append.1 hx with h | h; exact hgood x h; simp at h; omega) hget
          (by rw [hfr, wadd (by omega) (by omega)] at hr; rw [ksum_snoc]; rw [show tot L - ksum k.ups + (ksum k.ups + (46 + n)) = tot L + (46 + n) by omega]; exact hr)
          (by rw [hfr, wadd (by omega) (by omega)] at hkk; rw [ksum_snoc]; exact hkk)
          (hum.setSame.off hof (by simp; omega)) (hf1 v)
          (by
            intro x
            rw [mget_put, List.count_append]
            by_cases e : n = x
            · subst e; rw [if_pos rfl, Option.getD_some, hv, wadd (by omega) (by omega)]; simp
            · rw [if_neg e, huc x]; simp [e])
          (Off.trans ((Off.refl _ w).setBlock (.inl (by simp)) _) hof (by simp)))
      clear hL e1 a1 a5 a5' a6 a7 a8 hp hat' e5 hkb hku hue huc hn hgood hget hfr hcnt hkt hk0' hbi hbig hbig' X2 X3 d1 d4 d5 hf1
      go_enter Try.func27, Try.ntmps27
      go_wp2_with fail
      refine (frame_prog _ _ _ _).mono ?_
      rintro e w1 ⟨rfl, rfl⟩
      go_wp2_with fail
      refine (more_any _ _ area _ _ _ (.map (some m)) (.map (some k.um)) 88 93 _ HX.out.1 (HX.out.2.1 _) (HX.out.2.2 _)).mono ?_
      rintro e w2 ⟨rfl, g1, g2, g3⟩
      have H := Lib.hid (HP.out w2 _ rfl g1 g2 g3)
      clear g1 g2 g3 HP HX
      go_wp2_with fail
      go_ret
      exact H.out

set_option maxRecDepth 100000 in
set_option maxHeartbeats 1000000 in
theorem undone_any (rb : Nat) (fp : List Nat) (area b n : Int) (L : Txns) (w : World) (h : RoomP w rb fp area L) (hbig : tot L ≤ big) :
    Calls Try.prog 28 #[.pointer (some ⟨rb, 0, none⟩), .int .i64 b, .int .i64 n] w (RoomStep rb fp area (rUndone L b n) w) := by
  obtain ⟨m, es, clk, ks, rfl, hat⟩ := h
  have hp : RoomP w rb (rb :: m :: kpFoot ks) area L := ⟨m, es, clk, ks, rfl, hat⟩
  have hat' := hat
  obtain ⟨a1, a2, a3, a4, a5, a6, a7, a8⟩ := hat
  have c := a2.reads
  have hlk := fun W => run_lookup_map (P := Try.prog) (W := W) (clk := clk) Try.underlying86 Try.underlying3 zero90 a4 m b false
  rcases mget_kp a5 b with ⟨e1, e2⟩ | ⟨k0, hk0, _, e1, _⟩
  · have hL : rUndone L b n = (160, L) := by simp [rUndone, e1]
    rw [hL]
    simp only [e2, Option.getD_none] at hlk
    have hp' := Lib.hid (RoomStep.same (n := 160) hp)
    clear hL e1 e2 a1 a5 a6 a7 a8 hp hat'
    go_enter Try.func28, Try.ntmps28
    go_wp2
    go_ret
    exact hp'.out
  · obtain ⟨A, k, B, rfl, hkb, hku, e4, e5, _, _⟩ := split_kp (show mget (ks.map kpTx) b = some k0.ups by rw [RoomP.of_list a5]; exact e1)
    have a5' : (A ++ k :: B).map kpTx = L := a5
    rw [a5'] at e5
    simp only [e4, Option.getD_some] at hlk
    have hk := a7 k (by simp)
    obtain ⟨hkc, ues, uclk, ul, hum, hue, huc⟩ := hk
    have ck := hkc.reads
    by_cases hn : n ∈ k.ups
    · have hlu : ∀ W, IsM W k.um ues uclk → (Instr.lookup 91 (.map (some k.um)) (.int .i64 n) false).run Try.prog W = .ok (.int .i64 ((k.ups.count n : Nat) : Int)) W := fun W h => by
        have := run_lookup_map (P := Try.prog) Try.underlying91 Try.underlying3 zero3 hue k.um n false W h
        simpa [huc n] using this
      have hgood : good k.ups := a8 (k.birth, k.ups) (a5 ▸ List.mem_map.2 ⟨k, by simp, rfl⟩)
      have hget : mget L b = some k.ups := by rw [hku]; exact e1
      have hL : rUndone L b n = (0, mput L b (k.ups.erase n)) := by simp only [rUndone, e1, ← hku, if_pos hn]
      rw [hL]
      obtain ⟨f, hf1, hup⟩ := run_update_any (P := Try.prog) (clk := uclk) Try.underlying91 Try.underlying3 hue k.um n
      obtain ⟨⟨d1, d2, d3, d4, d5, d6⟩, _⟩ := kp_apart a1
      have hn1 := hgood n hn
      have hfr := frameV3 n (by omega) (by omega)
      have hcnt := count_le k.ups n hgood
      have hc0 : 0 < k.ups.count n := List.count_pos_iff.2 hn
      have hcz : (((k.ups.count n : Nat) : Int) == 0) = false := by rw [beq_eq_false_iff_ne]; omega
      have hkt : ksum k.ups ≤ tot L := ksum_le_tot (p := (k.birth, k.ups)) a8 (a5 ▸ List.mem_map.2 ⟨k, by simp, rfl⟩)
      have hk0' := ksum_pos k.ups hgood
      have hke := ksum_pos (k.ups.erase n) (fun x hx => hgood x (List.mem_of_mem_erase hx))
      have hes := ksum_erase k.ups n hn
      have hbi := big_imax
      have X2 := fun o => a2.setBlock (k := k.um) o d3
      have X3 := fun o => hkc.setBlock (k := k.um) o d6
      have HX := Lib.hid (And.intro d2 (And.intro X2 X3))
      have HP := Lib.hid (fun (w2 : World) (v : Value) (hv : v = .int .i64 (wrap64 (((k.ups.count n : Nat) : Int) - 1)))
        (hr : IsC w2 rb #[.int .i64 area, .int .i64 (wrap64 (tot L + wrap64 (-frameV 3 n 0))), .map (some m)] 88)
        (hkk : IsC w2 k.kb #[.int .i64 (wrap64 (ksum k.ups + wrap64 (-frameV 3 n 0))), .map (some k.um)] 93)
        (hof : Off [rb, k.kb] (setBlock w k.um (.map (f v).1 (f v).2)) w2) =>
        have ew : wrap64 (-frameV 3 n 0) = -(46 + n) := by rw [hfr]; unfold wrap64; omega
        change_post (u' := k.ups.erase n) hat' (e5 _) (fun x hx => hgood x (List.mem_of_mem_erase hx)) hget
          (by rw [ew, wadd (by omega) (by omega)] at hr; rw [hes]; rw [show tot L - ksum k.ups + (ksum k.ups - (46 + n)) = tot L + -(46 + n) by omega]; exact hr)
          (by rw [ew, wadd (by omega) (by omega)] at hkk; rw [hes, show ksum k.ups - (46 + n) = ksum k.ups + -(46 + n) by omega]; exact hkk)
          (hum.setSame.off hof (by simp; omega)) (hf1 v)
          (by
            intro x
            rw [mget_put]
            by_cases e : n = x
            · subst e; rw [if_pos rfl, Option.getD_some, hv, wsub (by omega) (by omega) (by omega), List.count_erase_self]; congr 1; omega
            · rw [if_neg e, huc x, List.count_erase_of_ne (Ne.symm e)])
          (Off.trans ((Off.refl _ w).setBlock (.inl (by simp)) _) hof (by simp)))
      clear hL e1 a1 a5 a5' a6 a7 a8 hp hat' e5 hkb hku hue huc hn hgood hget hfr hcnt hkt hk0' hke hes hbi hbig X2 X3 d1 d4 d5 hf1 hc0 hn1
      go_enter Try.func28, Try.ntmps28
      go_wp2_with fail
      refine (frame_prog _ _ _ _).mono ?_
      rintro e w1 ⟨rfl, rfl⟩
      go_wp2_with fail
      refine (more_any _ _ area _ _ _ (.map (some m)) (.map (some k.um)) 88 93 _ HX.out.1 (HX.out.2.1 _) (HX.out.2.2 _)).mono ?_
      rintro e w2 ⟨rfl, g1, g2, g3⟩
      have H := Lib.hid (HP.out w2 _ rfl g1 g2 g3)
      clear g1 g2 g3 HP HX
      go_wp2_with fail
      go_ret
      exact H.out
    · have hlu : ∀ W, IsM W k.um ues uclk → (Instr.lookup 91 (.map (some k.um)) (.int .i64 n) false).run Try.prog W = .ok (.int .i64 0) W := fun W h => by
        have := run_lookup_map (P := Try.prog) Try.underlying91 Try.underlying3 zero3 hue k.um n false W h
        simpa [huc n, List.count_eq_zero_of_not_mem hn] using this
      have hL : rUndone L b n = (30, L) := by simp only [rUndone, e1, ← hku, if_neg hn]
      rw [hL]
      have hp' := Lib.hid (RoomStep.same (n := 30) hp)
      clear hL e1 a1 a5 a5' a6 a7 a8 hp hat' e5 hkb hku hue huc hn
      go_enter Try.func28, Try.ntmps28
      go_wp2
      go_ret
      exact hp'.out

theorem drop_post {w : World} {rb m : Nat} {area b : Int} {es es' : Array MapEntry} {clk : Nat} {L : Txns} {A B : List Kp} {k : Kp}
    (h : RoomAt w rb m area L es clk (A ++ k :: B)) (hdel : mdel L b = (A ++ B).map kpTx) (hes : Ent es' ((A ++ B).map kpPair)) (hget : mget L b = some k.ups)
    (hw : wrap64 (tot L - ksum k.ups) = tot L - ksum k.ups) :
    RoomStep rb (rb :: m :: kpFoot (A ++ k :: B)) area (0, mdel L b) w (.returned (.int .i64 0)) (setBlock (w.setCell ⟨rb, 1, none⟩ (.int .i64 (wrap64 (tot L - ksum k.ups)))) m (.map es' clk)).drew := by
  obtain ⟨a1, a2, a3, a4, a5, a6, a7, a8⟩ := h
  obtain ⟨⟨d1, d2, d3, d4, d5, d6⟩, d7⟩ := kp_apart a1
  have hoff : Off [rb, m] w (setBlock (w.setCell ⟨rb, 1, none⟩ (.int .i64 (wrap64 (tot L - ksum k.ups)))) m (.map es' clk)).drew :=
    (((Off.refl _ w).setCell (.inl (by simp)) _).setBlock (.inl (by simp)) _).drew
  have hsub : ∀ x ∈ A ++ B, x ∈ A ++ k :: B := by
    intro x hx
    simp only [List.mem_append, List.mem_cons] at hx ⊢
    rcases hx with h | h
    · exact .inl h
    · exact .inr (.inr h)
  have hfoot : List.Sublist (kpFoot (A ++ B)) (kpFoot (A ++ k :: B)) := by
    simp only [kpFoot, List.flatMap_append, List.flatMap_cons]
    exact (List.Sublist.refl _).append (List.sublist_append_right _ _)
  refine ⟨rfl, _, ⟨m, es', clk, A ++ B, rfl, ⟨?_, ?_, ?_, hes, hdel.symm, ?_, ?_, ?_⟩⟩, ?_, ?_⟩
  · exact ((hfoot.cons_cons m).cons_cons rb).nodup a1
  · rw [tot_mdel hget]
    have := (a2.set 1 (.int .i64 (wrap64 (tot L - ksum k.ups)))).setBlock (.map es' clk) d1
    rw [hw] at this ⊢
    exact this
  · exact (a3.setCell ⟨rb, 1, none⟩ (.int .i64 (wrap64 (tot L - ksum k.ups)))).setSame
  · rw [hdel]
    have : ((A ++ k :: B).map kpTx).map (·.1) = L.map (·.1) := by rw [← a5]; rfl
    rw [← this] at a6
    refine List.Sublist.nodup ?_ a6
    simp only [List.map_append, List.map_cons]
    exact (List.Sublist.refl _).append (List.sublist_cons_self _ _)
  · intro x hx
    obtain ⟨q1, q2, q3, q4, q5, q6, q7, q8⟩ := d7 x hx
    exact (a7 x (hsub x hx)).off hoff (by simp; omega) (by simp; omega)
  · intro p hp
    rw [hdel] at hp
    obtain ⟨x, hx, rfl⟩ := List.mem_map.1 hp
    exact a8 _ (a5 ▸ List.mem_map.2 ⟨x, hsub x hx, rfl⟩)
  · exact hoff.mono (by intro x hx; left; simp at hx ⊢; rcases hx with rfl | rfl <;> simp)
  · intro x hx
    left
    simp only [List.mem_cons] at hx ⊢
    rcases hx with h | h | h
    · exact .inl h
    · exact .inr (.inl h)
    · exact .inr (.inr (hfoot.subset h))

set_option maxRecDepth 100000 in
set_option maxHeartbeats 1000000 in
theorem drop_any (rb : Nat) (fp : List Nat) (area b : Int) (L : Txns) (w : World) (h : RoomP w rb fp area L) (hbig : tot L ≤ big) :
    Calls Try.prog 29 #[.pointer (some ⟨rb, 0, none⟩), .int .i64 b] w (RoomStep rb fp area (rDrop L b) w) := by
  obtain ⟨m, es, clk, ks, rfl, hat⟩ := h
  have hp : RoomP w rb (rb :: m :: kpFoot ks) area L := ⟨m, es, clk, ks, rfl, hat⟩
  obtain ⟨a1, a2, a3, a4, a5, a6, a7, a8⟩ := hat
  have c := a2.reads
  have hlk := fun W => run_lookup_map (P := Try.prog) (W := W) (clk := clk) Try.underlying86 Try.underlying3 zero90 a4 m b false
  rcases mget_kp a5 b with ⟨e1, e2⟩ | ⟨k0, hk0, _, e1, _⟩
  · have hL : rDrop L b = (160, L) := by simp [rDrop, e1]
    rw [hL]
    simp only [e2, Option.getD_none] at hlk
    have hp' := Lib.hid (RoomStep.same (n := 160) hp)
    clear hL e1 e2 a1 a5 a6 a7 a8 hp
    go_enter Try.func29, Try.ntmps29
    go_wp2
    go_ret
    exact hp'.out
  · obtain ⟨A, k, B, rfl, hkb, hku, e4, e5, e6, e7⟩ := split_kp (show mget (ks.map kpTx) b = some k0.ups by rw [RoomP.of_list a5]; exact e1)
    have a5' : (A ++ k :: B).map kpTx = L := a5
    rw [a5'] at e5 e6
    simp only [e4, Option.getD_some] at hlk
    obtain ⟨hkc, hkk⟩ := a7 k (by simp)
    have ck := hkc.reads
    have cf := a2.free
    obtain ⟨⟨d1, d2, d3, d4, d5, d6⟩, d7⟩ := kp_apart a1
    obtain ⟨es', hes', hdl⟩ := run_delete_map (P := Try.prog) (clk := clk) Try.underlying86 Try.underlying3 a4 m b
    have hget : mget L b = some k.ups := by rw [hku]; exact e1
    have hL : rDrop L b = (0, mdel L b) := by simp only [rDrop, e1]
    rw [hL]
    have hgood : good k.ups := a8 (k.birth, k.ups) (a5 ▸ List.mem_map.2 ⟨k, by simp, rfl⟩)
    have hkt : ksum k.ups ≤ tot L := ksum_le_tot (p := (k.birth, k.ups)) a8 (a5 ▸ List.mem_map.2 ⟨k, by simp, rfl⟩)
    have hk0' := ksum_pos k.ups hgood
    have hbi := big_imax
    have HP := Lib.hid (drop_post (k := k) ⟨a1, a2, a3, a4, a5, a6, a7, a8⟩ e6 (e7 ▸ hes') hget (wsub (a := tot L) (b := ksum k.ups) (by omega) (by omega) (by omega)))
    clear hL e1 a1 a5 a5' a6 a7 a8 hp e5 e6 e7 hkb hku hes' hgood hkt hk0' hbi hbig hkk hget
    go_enter Try.func29, Try.ntmps29
    go_wp2
    go_region
    go_wp2
    go_ret
    exact HP.out
end Go.Proofs.Ytlhmcbcoaplcaaa
