/- The law LabelBlank. -/
import Derived.Maps.AppendAt
import Derived.Deep.RegionLaw
import Derived.Deep.Cut
import Derived.Test.YtiegkhoidabkhaaDoorA26
import Derived.Test.YtiegkhoidabkhaaDoorA35
import Derived.Test.YtiegkhoidabkhaaDoorA39
import Derived.Test.YtiegkhoidabkhaaDoorB22
import Derived.Outline
namespace Go.Proofs.YtiegkhoidabkhaaDoor
open Go.Shelf Go.RowKit Go.Maps

theorem run_app_nil {P : Program} (w : World) {t ty e : TypeId} {i : TypeInfo} {base size : Nat} (ht : P.underlying t = some (.slice e)) (hi : P.info? e = some i) {v : Value} {n : Nat} {xs : List Value} (hown : w.ownsRow base e size v n xs) (c : Nat) :
    (Builtin.append_ #[t, t] ty #[v, .slice none 0 c]).run P w = .ok v w := by
  rcases hown.2 with ⟨rfl, rfl⟩ | ⟨g, cap, cur, rfl, _, _, hnc, _⟩
  · simp [Builtin.append_, run_underlying ht, sizeOf, typeInfo, hi, Builtin.lenOf, Builtin.firstCells]
  · simp [Builtin.append_, run_underlying ht, sizeOf, typeInfo, hi, Builtin.lenOf, Builtin.firstCells, hnc, storeCells]
/-- append of strings that came in, or lie somewhere, to a row of one's own. -/
theorem run_app {ty : TypeId} (w : World) (B : Nat) (v : Value) (xs : List (List UInt8)) (hown : OwnS w B v xs) (A : Option Addr) (n c : Nat) (ys : List (List UInt8)) (hn : n = ys.length) (hr : RdStr w A ys) (hl : xs.length + ys.length ≤ 100000) (hb : B ≤ w.heap.size) :
    ∃ v' w', (Builtin.append_ #[40, 40] ty #[v, .slice A n c]).run Tryd.prog w = .ok v' w' ∧ OwnS w' B v' (xs ++ ys) ∧ w.grownBy w' v.ownBlock ∧ (v'.ownBlock = v.ownBlock ∨ v'.ownBlock = some w.heap.size) := by
  subst hn
  obtain ⟨i0, hi, hz0, hz1, hz2⟩ := info_parts infoStr
  cases A with
  | none =>
    have hy : ys = [] := by
      cases ys with
      | nil => rfl
      | cons y ys =>
        obtain ⟨ad, h, _⟩ := hr 0 y rfl
        cases h
    subst hy
    exact ⟨v, w, run_app_nil w Tryd.underlying40 hi hown c, by simpa using hown, World.grownBy.refl w _, .inl rfl⟩
  | some ad =>
    obtain ⟨v', w', h1, h2, h3, _, h4⟩ := run_append_own_at (P := Tryd.prog) w B 40 ty 9 i0 (.string ⟨#[]⟩) 1 16 Tryd.underlying40 hi hz0 hz1 hz2 rfl (by decide) v xs.length (xs.map S) hown ad ys.length c (ys.map S) (by simp) (fun j u hu => by
      rw [List.getElem?_map, Option.map_eq_some_iff] at hu
      obtain ⟨s, hs, rfl⟩ := hu
      obtain ⟨ad', h, hc⟩ := hr j s hs
      have e := Option.some.inj h
      rw [e]; exact hc) (by intro u hu; obtain ⟨s, _, rfl⟩ := List.mem_map.1 hu; rfl) (by unfold maxLen; omega) (by omega) hb
    refine ⟨v', w', h1, ?_, h3, h4⟩
    unfold OwnS
    rw [List.length_append, List.map_append]
    exact h2
theorem step_app {ops : Array Oper} {o : Oper} {a : Act} {w : World} {K : Act → World → Prop} {Q : Exit → Act → World → Prop} {E : Prop} (hgd : o.guard = none) (s x : Operand)
    (ho : o.op = .call { callee := .builtin .append, args := #[s, x], argTypes := #[40, 40] }) (B : Nat) (v : Value) (xs : List (List UInt8)) (hs : a.eval s = v) (hown : OwnS w B v xs) (A : Option Addr) (n c : Nat) (ys : List (List UInt8)) (hx : a.eval x = .slice A n c) (hn : n = ys.length) (hr : RdStr w A ys) (hl : xs.length + ys.length ≤ 100000) (hb : B ≤ w.heap.size)
    (h : ∀ v' w', OwnS w' B v' (xs ++ ys) → w.grownBy w' v.ownBlock → (v'.ownBlock = v.ownBlock ∨ v'.ownBlock = some w.heap.size) → K (a.put o.dst v') w') :
    if Region.wanted o (yielded ops a.tmps) = true then Oper.wp Tryd.prog o a w K Q else E := by
  have hw : Region.wanted o (yielded ops a.tmps) = true := by simp [Region.wanted, hgd]
  rw [if_pos hw]
  obtain ⟨v', w', hrun, h2, h3, h4⟩ := run_app (ty := o.type) w B v xs hown A n c ys hn hr hl hb
  unfold Oper.wp execOp
  simp only [ho, resolve, invoke, builtin, Sem.run_bind, Sem.run_pure, Result.andThen_ok, List.map_toArray, List.map_cons, List.map_nil, hs, hx, hrun]
  exact h v' w' h2 h3 h4

theorem rd_own_str {w : World} {B : Nat} {v : Value} {ls : List (List UInt8)} (h : OwnS w B v ls) : ∃ A c, v = .slice A ls.length c ∧ RdStr w A ls := by
  rcases Nat.eq_zero_or_pos ls.length with h0 | h0
  · obtain ⟨A, c, rfl⟩ := own_slice h
    refine ⟨A, c, rfl, fun i x hx => ?_⟩
    have hi := (List.getElem?_eq_some_iff.1 hx).1
    omega
  · obtain ⟨g, c, rfl, _, _⟩ := h.form h0
    refine ⟨_, c, rfl, fun i x hx => ⟨_, rfl, ?_⟩⟩
    have hi := (List.getElem?_eq_some_iff.1 hx).1
    rw [add_off, Nat.zero_add, h.cellAt i (by omega), List.getElem?_map, hx]
    rfl
theorem own_empty {w : World} {B g : Nat} (hB : B ≤ g) (h : Ob w g (.cells #[] 9)) : OwnS w B (.slice (some ⟨g, 0, none⟩) 0 0) [] :=
  ⟨rfl, .inr ⟨g, 0, #[], rfl, hB, h, Nat.le_refl _, by unfold maxLen; omega, rfl, rfl⟩⟩
abbrev X2 : Obj := .cells #[S [], S (58 :: zz)] 9
theorem rd_two {w : World} {g : Nat} (h : Ob w g X2) : RdStr w (some ⟨g, 0, none⟩) [[], 58 :: zz] := fun i s hs => by
  refine ⟨_, rfl, ?_⟩
  rw [add_off, Nat.zero_add, h.cell]
  match i, hs with
  | 0, hs => simp at hs; subst hs; rfl
  | 1, hs => simp at hs; subst hs; rfl
theorem rd_belowB {w w1 : World} {B : Nat} {A : Option Addr} {ls : List (List UInt8)} (h : RdStr w A ls) (hb : Below B w w1) (hB : w.heap.size ≤ B) : RdStr w1 A ls := h.belowH (hb.mono hB)
theorem rd_take {w : World} {A : Option Addr} {ls : List (List UInt8)} (h : RdStr w A ls) (k : Nat) : RdStr w A (ls.take k) := fun i s hs => by
  have hl := (List.getElem?_eq_some_iff.1 hs).1
  rw [List.length_take] at hl
  rw [List.getElem?_take_of_lt (by omega)] at hs
  exact h i s hs
theorem rd_drop {w : World} {A : Option Addr} {ls : List (List UInt8)} (h : RdStr w A ls) (k : Nat) : RdStr w (A.map fun x => x.add k) (ls.drop k) := fun i s hs => by
  rw [List.getElem?_drop] at hs
  obtain ⟨ad, rfl, hc⟩ := h (k + i) s hs
  refine ⟨_, rfl, ?_⟩
  obtain ⟨g, o, sp⟩ := ad
  have e : ((⟨g, o, sp⟩ : Addr).add k).add i = (⟨g, o, sp⟩ : Addr).add (k + i) := by
    unfold Addr.add
    by_cases hk : k = 0 <;> by_cases hi : i = 0 <;> simp [hk, hi, Nat.add_assoc]
  rw [e]; exact hc
theorem rd_end {w : World} {A : Option Addr} : RdStr w A [] := fun i s hs => by simp at hs
theorem grown_B {B : Nat} {w W W1 : World} {v : Value} {xs : List (List UInt8)} (h : Below B w W) (hB : B ≤ W.heap.size) (hown : OwnS W B v xs) (hg : W.grownBy W1 v.ownBlock) : Below B w W1 := h.grown hg hB (own_base hown)

set_option maxRecDepth 100000 in
set_option maxHeartbeats 2000000 in
theorem blank_law (A : Option Addr) (ls : List (List UInt8)) (c : Nat) (w : World) (hr : RdStr w A ls) (hl : ls.length ≤ 9223372036854775807) (hll : ∀ s ∈ ls, s.length ≤ 9223372036854775807) (hlc : ls.length ≤ c) (at_ : Int) (ha0 : -9223372036854775808 ≤ at_) (ha1 : at_ ≤ 9223372036854775807) (hg : Gl w) :
    Calls Tryd.prog 8 #[.slice A ls.length c, .int .i64 at_] w fun e w' => e = .returned (.bool true) ∧ Below w.heap.size w w' := by
  have ha := alive_any w hg
  have HG := Lib.hid hg; have HR := Lib.hid hr; have HL := Lib.hid hll
  clear hg hr hll
  go_enter Tryd.func8, Tryd.ntmps8
  go_wp2_with fail
  refine ha.mono ?_
  rintro e w1 ⟨rfl, hb1⟩
  have HB1 := Lib.hid hb1
  clear ha hb1
  go_wp2_with fail
  refine (joined_any A ls c w1 (HR.out.belowH HB1.out) hl HL.out).mono ?_
  rintro e w2 ⟨rfl, hb2⟩
  have HB2 := Lib.hid (below_next HB1.out hb2)
  clear hb2 HB1
  by_cases hj : joinOk ls = true
  · have hjs : joinS ls = joinT ls := by rw [joinS, if_pos hj]
    have h60 := (joinOk_ls hj).1
    have h49 := (joinOk_ls hj).2.2
    rw [hj, hjs]
    have HJ := Lib.hid hj
    clear hj hjs
    by_cases h0 : at_ < 0
    · go_wp2_with fail
      go_ret
      exact ⟨rfl, HB2.out⟩
    obtain ⟨k, rfl⟩ : ∃ k : Nat, at_ = k := ⟨at_.toNat, by omega⟩
    clear h0
    by_cases hk : ls.length < k
    · have hk' : (ls.length : Int) < k := by omega
      go_wp2_with fail
      go_ret
      exact ⟨rfl, HB2.out⟩
    have hk' : ¬ (ls.length : Int) < k := by omega
    have hk2 : ¬ (k : Int) < 0 := by omega
    obtain ⟨mx, hmx⟩ := (HG.out.belowH HB2.out).len
    have hcon := Tryd.strings_Contains ⟨(joinT ls).toArray⟩ ⟨zz.toArray⟩ mx w2 (by simp [ByteArray.size]; omega) hmx
    simp only [List.toList_toArray] at hcon
    clear hmx
    have HNO := Lib.hid (fun h => @contains_no (joinT ls) zz h (by decide))
    go_wp2_with fail
    refine hcon.mono ?_
    rintro e w3 ⟨rfl, rfl⟩
    clear hcon
    by_cases hz : Lib.contains (joinT ls) zz = true
    · rw [hz]
      clear hz
      go_wp2_with fail
      go_ret
      exact ⟨rfl, HB2.out⟩
    have hz' : Lib.contains (joinT ls) zz = false := by simpa using hz
    have HZ := Lib.hid (HNO.out hz')
    rw [hz']
    clear hz hz' HNO
    have hkl : k ≤ ls.length := by omega
    have hkc : k ≤ c := by omega
    have hr3 := HR.out.belowH HB2.out
    have HRT := Lib.hid (rd_take hr3 k)
    have hRD : RdStr w3 (if c = k then A else A.map fun x => x.add k) (ls.drop k) := by
      by_cases hck : c = k
      · rw [if_pos hck, List.drop_of_length_le (by omega)]; exact rd_end
      · rw [if_neg hck]; exact rd_drop hr3 k
    have HRD := Lib.hid hRD
    have HPL := Lib.hid (put_len hkl)
    have hpm : ∀ s ∈ putIn ls k, s.length ≤ 9223372036854775807 := fun s hs => by
      rcases put_mem hs with h | rfl | rfl
      · exact HL.out s h
      · simp
      · decide
    have HPM := Lib.hid hpm
    clear hpm
    have hsub : ((ls.length : Int) - k).toNat = ls.length - k := by omega
    clear hr3 hRD
    go_upto_region 6 with fail
    go_region_law (first
      | (refine step_app rfl (.tmp 39) (.tmp 42) rfl w3.heap.size (.slice (some ⟨w3.heap.size, 0, none⟩) 0 0) [] rfl (own_empty (Nat.le_refl _) (Ob.drew (Ob.new w3 (.cells #[] 9)))) A k c (ls.take k) rfl (by rw [List.length_take]; omega) (rd_belowB HRT.out (((Below.refl _ w3).alloc (Nat.le_refl _) _).drew) (Nat.le_refl _)) (by simp; omega) (by show w3.heap.size ≤ (w3.alloc _).heap.size; simp) ?_; intro v1 W1 hown1 hgrow1 hat1; have hBW1 : Below w3.heap.size w3 W1 := (((Below.refl _ w3).alloc (Nat.le_refl _) (.cells #[] 9)).drew).grown hgrow1 (by show w3.heap.size ≤ (w3.alloc _).heap.size; simp) (by intro g hg; simp [Value.ownBlock] at hg; omega))
      | (refine step_app rfl (.tmp 39) (.tmp 42) rfl w3.heap.size (.slice (some ⟨w3.heap.size, 0, none⟩) 0 0) [] rfl (own_empty (Nat.le_refl _) (Ob.drew (Ob.alloc (Ob.new w3 (.cells #[] 9)) X2))) A k c (ls.take k) rfl (by rw [List.length_take]; omega) (rd_belowB HRT.out ((((Below.refl _ w3).alloc (Nat.le_refl _) _).alloc (by simp) _).drew) (Nat.le_refl _)) (by simp; omega) (by show w3.heap.size ≤ ((w3.alloc _).alloc _).heap.size; simp; omega) ?_; intro v1 W1 hown1 hgrow1 hat1; have hBW1 : Below w3.heap.size w3 W1 := ((((Below.refl _ w3).alloc (Nat.le_refl _) (.cells #[] 9)).alloc (by simp) X2).drew).grown hgrow1 (by show w3.heap.size ≤ ((w3.alloc _).alloc _).heap.size; simp; omega) (by intro g hg; simp [Value.ownBlock] at hg; omega); have hX : Ob W1 (w3.heap.size + 1) X2 := Ob.grown (Ob.drew (Ob.new' X2 (by simp))) hgrow1 (by simp [Value.ownBlock]))
      | (refine step_app rfl (.tmp 39) (.tmp 42) rfl w3.heap.size (.slice (some ⟨w3.heap.size + 1, 0, none⟩) 0 0) [] rfl (own_empty (Nat.le_succ _) (Ob.drew (Ob.new' (.cells #[] 9) (by simp)))) A k c (ls.take k) rfl (by rw [List.length_take]; omega) (rd_belowB HRT.out ((((Below.refl _ w3).alloc (Nat.le_refl _) _).alloc (by simp) _).drew) (Nat.le_refl _)) (by simp; omega) (by show w3.heap.size ≤ ((w3.alloc _).alloc _).heap.size; simp; omega) ?_; intro v1 W1 hown1 hgrow1 hat1; have hBW1 : Below w3.heap.size w3 W1 := ((((Below.refl _ w3).alloc (Nat.le_refl _) X2).alloc (by simp) (.cells #[] 9)).drew).grown hgrow1 (by show w3.heap.size ≤ ((w3.alloc _).alloc _).heap.size; simp; omega) (by intro g hg; simp [Value.ownBlock] at hg; omega); have hX : Ob W1 w3.heap.size X2 := Ob.grown (Ob.drew (Ob.alloc (Ob.new w3 X2) (.cells #[] 9))) hgrow1 (by simp [Value.ownBlock]))
      | (refine step_app rfl (.tmp 43) (.tmp 44) rfl w3.heap.size v1 ([] ++ ls.take k) rfl (hown1.alloc _) (some ⟨W1.heap.size, 0, none⟩) 2 2 [[], 58 :: zz] rfl rfl (rd_two (Ob.new W1 X2)) (by simp; omega) (by have := hBW1.size; rw [World.size_alloc]; omega) ?_; intro v2 W2 hown2 hgrow2 hat2; have hBW2 : Below w3.heap.size w3 W2 := (hBW1.alloc hBW1.size X2).grown hgrow2 (by have := hBW1.size; rw [World.size_alloc]; omega) (own_base hown1))
      | (refine step_app rfl (.tmp 43) (.tmp 44) rfl w3.heap.size v1 ([] ++ ls.take k) rfl hown1 (some ⟨w3.heap.size + 1, 0, none⟩) 2 2 [[], 58 :: zz] rfl rfl (rd_two hX) (by simp; omega) hBW1.size ?_; intro v2 W2 hown2 hgrow2 hat2; have hBW2 : Below w3.heap.size w3 W2 := hBW1.grown hgrow2 hBW1.size (own_base hown1))
      | (refine step_app rfl (.tmp 43) (.tmp 44) rfl w3.heap.size v1 ([] ++ ls.take k) rfl hown1 (some ⟨w3.heap.size, 0, none⟩) 2 2 [[], 58 :: zz] rfl rfl (rd_two hX) (by simp; omega) hBW1.size ?_; intro v2 W2 hown2 hgrow2 hat2; have hBW2 : Below w3.heap.size w3 W2 := hBW1.grown hgrow2 hBW1.size (own_base hown1))
      | (refine step_app rfl (.tmp 45) (.tmp 48) rfl w3.heap.size v2 ([] ++ ls.take k ++ [[], 58 :: zz]) rfl hown2 (if c = k then A else A.map fun x => x.add k) (ls.length - k) (c - k) (ls.drop k) rfl (by rw [List.length_drop]) (rd_belowB HRD.out hBW2 (Nat.le_refl _)) (by simp; omega) hBW2.size ?_; intro v3 W3 hown3 hgrow3 hat3; have hBW3 : Below w3.heap.size w3 W3 := hBW2.grown hgrow3 hBW2.size (own_base hown2); have hput : [] ++ ls.take k ++ [[], 58 :: zz] ++ ls.drop k = putIn ls k := (by simp [putIn]); rw [hput] at hown3; clear hput; obtain ⟨A3, c3, rfl, hrd3⟩ := rd_own_str hown3)
      | (go_simp; go_at_call 17; refine (joined_any A3 (putIn ls k) c3 W3 hrd3 (by rw [HPL.out]; omega) HPM.out).mono ?_; rintro e W4 ⟨rfl, hb4⟩; have hBW4 : Below w3.heap.size w3 W4 := below_then hBW3 hBW3.size hb4)
      | fail)
    all_goals
      have HB4 := Lib.hid (below_next HB2.out hBW4)
      clear hb4 hBW4 hBW3 hrd3 hown3 hgrow3 hat3 hBW2 hown2 hgrow2 hat2 hBW1 hown1 hgrow1 hat1 HRD
      generalize (if c = k then A else Option.map (fun x => x.add k) A) = A2
      by_cases h58 : 58 < ls.length
      · have h58' : (58 : Int) < ls.length := by omega
        go_wp2_with fail
        go_ret
        exact ⟨rfl, HB4.out⟩
      have h58' : ¬ (58 : Int) < ls.length := by omega
      by_cases h20 : 2000 < (joinT ls).length
      · have h20' : (2000 : Int) < (joinT ls).length := by omega
        go_wp2_with fail
        go_ret
        exact ⟨rfl, HB4.out⟩
      have h20' : ¬ (2000 : Int) < (joinT ls).length := by omega
      have hjp := joinOk_put HJ.out hkl (by omega) (by omega)
      have hjs : joinS (putIn ls k) = joinT (putIn ls k) := by rw [joinS, if_pos hjp]
      have hrel := read_put (ls := ls) (k := k) hkl (fun l hl => ⟨fun hi => HZ.out (hi.trans (infix_join hl)), (joinOk_ls HJ.out).2.1 l hl⟩) (by omega) (by have := (joinOk_ls hjp).2.2; omega)
      have hlen2 := (joinOk_ls hjp).2.2
      have hr1 := fun w' hg' => reads_any (joinT ls) (by omega) w' hg'
      have hr2 := fun w' hg' => reads_any (joinT (putIn ls k)) (by omega) w' hg'
      unfold ReadsPost at hr1 hr2
      have hli := @read_line (joinT ls)
      rw [hjs]
      clear hjp hjs hlen2
      generalize hR1 : readS (joinT ls) = R1 at *
      generalize hR2 : readS (joinT (putIn ls k)) = R2 at *
      generalize joinT (putIn ls k) = more at *
      cases R1 with
      | inl q =>
        obtain ⟨n, e1⟩ := q
        obtain ⟨hn0, hn1⟩ := hli rfl
        obtain rfl := put_err hrel rfl
        dsimp only at hr1 hr2
        have HR1 := Lib.hid hr1; have HR2 := Lib.hid hr2
        clear hr1 hr2 hR1 hR2 hrel hli
        go_wp2_with fail
        refine (HR1.out W4 (HG.out.belowH HB4.out)).mono ?_
        rintro e' W5 ⟨hb5, rfl⟩
        have HB5 := Lib.hid (below_next HB4.out hb5)
        clear hb5
        go_wp2_with fail
        refine (HR2.out W5 (HG.out.belowH HB5.out)).mono ?_
        rintro e' W6 ⟨hb6, rfl⟩
        have HB6 := Lib.hid (below_next HB5.out hb6)
        have hsame := same_any none none [] 0 0 W6 (fun i x hx => by simp at hx) (fun i x hx => by simp at hx) (by simp)
        clear hb6
        by_cases hkn : (k : Int) < n
        · have hsh : sh k n = n + 2 := by unfold sh; rw [if_pos hkn]
          rw [hsh]
          clear hsh
          go_wp2_with fail
          refine hsame.mono ?_
          rintro e' W7 ⟨rfl, hb7⟩
          have HB7 := Lib.hid (below_next HB6.out hb7)
          clear hb7 hsame
          go_wp2_with fail
          go_ret
          exact ⟨rfl, HB7.out⟩
        · have hsh : sh k n = n := by unfold sh; rw [if_neg hkn]
          rw [hsh]
          clear hsh
          go_wp2_with fail
          refine hsame.mono ?_
          rintro e' W7 ⟨rfl, hb7⟩
          have HB7 := Lib.hid (below_next HB6.out hb7)
          clear hb7 hsame
          go_wp2_with fail
          go_ret
          exact ⟨rfl, HB7.out⟩
      | inr s =>
        obtain ⟨t, rfl, hts⟩ := put_ok hrel rfl
        dsimp only at hr1 hr2
        rw [hts] at hr2
        have hpl := (read_good hR1).1
        have HR1 := Lib.hid hr1; have HR2 := Lib.hid hr2
        clear hr1 hr2 hR1 hR2 hrel hli hts
        go_wp2_with fail
        refine (HR1.out W4 (HG.out.belowH HB4.out)).mono ?_
        rintro e' W5 ⟨hb5, v5, rfl, hown5⟩
        obtain ⟨A5, c5, rfl, hrd5⟩ := rd_own hown5
        have HB5 := Lib.hid (below_next HB4.out hb5)
        clear hb5 hown5
        go_wp2_with fail
        refine (HR2.out W5 (HG.out.belowH HB5.out)).mono ?_
        rintro e' W6 ⟨hb6, v6, rfl, hown6⟩
        obtain ⟨A6, c6, rfl, hrd6⟩ := rd_own hown6
        have HB6 := Lib.hid (below_next HB5.out hb6)
        have hsame := same_any A5 A6 s.prog c5 c6 W6 (hrd5.belowH hb6) hrd6 (by omega)
        clear hb6 hown6 hrd5 hrd6
        go_wp2_with fail
        refine hsame.mono ?_
        rintro e' W7 ⟨rfl, hb7⟩
        have HB7 := Lib.hid (below_next HB6.out hb7)
        clear hb7 hsame
        go_wp2_with fail
        go_ret
        exact ⟨rfl, HB7.out⟩
  · have hj' : joinOk ls = false := by simpa using hj
    have hjs : joinS ls = [] := by rw [joinS, if_neg hj]
    rw [hj', hjs]
    clear hj hj' hjs
    go_wp2_with fail
    go_ret
    exact ⟨rfl, HB2.out⟩
end Go.Proofs.YtiegkhoidabkhaaDoor
