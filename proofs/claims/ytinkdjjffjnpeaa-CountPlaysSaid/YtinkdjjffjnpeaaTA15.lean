import Derived.Scope
import Derived.Test.YtinkdjjffjnpeaaTA14
namespace Go.Abs
set_option linter.unusedVariables false
open Go.RowKit

section
variable {ι ι' : IM} {ok ok' : Nat → Prop} {H H' : HP} {nx nx' : Nat} {w w' : World} {P : Program} {N : Nat × Nat} {s s' : St} {a a' : Act} {K : KT}

/-- a loop's object is dropped, its block rewritten -/
theorem HSat.dropLoop (hs : HSat ι ok H nx w) {id : Nat} {L : Loc} {b : Nat} {tm : Nat → AV} {M : Nat} {ps : List Nat} {as bd : Code} {st : LoopState} {pe : Option Code} (hH : H id = .loop tm M ps as bd st pe) (hL : ι id = some L) (hb : L.b = some b) (o : Obj) :
    HSat ι ok (hset H id .none) nx (w.putObj b o) ∧ Ext ι ok H nx w ι ok (hset H id .none) (w.putObj b o) := by
  obtain ⟨L', hL', hc, _⟩ := hs.loop id _ _ _ _ _ _ _ hH
  rw [hL] at hL'; injection hL' with e; subst e
  have hlive : (H id).live = true := by rw [hH]; rfl
  have hid : id < nx := by
    rcases Nat.lt_or_ge id nx with h | h
    · exact h
    · have := (hs.fresh id h).1; rw [hL] at this; cases this
  constructor
  · exact hs.modify (id := id) (id' := id) (L := L) (L' := L) (b := b) (ho := .none) hL hlive hc hb hL (fun _ => hb) (fun _ _ => rfl) (fun _ _ h => h) (fun j hj _ => hset_ne _ _ hj) (hset_same _ _ _) (fun h => absurd rfl h) (fun h => absurd rfl h) hid (Nat.le_refl _)
      (by simp) (fun k _ hk => World.putObj_heap_other hk) (by intros; rename_i h; cases h) (by intros; rename_i h; cases h)
  · exact Ext.modify (id := id) (id' := id) (L := L) (L' := L) (b := b) hL hlive hc hb hL (fun _ => hb) (fun _ _ => rfl) (fun _ _ h => h) (.inl rfl) (fun j hj _ => hset_ne _ _ hj) (fun h => absurd rfl h) rfl rfl rfl (by simp) (fun k _ hk => World.putObj_heap_other hk)

/-- a loop's object is rewritten -/
theorem HSat.setLoop (hs : HSat ι ok H nx w) {id : Nat} {L : Loc} {b : Nat} {tm : Nat → AV} {M : Nat} {ps : List Nat} {as bd : Code} {st : LoopState} {pe : Option Code} (hH : H id = .loop tm M ps as bd st pe) (hL : ι id = some L) (hb : L.b = some b) {r : Loop} (hr : w.heap[b]? = some (.loop r)) (st' : LoopState) (pe' : Option Code) :
    HSat ι ok (hset H id (.loop tm M ps as bd st' pe')) nx (w.putObj b (.loop { r with state := st', pending := pe' })) ∧ Ext ι ok H nx w ι ok (hset H id (.loop tm M ps as bd st' pe')) (w.putObj b (.loop { r with state := st', pending := pe' })) := by
  obtain ⟨L', hL', hc, b', r', hb', hnok, hr', h1, h2, h3, h4, h5, h6, h7⟩ := hs.loop id _ _ _ _ _ _ _ hH
  rw [hL] at hL'; injection hL' with e; subst e
  rw [hb] at hb'; injection hb' with e; subst e
  rw [hr] at hr'; injection hr' with e; injection e with e; subst e
  have hlive : (H id).live = true := by rw [hH]; rfl
  have hid : id < nx := by
    rcases Nat.lt_or_ge id nx with h | h
    · exact h
    · have := (hs.fresh id h).1; rw [hL] at this; cases this
  have hlt := (Array.getElem?_eq_some_iff.1 hr).1
  have hokb : ∀ k, ok k → (w.putObj b (.loop { r with state := st', pending := pe' })).heap[k]? = w.heap[k]? := fun k hk => World.putObj_heap_other (fun e => hnok (e ▸ hk))
  constructor
  · refine hs.modify (id := id) (id' := id) (L := L) (L' := L) (b := b) hL hlive hc hb hL (fun _ => hb) (fun _ _ => rfl) (fun _ _ h => h) (fun j hj _ => hset_ne _ _ hj) (hset_same _ _ _) (fun h => absurd rfl h) (fun h => absurd rfl h) hid (Nat.le_refl _)
      (by simp) (fun k _ hk => World.putObj_heap_other hk) (by intros; rename_i h; cases h) ?_
    intro tm' N' ps' as' bd' st'' pe'' he
    injection he with e1 e2 e3 e4 e5 e6 e7
    subst e1 e2 e3 e4 e5 e6 e7
    exact ⟨hc, b, _, hb, hnok, World.putObj_heap_same hlt, h1, fun t => (h2 t).mono (fun _ h => h) hokb (fun _ _ h => h), h3, h4, h5, rfl, rfl⟩
  · exact Ext.modify (id := id) (id' := id) (L := L) (L' := L) (b := b) hL hlive hc hb hL (fun _ => hb) (fun _ _ => rfl) (fun _ _ h => h) (.inl rfl) (fun j hj _ => hset_ne _ _ hj) (fun h => absurd rfl h) rfl rfl rfl (by simp) (fun k _ hk => World.putObj_heap_other hk)

theorem rfunc_sound {g : Operand} {f : AOpd} {ps : Array Tmp} {as bd : Code} {Q : AOut → St → Prop} (hf : opd g = some f)
    (h : wpc P N.1 (.rfunc f ps.toList as bd) s Q) : AW P N true (.rangeFunc g ps as bd) s Q := by
  intro r ι ok a w hr hs
  have hr0 := hr rfl
  subst hr0
  simp only [wpc] at h
  split at h
  case h_2 => exact h.elim
  rename_i gf caps he
  obtain ⟨hen, hcall⟩ := h
  have hfr := opd_sound hf hs
  rw [he] at hfr
  generalize hfv : a.eval g = fv at hfr
  cases hfr.leaf with
  | fn _ _ vs _ hvl hvr =>
    refine wpIn_rangeFunc fun fn _ => ?_
    obtain ⟨f1, f2⟩ := hs.hs.fresh s.nx (Nat.le_refl _)
    -- the two blocks
    obtain ⟨rec, hrec⟩ : ∃ rec : Loop, rec = { state := .ready, pending := none, fn, tmps := a.tmps, params := ps, assign := as, body := bd, defers := w.heap.size } := ⟨_, rfl⟩
    have hs1 : HSat ι ok s.hp s.nx (w.alloc (.deferred (some []))) := hs.hs.other _
    have he1 : Ext ι ok s.hp s.nx w ι ok s.hp (w.alloc (.deferred (some []))) := Ext.other _
    have hsz1 : (w.alloc (.deferred (some []))).heap.size = w.heap.size + 1 := alloc_size _ _
    obtain ⟨L, hLd⟩ : ∃ L : Loc, L = ⟨some (w.heap.size + 1), 0, 0, 1⟩ := ⟨_, rfl⟩
    have hbk : ∀ k, L.b = some k → k = (w.alloc (.deferred (some []))).heap.size := fun k hk => by rw [hLd] at hk; injection hk with hk; rw [hsz1]; exact hk.symm
    have hs2 : HSat (imset ι s.nx L) ok (hset s.hp s.nx (.loop s.tm N.1 ps.toList as bd .ready none)) (s.nx + 1) ((w.alloc (.deferred (some []))).alloc (.loop rec)) := by
      refine hs1.grow (.loop rec) f1 f2 L _ (Nat.lt_succ_self _) (Nat.le_succ _) (by intros; rename_i h; cases h) ?_ (fun k _ _ hk => hbk k hk)
      intro tm' N' ps' as' bd' st' pe' heq
      injection heq with e1 e2 e3 e4 e5 e6 e7
      subst e1 e2 e3 e4 e5 e6 e7
      refine ⟨by rw [hLd]; simp, w.heap.size + 1, rec, by rw [hLd], fun hk => ?_, ?_, by rw [hrec]; exact hs.sz, fun t => ?_, by rw [hrec], by rw [hrec], by rw [hrec], by rw [hrec], by rw [hrec]⟩
      · have := hs.hs.ok_lt _ hk; omega
      · rw [← hsz1]; exact alloc_new _ _
      · rw [hrec]
        exact (hs.tm t).mono (fun _ h => h) (fun k hk => by
          have := hs.hs.ok_lt k hk
          rw [Below.heap_alloc _ _ _ (by omega), Below.heap_alloc _ _ _ this]) (im_ext f1 L)
    have he2 : Ext ι ok s.hp s.nx w (imset ι s.nx L) ok (hset s.hp s.nx (.loop s.tm N.1 ps.toList as bd .ready none)) ((w.alloc (.deferred (some []))).alloc (.loop rec)) :=
      he1.trans (Ext.grow (.loop rec) f1 (Nat.le_refl _) L _ (fun k _ _ hk => hbk k hk)) (Nat.le_refl _)
    have hyl : RepC ok ((w.alloc (.deferred (some []))).alloc (.loop rec)) (imset ι s.nx L) (.func (.yield (w.heap.size + 1)) #[] #[]) (.x (.yl s.nx)) := .x (.yl _ s.nx L _ (imset_same _ _ _) (by rw [hLd]))
    have hcaps : RepCs ok ((w.alloc (.deferred (some []))).alloc (.loop rec)) (imset ι s.nx L) vs (caps.map .x) :=
      caps_rep hvl (fun i v x h1 h2 => he2.repL hs.hs (hvr i v x h1 h2))
    have hargs : RepCs ok ((w.alloc (.deferred (some []))).alloc (.loop rec)) (imset ι s.nx L) (.func (.yield (w.heap.size + 1)) #[] #[] :: vs) (.x (.yl s.nx) :: caps.map .x) := by
      refine ⟨by simp [hcaps.1], fun i v x h1 h2 => ?_⟩
      cases i with
      | zero => simp at h1 h2; subst h1 h2; exact hyl
      | succ i => exact hcaps.2 i v x (by simpa using h1) (by simpa using h2)
    have hc := hcall _ ok _ _ hs2 hargs
    refine ⟨w.heap.size + 1, [{ target := .collected w.heap.size, args := #[] }], (w.alloc (.deferred (some []))).alloc (.loop rec), { target := .fn (.func gf) vs.toArray, args := #[] ++ #[.func (.yield (w.heap.size + 1)) #[] #[]] }, (w.alloc (.deferred (some []))).alloc (.loop rec), gf,
      (.func (.yield (w.heap.size + 1)) #[] #[] :: vs).toArray, (w.alloc (.deferred (some []))).alloc (.loop rec), ?_, ?_, fun _ _ => trivial, ?_, fun h => (by cases h), CallsIn.mono (callsIn_Fw none hc) ?_⟩
    · rw [hrec]; exact run_enterLoop_outer _ _ _ _ _
    · have e1 : (#[Operand.const (.func (.yield (w.heap.size + 1)) #[] #[])]).map a.eval = #[Value.func (.yield (w.heap.size + 1)) #[] #[]] := by simp [Act.eval]
      simp only [resolve, hfv, Deferred.ofValue, Sem.run_pure, e1]
    · simp only [invoke]
      have e1 : #[] ++ #[Value.func (.yield (w.heap.size + 1)) #[] #[]] ++ vs.toArray = (Value.func (.yield (w.heap.size + 1)) #[] #[] :: vs).toArray := by apply Array.ext'; simp
      rw [e1]; exact hen _ _
    · rintro e w3 ⟨v, x, H', nx', ι', ok', rfl, hK, g1, g2, g3, g4⟩
      -- behind the function
      unfold rfEnd at hK
      split at hK
      case h_2 => exact hK.elim
      rename_i tm' N' ps' as' bd' st pend hH'
      obtain ⟨hst, hQ⟩ := hK
      obtain ⟨L', hL', hc', b, r3, hb, hnok, hr3, k1, k2, k3, k4, k5, k6, k7⟩ := g1.loop s.nx _ _ _ _ _ _ _ hH'
      have hLL : L' = L := by
        have := g2.im s.nx L (imset_same _ _ _)
        rw [this] at hL'; injection hL' with hL'; exact hL'.symm
      subst hLL
      have hbb : b = w.heap.size + 1 := by rw [hLd] at hb; injection hb with hb; exact hb.symm
      subst hbb
      have hend := run_endLoop (P := P) hr3 (by rw [k6]; exact hst)
      have hdd := g1.dropLoop hH' hL' hb (.loop { r3 with state := .exhausted })
      obtain ⟨W4, hW4⟩ : ∃ W4, W4 = w3.putObj (w.heap.size + 1) (.loop { r3 with state := .exhausted }) := ⟨_, rfl⟩
      rw [← hW4] at hend hdd
      rw [k7] at hend
      obtain ⟨d1, d2⟩ := hdd
      have hall : Ext ι ok s.hp s.nx w ι' ok' (hset H' s.nx .none) W4 :=
        (he2.trans g2 (Nat.le_succ _)).trans d2 (by omega)
      have hmark : DefRep N.2 ι' ok' (hset H' s.nx .none) W4 { target := .collected w.heap.size, args := #[] } .mark := by
        have hm0 : ¬ MutB (imset ι s.nx L') (hset s.hp s.nx (.loop s.tm N.1 ps.toList as bd .ready none)) w.heap.size := by
          rintro ⟨j, M, hM, hl, hcc, hbb⟩
          by_cases e : j = s.nx
          · subst e
            rw [imset_same] at hM; injection hM with hM; subst hM
            rw [hb] at hbb; injection hbb with hbb; omega
          · rw [imset_ne _ _ e] at hM; rw [hset_ne _ _ e] at hl
            have hmut : MutB ι s.hp w.heap.size := ⟨j, M, hM, hl, hcc, hbb⟩
            -- a live object lies below the heap's size
            cases hHj : s.hp j with
            | none => rw [hHj] at hl; simp [HO.live] at hl
            | blk z rows mt pu =>
              obtain ⟨M2, hM2, _, _, _, h4⟩ := hs.hs.blk j z rows mt pu hHj
              rw [hM] at hM2; injection hM2 with e; subst e
              obtain ⟨b', hb', hlt, _⟩ := h4 hcc
              rw [hbb] at hb'; injection hb' with e; omega
            | loop tm2 N2 ps2 as2 bd2 st2 pe2 =>
              obtain ⟨M2, hM2, _, b', r', hb', _, hr', _⟩ := hs.hs.loop j _ _ _ _ _ _ _ hHj
              rw [hM] at hM2; injection hM2 with e; subst e
              rw [hbb] at hb'; injection hb' with e; subst e
              have := (Array.getElem?_eq_some_iff.1 hr').1; omega
        refine ⟨w.heap.size, rfl, ?_, fun hm => ?_, fun ho => ?_, hs.bs⟩
        · rw [hW4, World.putObj_heap_other (by omega), g2.same w.heap.size (by simp; omega) hm0, Below.heap_alloc _ _ _ (by rw [hsz1]; omega)]
          exact alloc_new _ _
        · rcases (g2.trans d2 g4).mutr _ hm with h | h
          · exact hm0 h
          · simp at h; omega
        · rcases (g2.trans d2 g4).okr _ ho with h | h | h
          · have := hs.hs.ok_lt _ h; omega
          · exact hm0 h
          · simp at h; omega
      have hsat : Sat N ι' ok' ⟨s.tm, hset H' s.nx .none, nx', .mark :: s.df⟩ { a with defers := [{ target := .collected w.heap.size, args := #[] }] ++ a.defers } W4 := by
        refine ⟨d1, hs.sz, fun t => hall.repV hs.hs (hs.tm t), by simp [hs.dl], fun i d x h1 h2 => ?_, Nat.le_trans hs.bs hall.size, fun i j d e r h1 h2 h3 h4 => ?_⟩
        · cases i with
          | zero => simp at h1 h2; subst h1 h2; exact hmark
          | succ i => exact (hs.df i d x (by simpa using h1) (by simpa using h2)).ext hs.hs hall
        · have old : ∀ (i : Nat) (d : Deferred), a.defers[i]? = some d → d.target ≠ .collected w.heap.size := fun i d hd ht => by
            have hlt := (List.getElem?_eq_some_iff.1 hd).1
            have hlt2 : i < s.df.length := by rw [← hs.dl]; exact hlt
            have := hs.df i d s.df[i] hd (List.getElem?_eq_getElem hlt2)
            cases hx : s.df[i] with
            | mark =>
              rw [hx] at this
              obtain ⟨r, k1, k2, _⟩ := this
              rw [ht] at k1; injection k1 with k1; subst k1
              have := (Array.getElem?_eq_some_iff.1 k2).1; omega
            | call f args =>
              rw [hx] at this
              obtain ⟨cap, k1, _⟩ := this
              rw [ht] at k1; cases k1
          cases i with
          | zero =>
            simp at h1; subst h1
            simp at h3; subst h3
            cases j with
            | zero => rfl
            | succ j => exact absurd h4 (old j e (by simpa using h2))
          | succ i => cases j with
            | zero =>
              simp at h2; subst h2
              simp at h4; subst h4
              exact absurd h3 (old i d (by simpa using h1))
            | succ j => rw [hs.mks i j d e r (by simpa using h1) (by simpa using h2) h3 h4]
      refine ⟨pend, _, hend, ?_⟩
      have hnxx : s.nx ≤ nx' := by omega
      cases pend with
      | none => exact ⟨.normal, _, ι', ok', rfl, hQ, hsat, hall, hnxx⟩
      | some c =>
        cases c with
        | ret => exact wpIn_ret ⟨.ret, _, ι', ok', rfl, hQ, hsat, hall, hnxx⟩
        | exit i => exact wpIn_exit ⟨.exit i, _, ι', ok', rfl, hQ, hsat, hall, hnxx⟩
        | goto l => exact wpIn_goto ⟨.goto l, _, ι', ok', rfl, hQ, hsat, hall, hnxx⟩
        | _ => exact hQ.elim

theorem AW.seq {top : Bool} {c1 c2 : Code} {Q : AOut → St → Prop} (h : AW P N top c1 s fun o s1 => match o with | .normal => AW P N top c2 s1 Q | o => Q o s1) : AW P N top (.seq c1 c2) s Q := fun r ι ok a w hr hs => by
  refine wpIn_seq (wpIn_mono (h r ι ok a w hr hs) fun e a' w' hp => ?_)
  obtain ⟨o, s1, ι1, ok1, rfl, hq, h1, h2, h3⟩ := hp
  cases o with
  | normal => exact wpIn_mono (hq r ι1 ok1 a' w' hr h1) fun e a'' w'' hp => hp.trans h2 h3
  | exit i => exact ⟨.exit i, s1, ι1, ok1, rfl, hq, h1, h2, h3⟩
  | goto l => exact ⟨.goto l, s1, ι1, ok1, rfl, hq, h1, h2, h3⟩
  | ret => exact ⟨.ret, s1, ι1, ok1, rfl, hq, h1, h2, h3⟩

theorem wpc_sound {top : Bool} {on : List Nat} : ∀ {c : Code} {ac : ACode} {s : St} {Q : AOut → St → Prop}, compC P top N.1 on c = some ac → wpc P N.1 ac s Q → AW P N top c s Q := by
  intro c
  induction c with
  | skip => intro ac s Q hc h r ι ok a w hr hs; injection hc with hc; subst hc; exact wpIn_skip ⟨.normal, s, ι, ok, rfl, h, hs, Ext.refl, Nat.le_refl _⟩
  | label l => intro ac s Q hc h r ι ok a w hr hs; injection hc with hc; subst hc; exact wpIn_label ⟨.normal, s, ι, ok, rfl, h, hs, Ext.refl, Nat.le_refl _⟩
  | exit id => intro ac s Q hc h r ι ok a w hr hs; injection hc with hc; subst hc; exact wpIn_exit ⟨.exit id, s, ι, ok, rfl, h, hs, Ext.refl, Nat.le_refl _⟩
  | goto l => intro ac s Q hc h r ι ok a w hr hs; injection hc with hc; subst hc; exact wpIn_goto ⟨.goto l, s, ι, ok, rfl, h, hs, Ext.refl, Nat.le_refl _⟩
  | ret => intro ac s Q hc h r ι ok a w hr hs; injection hc with hc; subst hc; exact wpIn_ret ⟨.ret, s, ι, ok, rfl, h, hs, Ext.refl, Nat.le_refl _⟩
  | refuse y => intro ac s Q hc; cases hc
  | region id ops draw =>
    intro ac s Q hc h r ι ok a w hr hs
    simp only [compC, Option.bind_eq_bind, Option.bind_eq_some_iff] at hc
    obtain ⟨cs, hcs, hc⟩ := hc
    cases draw with
    | false =>
      simp only [Bool.false_eq_true, if_false] at hc
      injection hc with hc; subst hc
      simp only [wpc] at h
      refine wpIn_region (wpoL_sound (fz := false) hr hcs (List.range ops.size) s a w ι ok hs Ext.refl (Nat.le_refl _) ?_)
      have hl := (mapM_get hcs).1
      have := wpo_L (P := P) (cs := cs) (T := Q .normal) ops.size 0 s (by simpa using hl.symm)
      rw [List.drop_zero] at this
      rw [AOper.map_fz_false, List.range_eq_range', this]; exact h
    | true =>
      simp only [if_true, Option.map_eq_some_iff] at hc
      obtain ⟨ds, hds, hc⟩ := hc
      subst hc
      simp only [wpc] at h
      refine wpIn_region_draw fun t => ?_
      have hsd : Sat N ι ok s a { w with drawn := w.drawn + 1 } := ⟨hs.hs.heap rfl, hs.sz, fun t => (hs.tm t).heap rfl, hs.dl, fun i d x h1 h2 => (hs.df i d x h1 h2).ext hs.hs Ext.drew, hs.bs, hs.mks⟩
      exact wpoL_sound hr hcs _ s a _ ι ok hsd Ext.drew (Nat.le_refl _) (draw_ok hds (wpe_wpd _ _ _ _ _ _ (fun _ _ _ h => h) h) t)
  | seq x y ihx ihy =>
    intro ac s Q hc h
    simp only [compC, Option.bind_eq_bind, Option.bind_eq_some_iff] at hc
    obtain ⟨ax, hx, ay, hy, hc⟩ := hc
    injection hc with hc; subst hc
    simp only [wpc] at h
    refine AW.seq ?_
    have := ihx hx h
    intro r ι ok a w hr hs
    refine wpIn_mono (this r ι ok a w hr hs) fun e a' w' hp => ?_
    obtain ⟨o, s1, ι1, ok1, h1, hq, h2⟩ := hp
    refine ⟨o, s1, ι1, ok1, h1, ?_, h2⟩
    cases o with
    | normal => exact ihy hy hq
    | exit i => exact hq
    | goto l => exact hq
    | ret => exact hq
  | cond cd x y ihx ihy =>
    intro ac s Q hc h r ι ok a w hr hs
    simp only [compC, Option.bind_eq_bind, Option.bind_eq_some_iff] at hc
    obtain ⟨ac', hcd, ax, hx, ay, hy, hc⟩ := hc
    injection hc with hc; subst hc
    simp only [wpc] at h
    split at h
    · rename_i t he
      have hb := opd_sound hcd hs
      rw [he] at hb
      refine wpIn_cond_split hb.bool (fun ht => ihx hx (h.1 ht) r ι ok a w hr hs) (fun ht => ihy hy (h.2 ht) r ι ok a w hr hs)
    · exact h.elim
  | block id x ih =>
    intro ac s Q hc h r ι ok a w hr hs
    simp only [compC, Option.bind_eq_bind, Option.bind_eq_some_iff] at hc
    obtain ⟨ax, hx, hc⟩ := hc
    injection hc with hc; subst hc
    simp only [wpc] at h
    refine wpIn_block (wpIn_mono (ih hx h r ι ok a w hr hs) fun e a' w' hp => ?_)
    obtain ⟨o, s1, ι1, ok1, rfl, hq, h1, h2, h3⟩ := hp
    cases o with
    | normal => exact ⟨.normal, s1, ι1, ok1, rfl, hq, h1, h2, h3⟩
    | exit i =>
      simp only [AOut.ex, Exit.inBlock]
      simp only at hq
      split
      · rename_i e; rw [if_pos e] at hq; exact ⟨.normal, s1, ι1, ok1, rfl, hq, h1, h2, h3⟩
      · rename_i e; rw [if_neg e] at hq; exact ⟨.exit i, s1, ι1, ok1, rfl, hq, h1, h2, h3⟩
    | goto l => exact ⟨.goto l, s1, ι1, ok1, rfl, hq, h1, h2, h3⟩
    | ret => exact ⟨.ret, s1, ι1, ok1, rfl, hq, h1, h2, h3⟩
  | loop x ih =>
    intro ac s Q hc h r ι ok a w hr hs
    simp only [compC, Option.bind_eq_bind, Option.bind_eq_some_iff] at hc
    obtain ⟨ax, hx, hc⟩ := hc
    injection hc with hc; subst hc
    simp only [wpc] at h
    obtain ⟨β, L, inv, μ, ⟨b0, hb0, hle0⟩, hround⟩ := h
    -- the invariant: some b, and its measure
    let I : Act → World → Prop := fun a' w' => ∃ b ι' ok', inv b ∧ Sat N ι' ok' (L b) a' w' ∧ Ext ι ok s.hp s.nx w ι' ok' (L b).hp w' ∧ s.nx ≤ (L b).nx
    have key : ∀ n, ∀ b, inv b → μ b = n → ∀ a' w' ι' ok', Sat N ι' ok' (L b) a' w' → Ext ι ok s.hp s.nx w ι' ok' (L b).hp w' → s.nx ≤ (L b).nx →
        ∀ (fr : Frame) (k : List Item) (cs : List Frame), fr.roundOf = (Fw r).round → (Fw r).fn fr.fn → (Fw r).room (cs.length + 1 + 0) →
        ∃ e a'' w'', APost N ι ok s w Q e a'' w'' ∧ ArrivesIn (Machine.fenced P (Fw r)) P (lone (fr.atR a' (.code x :: .inLoop x :: k)) cs w') fr k cs e a'' w'' := by
      intro n
      induction n using Nat.strongRecOn with
      | _ n ihn =>
        intro b hb hμ a' w' ι' ok' hsat hext hnx fr k cs hro hfb hroom
        obtain ⟨e, a1, w1, hp, harr⟩ := ih hx (hround b hb) r ι' ok' a' w' hr hsat fr (.inLoop x :: k) cs hro hfb hroom
        obtain ⟨o, s1, ι1, ok1, rfl, hq, g1, g2, g3⟩ := hp
        cases o with
        | normal =>
          obtain ⟨b', hb', hle, hlt⟩ := hq
          obtain ⟨ι2, ok2, k1, k2, k3⟩ := hle N ι1 ok1 a1 w1 g1
          obtain ⟨e2, a2, w2, hq2, harr2⟩ := ihn (μ b') (hμ ▸ hlt) b' hb' rfl a1 w1 ι2 ok2 k1 ((hext.trans g2 hnx).trans k2 (Nat.le_trans hnx g3)) (Nat.le_trans hnx (Nat.le_trans g3 k3)) fr k cs hro hfb hroom
          exact ⟨e2, a2, w2, hq2, .of_steps (StepsIn.trans harr (.one (fenced_calm hfb hroom rfl) stepR_inLoop)) harr2⟩
        | exit i =>
          obtain ⟨s2, hle, hq⟩ := hq
          obtain ⟨ι2, ok2, k1, k2, k3⟩ := hle N ι1 ok1 a1 w1 g1
          exact ⟨_, a1, w1, ⟨.exit i, s2, ι2, ok2, rfl, hq, k1, (hext.trans g2 hnx).trans k2 (Nat.le_trans hnx g3), Nat.le_trans hnx (Nat.le_trans g3 k3)⟩, .pass (x := .inLoop x) rfl (fun _ _ => .inl (by simp [AOut.ex])) harr⟩
        | goto l =>
          obtain ⟨s2, hle, hq⟩ := hq
          obtain ⟨ι2, ok2, k1, k2, k3⟩ := hle N ι1 ok1 a1 w1 g1
          exact ⟨_, a1, w1, ⟨.goto l, s2, ι2, ok2, rfl, hq, k1, (hext.trans g2 hnx).trans k2 (Nat.le_trans hnx g3), Nat.le_trans hnx (Nat.le_trans g3 k3)⟩, .pass (x := .inLoop x) rfl (fun _ _ => .inl (by simp [AOut.ex])) harr⟩
        | ret =>
          obtain ⟨s2, hle, hq⟩ := hq
          obtain ⟨ι2, ok2, k1, k2, k3⟩ := hle N ι1 ok1 a1 w1 g1
          exact ⟨_, a1, w1, ⟨.ret, s2, ι2, ok2, rfl, hq, k1, (hext.trans g2 hnx).trans k2 (Nat.le_trans hnx g3), Nat.le_trans hnx (Nat.le_trans g3 k3)⟩, .pass (x := .inLoop x) rfl (fun _ _ => .inl (by simp [AOut.ex])) harr⟩
    intro fr k cs hro hfb hroom
    obtain ⟨ι', ok', k1, k2, k3⟩ := hle0 N ι ok a w hs
    obtain ⟨e, a', w', hq, harr⟩ := key _ b0 hb0 rfl a w ι' ok' k1 k2 k3 fr k cs hro hfb hroom
    exact ⟨e, a', w', hq, .of_steps (.one (fenced_calm hfb hroom rfl) stepR_loop) harr⟩
  | rangeFunc f ps as bd _ _ =>
    intro ac s Q hc h
    simp only [compC] at hc
    split at hc
    · rename_i htop
      subst htop
      simp only [Option.bind_eq_bind, Option.bind_eq_some_iff] at hc
      obtain ⟨f', hf, hc⟩ := hc
      injection hc with hc; subst hc
      exact rfunc_sound hf h
    · cases hc
  | scope x ih =>
    intro ac s Q hc h r ι ok a w hr hs
    simp only [compC] at hc
    split at hc
    · rename_i htop
      subst htop
      simp only [Option.bind_eq_bind, Option.bind_eq_some_iff] at hc
      obtain ⟨ax, hx, hc⟩ := hc
      injection hc with hc; subst hc
      have hr0 := hr rfl
      subst hr0
      simp only [wpc] at h
      have := ih hx h none ι ok a w (fun _ => rfl) hs
      rw [Fw_none] at this ⊢
      rw [wpIn_wide] at this ⊢
      refine wp_scope_straight (wp_mono this fun e a' w' hp => ?_)
      obtain ⟨o, s1, ι1, ok1, rfl, hq, h1, h2, h3⟩ := hp
      cases o with
      | normal => exact ⟨.normal, s1, ι1, ok1, rfl, hq, h1, h2, h3⟩
      | exit i => exact ⟨.exit i, s1, ι1, ok1, rfl, hq, h1, h2, h3⟩
      | goto l => exact hq.elim
      | ret => exact ⟨.ret, s1, ι1, ok1, rfl, hq, h1, h2, h3⟩
    · cases hc
end
end Go.Abs
