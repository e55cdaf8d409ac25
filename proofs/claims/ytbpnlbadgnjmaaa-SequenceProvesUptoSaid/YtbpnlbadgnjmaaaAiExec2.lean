/- Ai, part 12: every operation: the abstract run is right. No condition. -/
import Derived.Test.YtbpnlbadgnjmaaaAiExec
namespace Go.Ai
set_option linter.unusedSimpArgs false
set_option linter.unusedVariables false
set_option linter.constructorNameAsVariable false

section
variable {P : Program} {T : Nat → Option Ty} {S : Sp} {w0 : World} {h0 : H} {st : St} {a : Act} {w w' : World} {β : Beta} {h h' : H} {o : Oper} {Q : Exit → Act → World → Prop}

theorem map_pair {α : Type} {x : Option α} {f : α → AV × Upd} {y : AV × Upd} (he : x.map f = some y) : ∃ z, x = some z ∧ f z = y := Option.map_eq_some_iff.1 he

theorem pair_nil {v : AV} {x : AV} {u : Upd} (he : (x, ([] : Upd)) = (v, u)) : v = x ∧ u = [] := by injection he with a b; exact ⟨a.symm, b.symm⟩

theorem g_build (hT : TOk P T) {E : Env} (k : RelAt S w0 h0 st a w β h) {ob' : Obs} {d : Nat} {t : Nat} {parts : Array (Nat × Operand)} (hop : o.op = .build t parts) {v : AV} {u : Upd} (he : exec T E (evalOp st.tmps) ob' d (.build t parts) = some (v, u)) : Goes P S w0 h0 o a w (st.put o.dst v u) Q := by
  simp only [exec] at he
  split at he
  · rename_i fs zero size bytes eq htt
    obtain ⟨ls, h1, h2⟩ := map_pair he
    obtain ⟨rfl, rfl⟩ := pair_nil h2
    exact (q_build hT k hop htt (.inl ⟨fs, rfl, h1⟩)).goes k
  · rename_i n e zero size bytes eq htt
    split at he
    · rename_i te hte
      obtain ⟨ls, h1, h2⟩ := map_pair he
      obtain ⟨rfl, rfl⟩ := pair_nil h2
      exact (q_build hT k hop htt (.inr ⟨n, e, te, rfl, hte, h1⟩)).goes k
    · cases he
  · cases he

theorem g_buildSlice (hT : TOk P T) {E : Env} (k : RelAt S w0 h0 st a w β h) {ob' : Obs} {d : Nat} {t len : Nat} {parts : Array (Nat × Operand)} (hop : o.op = .buildSlice t len parts) {v : AV} {u : Upd} (he : exec T E (evalOp st.tmps) ob' d (.buildSlice t len parts) = some (v, u)) : Goes P S w0 h0 o a w (st.put o.dst v u) Q := by
  simp only [exec] at he
  split at he
  · rename_i e zero size bytes eq htt
    split at he
    · rename_i te hte
      split at he
      · rename_i hc
        split at he
        · rename_i ls hf
          obtain ⟨rows, h1, h2⟩ := map_pair he
          obtain ⟨rfl, rfl⟩ := pair_nil h2
          exact (d_buildSlice hT k hop htt rfl hte hc.1 hc.2 hf h1).goes
        · cases he
      · cases he
    · cases he
  · cases he

theorem g_load (hT : TOk P T) {E : Env} (k : RelAt S w0 h0 st a w β h) {ob' : Obs} (hob : ∀ i o, ob' i = some o → st.ob i = some o) {d : Nat} {t : Nat} {x : Operand} (hop : o.op = .load t x) {v : AV} {u : Upd} (he : exec T E (evalOp st.tmps) ob' d (.load t x) = some (v, u)) : Goes P S w0 h0 o a w (st.put o.dst v u) Q := by
  simp only [exec] at he
  split at he
  · rename_i id ver off ty hx ht
    split at he
    · rename_i ct ver' cs ho
      split at he
      · rename_i hc
        obtain ⟨rfl, hl⟩ := hc
        obtain ⟨z, h1, h2⟩ := map_pair he
        obtain ⟨rfl, rfl⟩ := pair_nil h2
        exact (q_load_ptr hT k hop hx ht (hob _ _ ho) hl h1).goes k
      · cases he
    · cases he
  · rename_i cs ty hx ht
    split at he
    · rename_i hl
      obtain ⟨z, h1, h2⟩ := map_pair he
      obtain ⟨rfl, rfl⟩ := pair_nil h2
      exact (q_load_iptr hT k hop hx ht hl h1).goes k
    · cases he
  · cases he

theorem g_store (hT : TOk P T) {E : Env} (k : RelAt S w0 h0 st a w β h) {ob' : Obs} (hob : ∀ i o, ob' i = some o → st.ob i = some o) {d : Nat} {t : Nat} {x y : Operand} (hop : o.op = .store t x y) {v : AV} {u : Upd} (hup : u.all (fun p => decide (p.1 < st.objs.length)) = true)
    (he : exec T E (evalOp st.tmps) ob' d (.store t x y) = some (v, u)) : Goes P S w0 h0 o a w (st.put o.dst v u) Q := by
  simp only [exec] at he
  split at he
  · rename_i id ver off v' ty hx hy ht
    split at he
    · rename_i ct ver' cs ho
      split at he
      · rename_i hc
        obtain ⟨rfl, h1, h2, h3, h4⟩ := hc
        injection he with he
        injection he with e1 e2
        subst e1; subst e2
        exact (d_store hT k hop hx hy ht (hob _ _ ho) (by simpa using hup) h1 h2 h3 h4).goes
      · cases he
    · cases he
  · cases he

theorem g_alloc (hT : TOk P T) {E : Env} (k : RelAt S w0 h0 st a w β h) {ob' : Obs} {d : Nat} (hobd : d < st.objs.length → ob' d = st.ob d) {t : Nat} (hop : o.op = .alloc t) {v : AV} {u : Upd} (hup : u.all (fun p => decide (p.1 < st.objs.length)) = true)
    (he : exec T E (evalOp st.tmps) ob' d (.alloc t) = some (v, u)) : Goes P S w0 h0 o a w (st.put o.dst v u) Q := by
  simp only [exec] at he
  split at he
  · rename_i ty ht hd
    injection he with he
    injection he with e1 e2
    subst e1; subst e2
    have hdl : d < st.objs.length := by simpa using hup
    exact (d_alloc hT k hop ht (by rw [← hobd hdl]; exact hd) hdl).goes
  · cases he

theorem g_box (hT : TOk P T) {E : Env} (k : RelAt S w0 h0 st a w β h) {ob' : Obs} {d : Nat} (hobd : d < st.objs.length → ob' d = st.ob d) {t : Nat} {x : Operand} (hop : o.op = .box t x) {v : AV} {u : Upd} (hup : u.all (fun p => decide (p.1 < st.objs.length)) = true)
    (he : exec T E (evalOp st.tmps) ob' d (.box t x) = some (v, u)) : Goes P S w0 h0 o a w (st.put o.dst v u) Q := by
  simp only [exec] at he
  split at he
  · rename_i v' ty hx ht hd
    split at he
    · rename_i hc
      injection he with he
      injection he with e1 e2
      subst e1; subst e2
      have hdl : d < st.objs.length := by simpa using hup
      exact (d_box hT k hop hx (by rw [← hobd hdl]; exact hd) hdl hc.2.2 (by omega)).goes
    · cases he
  · cases he

theorem g_makeSlice (hT : TOk P T) {E : Env} (k : RelAt S w0 h0 st a w β h) {ob' : Obs} {d : Nat} (hobd : d < st.objs.length → ob' d = st.ob d) {t : Nat} {x y : Operand} (hop : o.op = .makeSlice t x y) {v : AV} {u : Upd} (hup : u.all (fun p => decide (p.1 < st.objs.length)) = true)
    (he : exec T E (evalOp st.tmps) ob' d (.makeSlice t x y) = some (v, u)) : Goes P S w0 h0 o a w (st.put o.dst v u) Q := by
  simp only [exec] at he
  split at he
  · rename_i e zero size bytes eq n m ht hx hy hd
    split at he
    · rename_i te hte
      split at he
      · rename_i hc
        obtain ⟨rfl, h1, h2, h3, h4⟩ := hc
        injection he with he
        injection he with e1 e2
        subst e1; subst e2
        have hdl : d < st.objs.length := by simpa using hup
        exact (d_makeSlice hT k hop ht rfl hte hx hy (by rw [← hobd hdl]; exact hd) hdl h1 h2 h3 h4).goes
      · cases he
    · cases he
  · cases he

theorem g_binOp (hT : TOk P T) {E : Env} (k : RelAt S w0 h0 st a w β h) {ob' : Obs} {d : Nat} {op : BinOp} {t r : Nat} {x y : Operand} (hop : o.op = .binOp op t x y r) {v : AV} {u : Upd} (he : exec T E (evalOp st.tmps) ob' d (.binOp op t x y r) = some (v, u)) : Goes P S w0 h0 o a w (st.put o.dst v u) Q := by
  simp only [exec] at he
  split at he
  · rename_i p q hx hy
    split at he
    · rename_i z hz
      injection he with he
      obtain ⟨rfl, rfl⟩ := pair_nil he
      exact (q_bin k hop hx hy hz).goes k
    · split at he
      · rename_i ty ht
        obtain ⟨z, h1, h2⟩ := map_pair he
        obtain ⟨rfl, rfl⟩ := pair_nil h2
        exact (q_cmp hT k hop hx hy ht h1).goes k
      · cases he
  · cases he

theorem g_convert (hT : TOk P T) {E : Env} (k : RelAt S w0 h0 st a w β h) {ob' : Obs} (hob : ∀ i o, ob' i = some o → st.ob i = some o) {d : Nat} {s t : Nat} {x : Operand} (hop : o.op = .convert s t x) {v : AV} {u : Upd} (he : exec T E (evalOp st.tmps) ob' d (.convert s t x) = some (v, u)) : Goes P S w0 h0 o a w (st.put o.dst v u) Q := by
  simp only [exec] at he
  split at he
  · rename_i hx hs ht
    injection he with he
    obtain ⟨rfl, rfl⟩ := pair_nil he
    exact (q_conv_int hT k hop hx hs ht rfl).goes k
  · rename_i hx hs ht
    injection he with he
    obtain ⟨rfl, rfl⟩ := pair_nil he
    exact (q_conv_str hT k hop hx hs ht rfl rfl).goes k
  · rename_i hx hs ht
    split at he
    · rename_i hte
      split at he
      · rename_i hr
        obtain ⟨z, h1, h2⟩ := map_pair he
        obtain ⟨rfl, rfl⟩ := pair_nil h2
        exact (q_conv_bytes hT k hop hx hs ht rfl rfl hte rfl hob hr h1).goes k
      · cases he
    · cases he
  · cases he

theorem g_slice (hT : TOk P T) {E : Env} (k : RelAt S w0 h0 st a w β h) {ob' : Obs} {d : Nat} {t : Nat} {x : Operand} {lo hi mx : Option Operand} (hop : o.op = .slice t x lo hi mx) {v : AV} {u : Upd} (he : exec T E (evalOp st.tmps) ob' d (.slice t x lo hi mx) = some (v, u)) : Goes P S w0 h0 o a w (st.put o.dst v u) Q := by
  simp only [exec] at he
  split at he
  · rename_i s l r zero size bytes eq hx hl hr hm ht
    obtain ⟨z, h1, h2⟩ := map_pair he
    obtain ⟨rfl, rfl⟩ := pair_nil h2
    unfold sliceStr at h1
    split at h1
    · rename_i hb
      injection h1 with h1
      subst h1
      have hmx : mx = none := by
        unfold optEval at hm
        split at hm
        · rfl
        · split at hm <;> cases hm
      subst hmx
      exact (q_slice_str k hop (hT t _ ht).und hx hl hr hb).goes k
    · cases h1
  · rename_i id ver sz off len l r m e zero size bytes eq hx hl hr hm ht
    split at he
    · rename_i te hte
      split at he
      · rename_i hsz
        obtain ⟨z, h1, h2⟩ := map_pair he
        obtain ⟨rfl, rfl⟩ := pair_nil h2
        exact (q_slice_ms hT k hop hx hl hr hm ht rfl hte hsz h1).goes k
      · cases he
    · cases he
  · rename_i X l r m e zero size bytes eq _ _ hx hl hr hm ht
    split at he
    · rename_i te rows hte hrows
      obtain ⟨z, h1, h2⟩ := map_pair he
      obtain ⟨rfl, rfl⟩ := pair_nil h2
      exact (q_slice_rows hT k hop hx hl hr hm ht rfl hte hrows h1).goes k
    · cases he
  · cases he

theorem g_fieldAddr (hT : TOk P T) {E : Env} (k : RelAt S w0 h0 st a w β h) {ob' : Obs} {d : Nat} {s f : Nat} {x : Operand} (hop : o.op = .fieldAddr s x f) {v : AV} {u : Upd} (he : exec T E (evalOp st.tmps) ob' d (.fieldAddr s x f) = some (v, u)) : Goes P S w0 h0 o a w (st.put o.dst v u) Q := by
  simp only [exec] at he
  split at he
  · rename_i id ver off fs zero size bytes eq hx ht
    split at he
    · rename_i q ft hf
      split at he
      · rename_i tf hft
        split at he
        · rename_i hpos
          injection he with he
          obtain ⟨rfl, rfl⟩ := pair_nil he
          exact (q_field_ptr hT k hop hx ht rfl hf hft hpos).goes k
        · cases he
      · cases he
    · cases he
  · rename_i cs fs zero size bytes eq hx ht
    split at he
    · rename_i q ft hf
      split at he
      · rename_i tf hft
        split at he
        · rename_i hpos
          injection he with he
          obtain ⟨rfl, rfl⟩ := pair_nil he
          exact (q_field_iptr hT k hop hx ht rfl hf hft hpos).goes k
        · cases he
      · cases he
    · cases he
  · cases he

theorem g_field (hT : TOk P T) {E : Env} (k : RelAt S w0 h0 st a w β h) {ob' : Obs} {d : Nat} {t f : Nat} {x : Operand} (hop : o.op = .field t x f) {v : AV} {u : Upd} (he : exec T E (evalOp st.tmps) ob' d (.field t x f) = some (v, u)) : Goes P S w0 h0 o a w (st.put o.dst v u) Q := by
  simp only [exec] at he
  split at he
  · rename_i ls fs zero size bytes eq hx ht
    split at he
    · rename_i q ft hf
      split at he
      · rename_i tf hft
        split at he
        · rename_i hl
          obtain ⟨z, h1, h2⟩ := map_pair he
          obtain ⟨rfl, rfl⟩ := pair_nil h2
          exact (q_field hT k hop hx ht rfl hf hft hl h1).goes k
        · cases he
      · cases he
    · cases he
  · cases he

theorem g_indexAddr (hT : TOk P T) {E : Env} (k : RelAt S w0 h0 st a w β h) {ob' : Obs} {d : Nat} {t : Nat} {x y : Operand} (hop : o.op = .indexAddr t x y) {v : AV} {u : Upd} (he : exec T E (evalOp st.tmps) ob' d (.indexAddr t x y) = some (v, u)) : Goes P S w0 h0 o a w (st.put o.dst v u) Q := by
  simp only [exec] at he
  split at he
  · rename_i id ver sz off len q n e zero size bytes eq hx hy ht
    split at he
    · rename_i te hte
      split at he
      · rename_i hc
        obtain ⟨h1, h2, h3⟩ := hc
        injection he with he
        obtain ⟨rfl, rfl⟩ := pair_nil he
        exact (q_index_ms hT k hop hx hy ht rfl hte h1 h2 h3).goes k
      · cases he
    · cases he
  · rename_i id ver off q n m e zero size bytes eq hx hy ht
    split at he
    · rename_i te hte
      split at he
      · rename_i hc
        obtain ⟨h1, h2⟩ := hc
        injection he with he
        obtain ⟨rfl, rfl⟩ := pair_nil he
        exact ((q_index_arr hT k hop hx hy ht rfl hte h1 h2).1 _ _ _ rfl).goes k
      · cases he
    · cases he
  · rename_i cs q n m e zero size bytes eq hx hy ht
    split at he
    · rename_i te hte
      split at he
      · rename_i hc
        obtain ⟨h1, h2⟩ := hc
        injection he with he
        obtain ⟨rfl, rfl⟩ := pair_nil he
        exact ((q_index_arr hT k hop hx hy ht rfl hte h1 h2).2 _ rfl).goes k
      · cases he
    · cases he
  · rename_i l q n e zero size bytes eq _ hx hy ht
    split at he
    · rename_i te rows hte hrows
      obtain ⟨z, h1, h2⟩ := map_pair he
      obtain ⟨rfl, rfl⟩ := pair_nil h2
      exact (q_index_rows hT k hop hx hy ht rfl hte hrows h1).goes k
    · cases he
  · cases he

theorem g_index (hT : TOk P T) {E : Env} (k : RelAt S w0 h0 st a w β h) {ob' : Obs} {d : Nat} {t : Nat} {x y : Operand} (hop : o.op = .index t x y) {v : AV} {u : Upd} (he : exec T E (evalOp st.tmps) ob' d (.index t x y) = some (v, u)) : Goes P S w0 h0 o a w (st.put o.dst v u) Q := by
  simp only [exec] at he
  split at he
  · rename_i s q n zero size bytes eq hx hy ht
    split at he
    · rename_i h0n
      obtain ⟨z, h1, h2⟩ := map_pair he
      obtain ⟨rfl, rfl⟩ := pair_nil h2
      exact (q_index_str k hop (hT t _ ht).und hx hy h0n h1).goes k
    · cases he
  · rename_i ls q n m e zero size bytes eq hx hy ht
    split at he
    · rename_i te hte
      split at he
      · rename_i hc
        obtain ⟨h1, h2, h3⟩ := hc
        obtain ⟨z, h4, h5⟩ := map_pair he
        obtain ⟨rfl, rfl⟩ := pair_nil h5
        exact (q_index_agg hT k hop hx hy ht rfl hte h1 h2 h3 h4).goes k
      · cases he
    · cases he
  · cases he

end
end Go.Ai
